/- Regions and code are sound. -/
import Derived.Test.YtmmofgbjpmhgpaaDoorAm8
set_option linter.all false
set_option linter.unusedVariables false
set_option linter.unusedSimpArgs false
set_option linter.unnecessarySimpa false
namespace Go.Am
open Go Go.RowKit

section
variable {P : Program} {c : Cfg} {w0 w : World} {fz0 fz : Nat → Nat → Prop} {φ : Own} {m : Mem} {o : Oper} {a : Act} {T : Nat → Slot}

def boolOf : Value → Option Bool | .bool b => some b | _ => none

theorem want_spec {b : Bool} : ∀ {s : Slot} {y : Value} {g : Bool}, SlotRep w fz φ s y → s.want b = some g → (boolOf y == some b) = g
  | .p x, y, g, h, hw => by
    unfold Slot.want at hw
    split at hw
    · rename_i c e
      cases e
      have h' : y = .bool c := h
      subst h'
      obtain rfl := Option.some.inj hw
      cases c <;> cases b <;> rfl
    · rename_i e; cases e
    · cases hw
  | .gd c s, y, g, h, hw => by
    simp only [Slot.want] at hw
    cases hs : s.want b with
    | none => rw [hs] at hw; cases hw
    | some g' =>
      rw [hs] at hw
      simp only [Option.map_some, Option.some.injEq] at hw
      subst hw
      cases c
      · rw [h.2 rfl]; rfl
      · exact want_spec (h.1 rfl) hs
  | .bx _ _, _, _, _, hw => by cases hw
  | .ow _, _, _, _, hw => by cases hw
  | .rp _ _ _, _, _, _, hw => by cases hw

theorem yielded_eq {ops : Array Oper} {j d : Nat} {tmps : Array Value} (h : gslot ops j = some d) : yielded ops tmps j = boolOf (tmps.getD d undef) := by
  unfold yielded
  unfold gslot at h
  rw [h]
  simp only [Option.bind_some]
  cases hv : tmps[d]? with
  | none =>
    have : tmps.getD d undef = undef := by simp [hv]
    rw [this]; rfl
  | some v =>
    have : tmps.getD d undef = v := by simp [hv]
    rw [this]
    cases v <;> rfl

theorem wanted_none {ops : Array Oper} {tmps : Array Value} (h : o.guard = none) : Region.wanted o (yielded ops tmps) = true := by simp [Region.wanted, h]

theorem wanted_some {ops : Array Oper} {j d : Nat} {want g : Bool} (hg : o.guard = some (j, want)) (hj : gslot ops j = some d) (hs : SlotRep w fz φ (T d) (a.tmps.getD d undef)) (hw : (T d).want want = some g) :
    Region.wanted o (yielded ops a.tmps) = g := by
  simp only [Region.wanted, hg, yielded_eq hj]
  exact want_spec hs hw

theorem okAll_mem {g : Bool} : ∀ {l : List Operand}, okAll g T l → ∀ x ∈ l, (val T x).okG g
  | _ :: _, h, x, hx => by
    rcases List.mem_cons.1 hx with rfl | hx
    · exact h.1
    · exact okAll_mem h.2 x hx

/-- The operands of a guarded operation, when its guard holds. -/
theorem strip_ops (hs : ∀ i, SlotRep w fz φ (T i) (a.tmps.getD i undef)) {op : Op} (hok : okAll true T (opl op)) : ∀ x ∈ opu op, SlotRep w fz φ (if isPick op then val T x else (val T x).strip) (a.eval x) := by
  intro x hx
  cases hp : isPick op with
  | true => simpa using slotRep_val hs x
  | false =>
    simp only [Bool.false_eq_true, if_false]
    refine SlotRep.strip (slotRep_val hs x) (okAll_mem hok x ?_)
    cases op <;> first | exact hx | cases hp

theorem runOps_sound (hc : c.ti = TI.of P) (hs : Know P w0 c) {ops : Array Oper} {N : Nat} (hN : ∀ (i : Nat) (o : Oper) (d : Tmp), ops[i]? = some o → o.dst = some d → d < N) {K : St → Prop} {Q : Exit → Act → World → Prop}
    (hK : ∀ T m a w, K ⟨T, m⟩ → Nxt P w0 fz0 N T m a w → Q .normal a w) :
    ∀ (l : List Oper) (k : Nat) (T : Nat → Slot) (m : Mem) (a : Act) (w : World), (∀ j, l[j]? = ops[k + j]?) → Nxt P w0 fz0 N T m a w → runOps c ops K l T m → wpOps P ops Q (List.range' k l.length) a w
  | [], k, T, m, a, w, _, hn, h => hK T m a w h hn
  | o :: l, k, T, m, a, w, hl, hn, h => by
    have h0 : ops[k]? = some o := by simpa using (hl 0).symm
    have hl' : ∀ j, l[j]? = ops[k + 1 + j]? := fun j => by have := hl (j + 1); simpa [Nat.add_assoc, Nat.add_comm 1 j] using this
    obtain ⟨fz, φ, hrs, hfull, hdf, hsz⟩ := hn
    have hd : ∀ d, o.dst = some d → d < a.tmps.size := fun d hd => by rw [hsz]; exact hN k o d h0 hd
    have nxt : ∀ {T' m' a' w' fz' φ'}, RS P w0 fz0 w' fz' φ' T' m' a' → a'.defers = a.defers → a'.tmps.size = a.tmps.size → (∀ k, k < m'.boxes.length → φ'.bok k) → Nxt P w0 fz0 N T' m' a' w' :=
      fun h1 h2 h3 h4 => ⟨_, _, h1, h4, h2.trans hdf, h3.trans hsz⟩
    simp only [List.length_cons, List.range'_succ, wpOps, h0]
    unfold runOps at h
    split at h
    · rename_i hg
      rw [wanted_none hg, if_pos rfl]
      refine .inl ?_
      split at h
      · rename_i A hA
        exact act_sound hc hrs hd hA h.1 fun a' w' fz' φ' h1 h2 h3 h4 => runOps_sound hc hs hN hK l (k + 1) _ _ a' w' hl' (nxt h1 h2 h3 (h4.all hfull)) h.2
      · exact ev_sound hc hs hrs.mem (fun x _ => slotRep_val hrs.slots x) h.1 fun v w' fz' h1 h2 =>
          runOps_sound hc hs hN hK l (k + 1) _ _ _ w' hl' (nxt ((hrs.ext h1).put hd h2) defers_put size_put hfull) h.2
    · rename_i j want hg
      split at h
      · exact h.elim
      · rename_i d hj
        split at h
        · exact h.elim
        · rename_i g hw
          rw [wanted_some hg hj (hrs.slots d) hw]
          obtain ⟨h1, _, h3, h4⟩ := h
          cases g
          · rw [if_neg (by simp)]
            exact runOps_sound hc hs hN hK l (k + 1) _ _ _ w hl' (nxt (hrs.put hd (s := .gd false _) ⟨fun h => (by cases h), fun _ => rfl⟩) defers_put size_put hfull) h4
          · rw [if_pos rfl]
            refine .inl (ev_sound hc hs hrs.mem (strip_ops hrs.slots h1) (h3 rfl) fun v w' fz' g1 g2 => ?_)
            exact runOps_sound hc hs hN hK l (k + 1) _ _ _ w' hl' (nxt ((hrs.ext g1).put hd (s := .gd true _) ⟨fun _ => g2, fun h => (by cases h)⟩) defers_put size_put hfull) h4

theorem region_sound (hc : c.ti = TI.of P) (hs : Know P w0 c) {id : Nat} {ops : Array Oper} {N : Nat} (hN : ∀ (i : Nat) (o : Oper) (d : Tmp), ops[i]? = some o → o.dst = some d → d < N) {K : St → Prop} {Q : Exit → Act → World → Prop}
    (hK : ∀ T m a w, K ⟨T, m⟩ → Nxt P w0 fz0 N T m a w → Q .normal a w) (hn : Nxt P w0 fz0 N T m a w) (h : runOps c ops K ops.toList T m) : (Code.region id ops false).wp P Q a w := by
  refine wp_region ?_
  rw [List.range_eq_range']
  have := runOps_sound hc hs hN hK ops.toList 0 T m a w (by simp) hn h
  simpa using this
end
end Go.Am
