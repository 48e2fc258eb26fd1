/- One operation, and calls. -/
import Derived.Test.YtmmofgbjpmhgpaaDoorAm3
set_option linter.all false
set_option linter.unusedVariables false
set_option linter.unusedSimpArgs false
set_option linter.unnecessarySimpa false
namespace Go.Am
open Go Go.RowKit

/-- What a call comes to, whether the callee has a Go body or is one of the model's own. -/
def CallRes (P : Program) (r : Result Next) (R : Value → World → Prop) : Prop :=
  match r with
  | .ok (.value v) w' => R v w'
  | .ok (.enter f args) w' => Calls P f args w' (fun e w'' => ∃ v, e = .returned v ∧ R v w'')
  | _ => False

inductive Reps (w : World) (fz : Nat → Nat → Prop) : List SV → List Value → Prop
  | nil : Reps w fz [] []
  | cons {s : SV} {v : Value} {l : List SV} {vs : List Value} (h : Rep w fz s v) (t : Reps w fz l vs) : Reps w fz (s :: l) (v :: vs)

/-- A function's contract: called with values that mean 'svs', where these are as the contract asks, it returns a value that means what the contract says; nothing that was there before has turned. -/
def ImplAt (P : Program) (w : World) (f : FuncId) (spec : List SV → Spec) : Prop :=
  ∀ (fz : Nat → Nat → Prop) (args : List Value) (svs : List SV), (∀ b o, fz b o → b < w.heap.size) → Reps w fz svs args → (spec svs).pre →
    CallRes P ((callFunc f args.toArray).run P w) (fun v w' => ∃ fz', Ext w fz w' fz' ∧ Rep w' fz' (spec svs).res v)

/-- The same in every world that is as 'G' says (its tables hold what they hold). -/
def Impl (P : Program) (G : World → Prop) (f : FuncId) (spec : List SV → Spec) : Prop := ∀ w, G w → ImplAt P w f spec
/-- What the callees' contracts are known of: every world that may come up. -/
def Know (P : Program) (w0 : World) (c : Cfg) : Prop := ∀ w, Below w0.heap.size w0 w → ∀ f, ImplAt P w f (c.spec f)

section
variable {P : Program} {c : Cfg} {w0 w : World} {fz0 fz : Nat → Nat → Prop} {φ : Own} {m : Mem} {o : Oper} {a : Act} {K : Act → World → Prop} {Q : Exit → Act → World → Prop}

theorem wp_value {x : Sem Value} {v : Value} {w' : World} (he : execOp a.eval o = (do pure (.value (← x)))) (h : x.run P w = .ok v w') (k : K (a.put o.dst v) w') : o.wp P a w K Q := by
  unfold Oper.wp
  rw [he]
  simp only [Sem.run_bind, h, Result.andThen_ok, Sem.run_pure, Oper.upon_value]
  exact k

theorem wp_gives {x : Sem Value} {s : Slot} (hl : ∀ b o, fz b o → b < w.heap.size) (he : execOp a.eval o = (do pure (.value (← x)))) (h : Gives P fz φ w x s)
    (k : ∀ v w' fz', Ext w fz w' fz' → SlotRep w' fz' φ s v → K (a.put o.dst v) w') : o.wp P a w K Q := by
  obtain ⟨v, h1, h2⟩ := h
  exact wp_value he h1 (k v w fz (Ext.refl hl) h2)

theorem reps_map {ρ : Operand → Slot} (hm : RM P w0 fz0 w fz φ m) : ∀ (l : List Operand), (∀ x ∈ l, SlotRep w fz φ (ρ x) (a.eval x)) → Reps w fz (l.map fun x => (ρ x).sv m) (l.map a.eval)
  | [], _ => .nil
  | x :: l, h => .cons ((h x List.mem_cons_self).sv hm) (reps_map hm l fun y hy => h y (List.mem_cons_of_mem _ hy))

theorem wp_callres {f : FuncId} {args : Array Value} (he : execOp a.eval o = callFunc f args) {R : Value → World → Prop} (h : CallRes P ((callFunc f args).run P w) R) (k : ∀ v w', R v w' → K (a.put o.dst v) w') : o.wp P a w K Q := by
  unfold Oper.wp
  rw [he]
  unfold CallRes at h
  split at h
  · rename_i v w' hr
    rw [hr]
    exact k v w' h
  · rename_i g as w' hr
    rw [hr]
    simp only [Oper.upon_enter]
    refine h.mono ?_
    rintro e w'' ⟨v, rfl, hR⟩
    exact k v w'' hR
  · exact h.elim

theorem min_sound {sx sy : SV} {vx vy : Value} {ts : Array TypeId} {t : TypeId} (hx : Rep w fz sx vx) (hy : Rep w fz sy vy) (h : (evMin sx sy).side) : Gives P fz φ w (Builtin.min_ ts t #[vx, vy]) (evMin sx sy).s := by
  unfold evMin at h ⊢
  split at h
  · have hx' : vx = _ := hx
    have hy' : vy = _ := hy
    subst hx' hy'
    exact ⟨_, run_min_int2 w _ _ _ _ _ _, rfl⟩
  · exact h.elim
theorem max_sound {sx sy : SV} {vx vy : Value} {ts : Array TypeId} {t : TypeId} (hx : Rep w fz sx vx) (hy : Rep w fz sy vy) (h : (evMax sx sy).side) : Gives P fz φ w (Builtin.max_ ts t #[vx, vy]) (evMax sx sy).s := by
  unfold evMax at h ⊢
  split at h
  · have hx' : vx = _ := hx
    have hy' : vy = _ := hy
    subst hx' hy'
    exact ⟨_, run_max_int2 w _ _ _ _ _ _, rfl⟩
  · exact h.elim
theorem TI.ik_of {t : TypeId} {k : IntKind} (h : (TI.of P t).ik = some k) : P.underlying t = some (.int k) := by
  unfold TI.of at h
  split at h
  · cases h
  · dsimp only at h
    split at h
    · rename_i e; rw [e]; rw [Option.some.inj h]
    · cases h
theorem TI.kind6 {t : TypeId} (h : (TI.of P t).kind = 6) : P.underlying t = some (.float .f64) := by
  unfold TI.of at h
  split at h
  · cases h
  · dsimp only at h
    cases hu : P.underlying t with
    | none => rw [hu] at h; cases h
    | some d =>
      rw [hu] at h
      have hd : d = .float .f64 := by cases d <;> first | (simp at h; done) | (rename_i k; by_cases hk : k = .f64 <;> simp [hk] at h ⊢)
      rw [hd]
theorem conv_sound {src dst : TypeId} {sx : SV} {vx : Value} (hx : Rep w fz sx vx) (h : (evConv (TI.of P) src dst sx).side) : Gives P fz φ w (convert src dst vx) (evConv (TI.of P) src dst sx).s := by
  unfold evConv at h ⊢
  split at h
  · have hx' : vx = _ := hx
    subst hx'
    split at h
    · rename_i q n _ k hk
      have hu := TI.ik_of hk
      have hik : P.intKind dst = k := by simp [Program.intKind, hu]
      obtain ⟨d, hd⟩ := kind_some h
      have := run_convert_int (P := P) w src dst q n (by rw [hd]; rfl) (by rw [hik]; exact hu)
      rw [hik] at this
      exact ⟨_, this, rfl⟩
    · obtain ⟨h1, h2⟩ := h
      obtain ⟨d, hd⟩ := kind_some h1
      have hu := TI.kind6 h2
      exact ⟨_, by simp [convert, run_underlying hd, run_underlying hu, Conv.intToFloat], rfl⟩
  · have hx' : vx = _ := hx
    subst hx'
    split at h
    · rename_i b q1 q2 k n hk hn
      obtain ⟨h1, h2, h3⟩ := h
      have hu := TI.ik_of hk
      obtain ⟨d, hd⟩ := kind_some h1
      refine ⟨_, ?_, rfl⟩
      simp only [convert, Sem.run_bind, run_underlying hd, run_underlying hu, Result.andThen_ok]
      simp [Conv.floatToInt, hn, h2, h3]
    · exact h.elim
  · exact h.elim

theorem ev_sound (hc : c.ti = TI.of P) (hs : Know P w0 c) (hm : RM P w0 fz0 w fz φ m) {ρ : Operand → Slot} (hρ : ∀ x ∈ opu o.op, SlotRep w fz φ (ρ x) (a.eval x)) (h : (ev c o.op ρ m).side)
    (k : ∀ v w' fz', Ext w fz w' fz' → SlotRep w' fz' φ (ev c o.op ρ m).s v → K (a.put o.dst v) w') : o.wp P a w K Q := by
  obtain ⟨dst, op, type, pos, after, guard⟩ := o
  dsimp only at hρ h k ⊢
  unfold ev at h k
  split at h
  case h_1 x =>
    exact wp_value (x := pure (a.eval x)) (by simp [execOp]) rfl (k _ _ _ (Ext.refl hm.lt) (hρ x (by simp [opu, opl])))
  case h_2 x =>
    exact wp_value (x := pure (a.eval x)) (by simp [execOp]) rfl (k _ _ _ (Ext.refl hm.lt) (hρ x (by simp [opu, opl])))
  case h_3 x y z =>
    obtain ⟨b, h1, h2⟩ := pick_sound (hρ x (by simp [opu])) (hρ y (by simp [opu])) (hρ z (by simp [opu])) h
    exact wp_value (x := pure (if b then a.eval y else a.eval z)) (by simp [execOp, h1, asBool]) rfl (k _ _ _ (Ext.refl hm.lt) h2)
  case h_4 op t x y _ =>
    rw [hc] at h k
    exact wp_gives hm.lt (by simp [execOp]; rfl) (binT_sound ((hρ x (by simp [opu, opl])).sv hm) ((hρ y (by simp [opu, opl])).sv hm) h) k
  case h_5 op t x =>
    exact wp_gives hm.lt (by simp [execOp]) (un_sound ((hρ x (by simp [opu, opl])).sv hm) h) k
  case h_6 t x i =>
    rw [hc] at h k
    exact wp_gives hm.lt (by simp [execOp]) (idx_sound hm (norm_rep hm (hρ x (by simp [opu, opl]))) ((hρ i (by simp [opu, opl])).sv hm) h) k
  case h_7 t x i =>
    rw [hc] at h k
    exact wp_gives hm.lt (by simp [execOp]) (indexV_sound ((hρ x (by simp [opu, opl])).sv hm) ((hρ i (by simp [opu, opl])).sv hm) h) k
  case h_8 t x f =>
    rw [hc] at h k
    exact wp_gives hm.lt (by simp [execOp]) (fieldV_sound ((hρ x (by simp [opu, opl])).sv hm) h) k
  case h_9 t x f =>
    rw [hc] at h k
    exact wp_gives hm.lt (by simp [execOp]) (field_sound (hρ x (by simp [opu, opl])) h) k
  case h_10 t x =>
    rw [hc] at h k
    exact wp_gives hm.lt (by simp [execOp]) (load_sound hm (hρ x (by simp [opu, opl])) h) k
  case h_11 x i =>
    have r := (hρ x (by simp [opu, opl])).sv hm
    split at h
    · rename_i n f he
      dsimp only at k
      rw [he] at r k
      obtain ⟨cs, hv, hn, hcs⟩ := r
      obtain ⟨u, h1, h2⟩ := hcs i h
      exact wp_value (x := Instr.extract (a.eval x) i) (by simp [execOp]) (by simp [Instr.extract, hv, h1]) (k u _ _ (Ext.refl hm.lt) h2)
    · exact h.elim
  case h_12 t l =>
    rw [hc] at h k
    have hb := build_sound (P := P) (w := w) (fz := fz) (φ := φ) (t := t) (vs := l.map fun p => (p.1, a.eval p.2)) (by simp) (fun j p q hp hq => by
      simp only [List.getElem?_map, Option.map_eq_some_iff] at hp hq
      obtain ⟨y, hy, rfl⟩ := hp
      obtain ⟨z, hz, rfl⟩ := hq
      rw [hy] at hz
      obtain rfl := Option.some.inj hz
      exact ⟨rfl, (hρ y.2 (by simp only [opu, opl]; exact List.mem_map.2 ⟨y, List.mem_of_getElem? hy, rfl⟩)).sv hm⟩) h
    exact wp_gives hm.lt (by simp [execOp]) hb k
  case h_13 t n l =>
    rw [hc] at h k
    obtain ⟨v, w', fz', h1, h2, h3⟩ := buildSlice_sound (P := P) (w := w) (fz := fz) (φ := φ) (t := t) (n := n) (vs := l.map fun p => (p.1, a.eval p.2)) hm.lt (by simp) (fun j p q hp hq => by
      simp only [List.getElem?_map, Option.map_eq_some_iff] at hp hq
      obtain ⟨y, hy, rfl⟩ := hp
      obtain ⟨z, hz, rfl⟩ := hq
      rw [hy] at hz
      obtain rfl := Option.some.inj hz
      exact ⟨rfl, (hρ y.2 (by simp only [opu, opl]; exact List.mem_map.2 ⟨y, List.mem_of_getElem? hy, rfl⟩)).sv hm⟩) h
    exact wp_value (by simp [execOp]) h1 (k v w' fz' h2 h3)
  case h_14 t x lo hi =>
    rw [hc] at h k
    have hb := slice_sound (P := P) (w := w) (fz := fz) (φ := φ) (t := t) (vlo := lo.map a.eval) (vhi := hi.map a.eval) ((hρ x (by simp [opu, opl])).sv hm)
      (fun s hs => by
        obtain ⟨y, rfl, rfl⟩ := Option.map_eq_some_iff.1 hs
        exact ⟨_, rfl, (hρ y (by simp [opu, opl])).sv hm⟩) (fun h => by simpa using h)
      (fun s hs => by
        obtain ⟨y, rfl, rfl⟩ := Option.map_eq_some_iff.1 hs
        exact ⟨_, rfl, (hρ y (by simp [opu, opl])).sv hm⟩) (fun h => by simpa using h) h
    exact wp_gives hm.lt (by simp [execOp]) hb k
  case h_15 x t =>
    rw [hc] at h k
    have hb := len_sound (P := P) (t := t) (ty := type) hm (norm_rep hm (hρ x (by simp [opu, opl]))) h
    exact wp_gives hm.lt (by simp [execOp, resolve, invoke, builtin]) hb k
  case h_16 x l _ =>
    have r := (hρ x (by simp [opu, opl])).sv hm
    split at h
    · rename_i f he
      dsimp only at k
      rw [he] at r k
      have hv : a.eval x = .func (.func f) #[] #[] := r
      have hr := reps_map hm (ρ := ρ) l (fun y hy => hρ y (by simp [opu, opl, hy]))
      have hi := hs w hm.below f fz _ _ hm.lt hr h
      exact wp_callres (by simp [execOp, resolve, hv, Deferred.ofValue, invoke]) hi (fun v w' ⟨fz', h1, h2⟩ => k v w' fz' h1 h2)
    · exact h.elim
  case h_17 x y _ =>
    exact wp_gives hm.lt (by simp [execOp, resolve, invoke, builtin]; rfl) (min_sound ((hρ x (by simp [opu, opl])).sv hm) ((hρ y (by simp [opu, opl])).sv hm) h) k
  case h_18 x y _ =>
    exact wp_gives hm.lt (by simp [execOp, resolve, invoke, builtin]; rfl) (max_sound ((hρ x (by simp [opu, opl])).sv hm) ((hρ y (by simp [opu, opl])).sv hm) h) k
  case h_19 src dst x =>
    rw [hc] at h k
    exact wp_gives hm.lt (by simp [execOp]) (conv_sound ((hρ x (by simp [opu, opl])).sv hm) h) k
  case h_20 x =>
    dsimp only at k
    have hx := hρ x (by simp [opu, opl])
    have hn : (∃ b, a.eval x = .pointer (some b)) ∧ evNil (ρ x) = ⟨True, ρ x⟩ := by
      unfold evNil at h ⊢
      split at h
      · rename_i e; rw [e] at hx ⊢
        obtain ⟨b, o, ev, hv, _⟩ := hx
        exact ⟨⟨_, hv⟩, rfl⟩
      · rename_i e; rw [e] at hx ⊢
        exact ⟨⟨_, hx.2⟩, rfl⟩
      · rename_i e; rw [e] at hx ⊢
        obtain ⟨_, b, n, c, _, hv⟩ := hx
        exact ⟨⟨_, hv⟩, rfl⟩
      · exact h.elim
    obtain ⟨⟨b, hv⟩, e⟩ := hn
    rw [e] at k
    exact wp_value (x := pure (a.eval x)) (by simp [execOp, hv]) rfl (k _ _ _ (Ext.refl hm.lt) hx)
  case h_21 x y _ =>
    dsimp only at k
    have h1 := (hρ x (by simp [opu, opl])).sv hm
    have h2 := (hρ y (by simp [opu, opl])).sv hm
    refine wp_gives hm.lt (x := Builtin.complex_ #[] 0 #[a.eval x, a.eval y]) (by simp [execOp, resolve, invoke, builtin]; rfl) ?_ k
    unfold evCplx at h ⊢
    split at h
    · rename_i e1 e2
      rw [e1] at h1
      rw [e2] at h2
      rw [SV_rep_v h1, SV_rep_v h2]
      exact .mk rfl rfl
    · exact h.elim
  case h_22 x _ =>
    dsimp only at k
    have h1 := (hρ x (by simp [opu, opl])).sv hm
    refine wp_gives hm.lt (x := Builtin.real_ #[] 0 #[a.eval x]) (by simp [execOp, resolve, invoke, builtin]; rfl) ?_ k
    unfold evPart at h ⊢
    split at h
    · rename_i e1
      rw [e1] at h1
      rw [SV_rep_v h1]
      exact .mk rfl rfl
    · exact h.elim
  case h_23 x _ =>
    dsimp only at k
    have h1 := (hρ x (by simp [opu, opl])).sv hm
    refine wp_gives hm.lt (x := Builtin.imag_ #[] 0 #[a.eval x]) (by simp [execOp, resolve, invoke, builtin]; rfl) ?_ k
    unfold evPart at h ⊢
    split at h
    · rename_i e1
      rw [e1] at h1
      rw [SV_rep_v h1]
      exact .mk rfl rfl
    · exact h.elim
  · exact h.elim
end
end Go.Am
