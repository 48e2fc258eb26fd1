/- Regions that draw their order are sound. -/
import Derived.Test.YtmmofgbjpmhgpaaDoorAm10
set_option linter.all false
set_option linter.unusedVariables false
set_option linter.unusedSimpArgs false
set_option linter.unnecessarySimpa false
namespace Go.Am
open Go Go.RowKit

section
variable {P : Program} {c : Cfg} {w0 w : World} {fz0 fz : Nat → Nat → Prop} {φ : Own} {m : Mem} {o : Oper} {a : Act} {T : Nat → Slot}

theorem call_operands (x : Call) : ∀ y ∈ x.args.toList, y ∈ x.operands.toList := by
  intro y hy
  unfold Call.operands
  cases x.callee <;> simp_all

theorem opl_operands (op : Op) : ∀ x ∈ opu op, x ∈ op.operands.toList := by
  intro x hx
  unfold opu at hx
  split at hx
  · simpa [Op.operands] using hx
  · unfold opl at hx
    split at hx
    all_goals first
      | (simpa [Op.operands] using hx)
      | (simp only [Op.operands, List.mem_cons, List.mem_append, Array.toList_append, Option.mem_toList, Option.mem_def] at hx ⊢; rcases hx with h | h | h <;> simp [h]; done)
      | skip
    all_goals simp_all [Op.operands, Call.operands]

theorem looks_opu {ops : Array Oper} {t : Tmp} {x : Operand} (hx : x ∈ opu o.op) (e : x = .tmp t) : t ∈ o.looksAt ops := by
  subst e
  unfold Oper.looksAt
  refine List.mem_append_left _ (List.mem_filterMap.2 ⟨.tmp t, opl_operands _ _ hx, rfl⟩)

theorem looks_guard {ops : Array Oper} {j d : Nat} {want : Bool} (hg : o.guard = some (j, want)) (hj : gslot ops j = some d) : d ∈ o.looksAt ops := by
  unfold Oper.looksAt
  refine List.mem_append_right _ ?_
  simp only [hg]
  unfold gslot at hj
  rw [hj]
  simp

theorem val_agree {ops : Array Oper} {T T' : Nat → Slot} (h : ∀ d ∈ o.looksAt ops, T d = T' d) {x : Operand} (hx : x ∈ opu o.op) : val T x = val T' x := by
  cases x with
  | tmp t => exact h t (looks_opu hx rfl)
  | _ => rfl

theorem opl_opu {op : Op} (hp : isPick op = false) : opu op = opl op := by
  cases op <;> first | rfl | cases hp

theorem okAll_congr {g : Bool} {T T' : Nat → Slot} : ∀ {l : List Operand}, (∀ x ∈ l, val T x = val T' x) → okAll g T l → okAll g T' l
  | [], _, _ => trivial
  | x :: l, h, hk => ⟨by rw [← h x List.mem_cons_self]; exact hk.1, okAll_congr (fun y hy => h y (List.mem_cons_of_mem _ hy)) hk.2⟩

theorem StepAt.congr {ops : Array Oper} {T T' : Nat → Slot} {v : Slot} (h : ∀ d ∈ o.looksAt ops, T d = T' d) (hs : StepAt c ops o T m v) : StepAt c ops o T' m v := by
  have e : ev c o.op (val T) m = ev c o.op (val T') m := ev_congr c _ m fun x hx => val_agree h hx
  have eg : evG c o.op T m = evG c o.op T' m := ev_congr c _ m fun x hx => by simp only [val_agree h hx]
  rcases hs with ⟨h1, h2, h3⟩ | ⟨j, want, d, g, h1, h2, h3, h4, s, h5, h6⟩
  · exact .inl ⟨h1, e ▸ h2, e ▸ h3⟩
  · refine .inr ⟨j, want, d, g, h1, h2, by rw [← h d (looks_guard h1 h2)]; exact h3, okAll_congr (fun x hx => val_agree h ?_) h4, s, h5, fun hg => by rw [← eg]; exact h6 hg⟩
    cases hp : isPick o.op with
    | false => rw [opl_opu hp]; exact hx
    | true => 
      cases hop : o.op <;> rw [hop] at hp hx <;> first | (simp [isPick] at hp; done) | (simp [opl] at hx)

/-- Where a region that draws its order stands. -/
structure Inv (P : Program) (w0 : World) (fz0 : Nat → Nat → Prop) (c : Cfg) (ops : Array Oper) (N : Nat) (K : St → Prop) (listed : Array Bool) (a : Act) (w : World) (k k1 : Nat) (T : Nat → Slot) (m : Mem) (V : Nat → Slot) (B : Nat → Option Nat) (mE : Mem) (fz : Nat → Nat → Prop) (φ : Own) : Prop where
  seg : Seg c ops k k1 T m V B mE
  stop : (k1 = ops.size ∧ K ⟨valS ops V all1 T k (k1 - k), mE⟩) ∨ ∃ o l', ops[k1]? = some o ∧ isBar o.op = true ∧ (∀ j, (o :: l')[j]? = ops[k1 + j]?) ∧ k1 + (o :: l').length = ops.size ∧ runOps c ops K (o :: l') (valS ops V all1 T k (k1 - k)) mE
  size : listed.size = ops.size
  low : ∀ j, j < k → listed.getD j false = true
  high : ∀ j, k1 ≤ j → listed.getD j false = false
  closed : Closed ops fun j => listed.getD j false
  rs : RS P w0 fz0 w fz φ (valS ops V (fun j => listed.getD j false) T k (k1 - k)) mE a
  bok : ∀ q, φ.bok q ↔ q < m.boxes.length ∨ ∃ j, k ≤ j ∧ j < k1 ∧ listed.getD j false = true ∧ B j = some q
  df : a.defers = []
  sz : a.tmps.size = N

def left (ops : Array Oper) (listed : Array Bool) : Nat := (List.range ops.size).countP fun j => !listed.getD j false

theorem getD_dflt {listed : Array Bool} {j : Nat} (h : j < listed.size) (b : Bool) : listed.getD j b = listed.getD j false := by
  simp [h]

theorem getD_set {listed : Array Bool} {i j : Nat} (h : i < listed.size) : (listed.setIfInBounds i true).getD j false = (listed.getD j false || j == i) := by
  by_cases hij : i = j
  · subst hij
    simp [h]
  · rw [getD_set_ne false hij]
    have : (j == i) = false := by simp; omega
    rw [this, Bool.or_false]

theorem left_set {ops : Array Oper} {listed : Array Bool} {i : Nat} (hs : listed.size = ops.size) (hi : i < ops.size) (hl : listed.getD i false = false) : left ops listed = left ops (listed.setIfInBounds i true) + 1 := by
  unfold left
  rw [count_set (p := fun j => !listed.getD j false) (p' := fun j => !(listed.setIfInBounds i true).getD j false) (i := i) ops.size (by simp only [hl]; rfl) (by rw [getD_set (by omega)]; simp) (fun j hj => by
    have : (j == i) = false := by simpa using hj
    rw [getD_set (by omega), this, Bool.or_false]), if_pos hi]

theorem left_zero {ops : Array Oper} {listed : Array Bool} (h : left ops listed = 0) : ∀ j, j < ops.size → listed.getD j false = true := by
  intro j hj
  unfold left at h
  rw [List.countP_eq_zero] at h
  have := h j (List.mem_range.2 hj)
  simpa using this

/-- Something is always ready, until all has come up. -/
theorem some_ready {ops : Array Oper} {listed : Array Bool} (hf : DrawFacts ops) (hs : listed.size = ops.size) (hr : Region.ready .any ops listed = []) : ∀ j, j < ops.size → listed.getD j false = true := by
  intro j
  induction j using Nat.strongRecOn with
  | _ j ih =>
    intro hj
    cases hl : listed.getD j false with
    | true => rfl
    | false =>
      have : j ∈ Region.ready .any ops listed := by
        rw [mem_ready]
        refine ⟨by rw [getD_dflt (by omega)]; exact hl, ops[j], Array.getElem?_eq_getElem hj, fun e he hb => ?_⟩
        have hd : e.on ∈ direct ops[j] := List.mem_filterMap.2 ⟨e, Array.mem_toList_iff.2 he, by rw [if_pos hb]⟩
        have := hf.below j _ (Array.getElem?_eq_getElem hj) _ hd
        exact ih _ this (by omega)
      rw [hr] at this
      cases this

theorem Inv.nxt {ops : Array Oper} {N : Nat} {K : St → Prop} {listed : Array Bool} {k k1 : Nat} {V : Nat → Slot} {B : Nat → Option Nat} {mE : Mem} (h : Inv P w0 fz0 c ops N K listed a w k k1 T m V B mE fz φ) (hall : ∀ j, k ≤ j → j < k1 → listed.getD j false = true) :
    Nxt P w0 fz0 N (valS ops V all1 T k (k1 - k)) mE a w := by
  refine ⟨fz, φ, ?_, fun q hq => ?_, h.df, h.sz⟩
  · have := h.rs
    rwa [valS_congr (S' := all1) (k1 - k) (fun j h1 h2 => by have := h.seg.le; exact hall j h1 (by omega))] at this
  · rw [h.bok]
    by_cases hq' : q < m.boxes.length
    · exact .inl hq'
    · obtain ⟨j, h1, h2, h3⟩ := h.seg.cover q (by omega) hq
      exact .inr ⟨j, h1, h2, hall j h1 h2, h3⟩

/-- A new piece begins. -/
theorem Inv.start {ops : Array Oper} {N : Nat} {K : St → Prop} {listed : Array Bool} {k : Nat} {l : List Oper} (hl : ∀ j, l[j]? = ops[k + j]?) (hk : k + l.length = ops.size) (hn : Nxt P w0 fz0 N T m a w) (hr : runOps c ops K l T m)
    (hsz : listed.size = ops.size) (hlow : ∀ j, j < k → listed.getD j false = true) (hhigh : ∀ j, k ≤ j → listed.getD j false = false) (hcl : Closed ops fun j => listed.getD j false) :
    ∃ k1 V B mE fz φ, Inv P w0 fz0 c ops N K listed a w k k1 T m V B mE fz φ := by
  obtain ⟨k1, V, B, mE, hseg, hk1, hend⟩ := seg_of_runOps l k T m hl hr
  obtain ⟨fz, φ, hrs, hfull, hdf, hsize⟩ := hn
  refine ⟨k1, V, B, mE, fz, φ, hseg, ?_, hsz, hlow, fun j hj => hhigh j (by have := hseg.le; omega), hcl, ?_, fun q => ⟨fun hq => .inl (hrs.mem.nb q hq), fun hq => ?_⟩, hdf, hsize⟩
  · rw [hk] at hend; exact hend
  · have e : valS ops V (fun j => listed.getD j false) T k (k1 - k) = T := by
      have : ∀ n, valS ops V (fun j => listed.getD j false) T k n = T := fun n => by
        induction n with
        | zero => rfl
        | succ n ih =>
          funext d
          rw [valS, ih, if_neg]
          rintro ⟨e, _⟩
          rw [hhigh (k + n) (by omega)] at e
          cases e
      exact this _
    rw [e]
    obtain ⟨l0, rfl⟩ := hseg.ext
    exact ⟨hrs.mem.moreBoxes l0, hrs.slots⟩
  · rcases hq with hq | ⟨j, h1, _, h3, _⟩
    · exact hfull q hq
    · rw [hhigh j h1] at h3; cases h3

theorem draw_go (hc : c.ti = TI.of P) (hs : Know P w0 c) {ops : Array Oper} (hf : DrawFacts ops) {N : Nat} (hN : ∀ (i : Nat) (o : Oper) (d : Tmp), ops[i]? = some o → o.dst = some d → d < N) {K : St → Prop} {Q : Exit → Act → World → Prop}
    (hK : ∀ T m a w, K ⟨T, m⟩ → Nxt P w0 fz0 N T m a w → Q .normal a w) :
    ∀ (fuel : Nat) (listed : Array Bool) (a : Act) (w : World) (k k1 : Nat) (T : Nat → Slot) (m : Mem) (V : Nat → Slot) (B : Nat → Option Nat) (mE : Mem) (fz : Nat → Nat → Prop) (φ : Own), Inv P w0 fz0 c ops N K listed a w k k1 T m V B mE fz φ → left ops listed = fuel → wpAny P .any ops Q fuel listed a w := by
  have done : ∀ (listed : Array Bool) (a : Act) (w : World) (k k1 : Nat) (T : Nat → Slot) (m : Mem) (V : Nat → Slot) (B : Nat → Option Nat) (mE : Mem) (fz : Nat → Nat → Prop) (φ : Own), Inv P w0 fz0 c ops N K listed a w k k1 T m V B mE fz φ → (∀ j, j < ops.size → listed.getD j false = true) → Q .normal a w := by
    intro listed a w k k1 T m V B mE fz φ h hall
    rcases h.stop with ⟨h1, h2⟩ | ⟨o, l', h1, _⟩
    · exact hK _ _ _ _ h2 (h.nxt fun j _ hj => hall j (by omega))
    · have h3 := hall k1 (Array.getElem?_eq_some_iff.1 h1).1
      rw [h.high k1 (Nat.le_refl _)] at h3
      cases h3
  intro fuel
  induction fuel with
  | zero =>
    intro listed a w k k1 T m V B mE fz φ h hfu
    refine ⟨?_, done _ _ _ _ _ _ _ _ _ _ _ _ h (left_zero hfu)⟩
    rw [List.eq_nil_iff_forall_not_mem]
    intro i hi
    obtain ⟨h1, o, ho, _⟩ := mem_ready.1 hi
    have hlt := (Array.getElem?_eq_some_iff.1 ho).1
    rw [getD_dflt (by rw [h.size]; exact hlt), left_zero hfu i hlt] at h1
    cases h1
  | succ fuel ih =>
    intro listed a w k k1 T m V B mE fz φ h hfu
    refine ⟨fun hr => done _ _ _ _ _ _ _ _ _ _ _ _ h (some_ready hf h.size hr), fun i hi => ?_⟩
    obtain ⟨h1, o, ho, hpre⟩ := mem_ready.1 hi
    have hlt := (Array.getElem?_eq_some_iff.1 ho).1
    rw [getD_dflt (by rw [h.size]; exact hlt)] at h1
    have hdir : ∀ p ∈ direct o, listed.getD p false = true := fun p hp => by
      obtain ⟨e, he, hep⟩ := List.mem_filterMap.1 hp
      split at hep
      · rename_i hb
        obtain rfl := Option.some.inj hep
        exact hpre e (Array.mem_toList_iff.1 he) hb
      · cases hep
    have hpo := predsOf_spec h.closed ho hdir
    have hS' : ∀ j, (listed.setIfInBounds i true).getD j false = (listed.getD j false || j == i) := fun j => getD_set (by rw [h.size]; exact hlt)
    have hcl' : Closed ops fun j => (listed.setIfInBounds i true).getD j false := by
      intro j oj hoj hj p hp
      simp only [hS', Bool.or_eq_true, beq_iff_eq] at hj ⊢
      rcases hj with hj | rfl
      · exact .inl (h.closed j oj hoj hj p hp)
      · rw [ho] at hoj
        obtain rfl := Option.some.inj hoj
        exact .inl (hdir p hp)
    have hki : k ≤ i := by
      rcases Nat.lt_or_ge i k with hlt' | hge
      · rw [h.low i hlt'] at h1; cases h1
      · exact hge
    have hleft := left_set h.size hlt h1
    by_cases hik : i < k1
    · -- within the piece
      obtain ⟨o', ho', hnb, hstep⟩ := h.seg.step i hki hik
      rw [ho] at ho'
      obtain rfl := Option.some.inj ho'
      have agree : ∀ d ∈ o.looksAt ops, valS ops V all1 T k (i - k) d = valS ops V (fun j => listed.getD j false) T k (k1 - k) d := by
        intro d hd
        rw [valS_agree (i := i) (k1 - k) (fun j g1 g2 g3 g4 => ?_) (fun j g1 g2 g4 => ?_) hki, show min (k1 - k) (i - k) = i - k by omega]
        · obtain ⟨oj, hoj, _⟩ := h.seg.step j g1 (by omega)
          rcases hf.pair j i oj o g3 hoj ho with hp | ⟨_, _, hap⟩
          · exact hpo j hp
          · have hdst : oj.dst = some d := by simpa [dstAt, hoj] using g4
            exact absurd hd ((Oper.apart_spec hap).1 d hdst)
        · by_cases hji : j = i
          · subst hji; exact h1
          · obtain ⟨oj, hoj, _⟩ := h.seg.step j (by omega) (by omega)
            cases hlj : listed.getD j false with
            | false => rfl
            | true =>
              rcases hf.pair i j o oj (by omega) ho hoj with hp | ⟨_, _, hap⟩
              · have := predsOf_spec h.closed hoj (h.closed j oj hoj hlj) i hp
                rw [h1] at this; cases this
              · have hdst : oj.dst = some d := by simpa [dstAt, hoj] using g4
                exact absurd hd ((Oper.apart_spec hap).2.2 d hdst)
      have hset : valS ops V (fun j => (listed.setIfInBounds i true).getD j false) T k (k1 - k) = putT (valS ops V (fun j => listed.getD j false) T k (k1 - k)) o.dst (V i) := by
        have e : (fun j => (listed.setIfInBounds i true).getD j false) = fun j => ((fun j => listed.getD j false) j || j == i) := funext hS'
        rw [e, valS_set (i := i) hki h1 (k1 - k) (fun j d g1 g2 g3 g4 => ?_), if_pos (by omega)]
        · simp [dstAt, ho]
        · obtain ⟨oj, hoj, _⟩ := h.seg.step j (by omega) (by omega)
          cases hlj : listed.getD j false with
          | false => rfl
          | true =>
            rcases hf.pair i j o oj (by omega) ho hoj with hp | ⟨_, _, hap⟩
            · have := predsOf_spec h.closed hoj (h.closed j oj hoj hlj) i hp
              rw [h1] at this; cases this
            · have hd1 : o.dst = some d := by simpa [dstAt, ho] using g3
              have hd2 : oj.dst = some d := by simpa [dstAt, hoj] using g4
              exact absurd hd2 ((Oper.apart_spec hap).2.1 d hd1)
      have hd : ∀ d, o.dst = some d → d < a.tmps.size := fun d hd => by rw [h.sz]; exact hN i o d ho hd
      -- what holds next
      have next : ∀ (a' : Act) (w' : World) (fz' : Nat → Nat → Prop) (φ' : Own), RS P w0 fz0 w' fz' φ' (putT (valS ops V (fun j => listed.getD j false) T k (k1 - k)) o.dst (V i)) mE a' → (∀ q, φ'.bok q ↔ (φ.bok q ∨ B i = some q)) → a'.defers = a.defers → a'.tmps.size = a.tmps.size →
          wpAny P .any ops Q fuel (listed.setIfInBounds i true) a' w' := by
        intro a' w' fz' φ' g1 g2 g3 g4
        refine ih _ _ _ k k1 T m V B mE fz' φ' ⟨h.seg, h.stop, by simpa using h.size, fun j hj => ?_, fun j hj => ?_, hcl', by rw [hset]; exact g1, fun q => ?_, g3.trans h.df, g4.trans h.sz⟩ (by omega)
        · rw [hS', h.low j hj]; rfl
        · rw [hS', h.high j hj]
          have : (j == i) = false := by simp; omega
          rw [this]; rfl
        · rw [g2, h.bok]
          constructor
          · rintro ((hq | ⟨j, e1, e2, e3, e4⟩) | hq)
            · exact .inl hq
            · exact .inr ⟨j, e1, e2, by rw [hS', e3]; rfl, e4⟩
            · exact .inr ⟨i, hki, hik, by rw [hS']; simp, hq⟩
          · rintro (hq | ⟨j, e1, e2, e3, e4⟩)
            · exact .inl (.inl hq)
            · rw [hS'] at e3
              simp only [Bool.or_eq_true, beq_iff_eq] at e3
              rcases e3 with e3 | rfl
              · exact .inl (.inr ⟨j, e1, e2, e3, e4⟩)
              · exact .inr e4
      unfold wpOp
      simp only [ho]
      rcases hstep with ⟨hB, hst⟩ | ⟨b, hB, hbm, hal⟩
      · have hno : ∀ q, φ.bok q ↔ (φ.bok q ∨ B i = some q) := fun q => by rw [hB]; simp
        rcases hst.congr agree with ⟨e1, e2, e3⟩ | ⟨j, want, d, g, e1, e2, e3, e4, s, e5, e6⟩
        · rw [wanted_none e1, if_pos rfl]
          refine .inl (ev_sound hc hs h.rs.mem (fun x _ => slotRep_val h.rs.slots x) e2 fun v w' fz' g1 g2 => ?_)
          exact next _ _ _ _ ((h.rs.ext g1).put hd (by rw [e3]; exact g2)) hno defers_put size_put
        · rw [wanted_some e1 e2 (h.rs.slots d) e3]
          cases g
          · rw [if_neg (by simp)]
            exact next _ _ _ _ (h.rs.put hd (by rw [e5]; exact ⟨fun h => (by cases h), fun _ => rfl⟩)) hno defers_put size_put
          · rw [if_pos rfl]
            refine .inl (ev_sound hc hs h.rs.mem (strip_ops h.rs.slots e4) (e6 rfl).1 fun v w' fz' g1 g2 => ?_)
            exact next _ _ _ _ ((h.rs.ext g1).put hd (by rw [e5, (e6 rfl).2]; exact ⟨fun _ => g2, fun h => (by cases h)⟩)) hno defers_put size_put
      · obtain ⟨t, e1, e2, e3, e4, e5⟩ := hal
        rw [wanted_none e1, if_pos rfl]
        refine .inl ?_
        have e3' := e3
        rw [hc] at e3'
        obtain ⟨i', z, hi', hz, rz, zs, zc⟩ := zero_sound (P := P) (w := w) (fz := fz) e3'.1 e3'.2
        refine wp_value (x := Instr.alloc t true (.tuple #[])) (v := .pointer (some ⟨w.heap.size, 0, none⟩)) (w' := w.alloc (.cells z.cells t)) (by simp [execOp, e2]) (by simp [Instr.alloc, zeroValue, typeInfo, hi', hz, newVar, newRow]) ?_
        refine next _ _ fz _ (by
          rw [e4]
          refine h.rs.addBox (bx := ⟨(c.ti t).size, fun i => .p ((c.ti t).zero.cell i)⟩) hd (fun hb => ?_) e5 (by rw [hc]; exact zs) (fun j hj => ?_)
          · rcases (h.bok b).1 hb with hq | ⟨j, q1, q2, q3, q4⟩
            · omega
            · have := h.seg.inj j i b q1 q2 hki hik q4 hB
              subst this
              rw [h1] at q3; cases q3
          · rw [hc] at hj ⊢
            exact zc.2 j hj) (fun q => ?_) defers_put size_put
        · simp only [Own.addBox, hB, Option.some.injEq]
          constructor
          · rintro (h | h)
            · exact .inl h
            · exact .inr h.symm
          · rintro (h | h)
            · exact .inl h
            · exact .inr h.symm
    · -- at what writes
      rcases h.stop with ⟨hk1, _⟩ | ⟨o', l', ho', hbar, hl', hlen, hrun⟩
      · omega
      · have hik' : i = k1 := by
          rcases Nat.lt_or_ge k1 i with hlt' | hge
          · rcases hf.pair k1 i o' o hlt' ho' ho with hp | ⟨hnb, _⟩
            · have := hpo k1 hp
              rw [h.high k1 (Nat.le_refl _)] at this; cases this
            · rw [hbar] at hnb; cases hnb
          · omega
        subst hik'
        rw [ho] at ho'
        obtain rfl := Option.some.inj ho'
        have hall : ∀ j, k ≤ j → j < i → listed.getD j false = true := fun j g1 g2 => by
          rcases hf.pair j i _ o g2 (Array.getElem?_eq_getElem (by omega)) ho with hp | ⟨_, hnb, _⟩
          · exact hpo j hp
          · rw [hbar] at hnb; cases hnb
        refine wpOp_mono (fun a' w' hx => ?_) (step_sound hc hs hN ho (h.nxt hall) hrun)
        obtain ⟨T', m', hn', hr'⟩ := hx
        obtain ⟨k1', V', B', mE', fz', φ', hinv⟩ := Inv.start (listed := listed.setIfInBounds i true) (k := i + 1) (l := l') (fun j => by have := hl' (j + 1); simpa [Nat.add_assoc, Nat.add_comm 1 j] using this) (by simp at hlen; omega) hn' hr' (by simpa using h.size) (fun j hj => by
            rw [hS']
            by_cases e : j = i
            · simp [e]
            · rcases Nat.lt_or_ge j k with e' | e'
              · rw [h.low j e']; rfl
              · rw [hall j e' (by omega)]; rfl) (fun j hj => by
            rw [hS', h.high j (by omega)]
            have : (j == i) = false := by simp; omega
            rw [this]; rfl) hcl'
        exact ih _ _ _ _ _ _ _ _ _ _ _ _ hinv (by omega)

/-- A region that draws its order does what the order of the text does. -/
theorem draw_sound (hm : P.follows .mixedOrders = true) (hc : c.ti = TI.of P) (hs : Know P w0 c) {id : Nat} {ops : Array Oper} (hf : drawOK ops = true) {N : Nat} (hN : ∀ (i : Nat) (o : Oper) (d : Tmp), ops[i]? = some o → o.dst = some d → d < N) {K : St → Prop} {Q : Exit → Act → World → Prop}
    (hK : ∀ T m a w, K ⟨T, m⟩ → Nxt P w0 fz0 N T m a w → Q .normal a w) (hn : Nxt P w0 fz0 N T m a w) (h : runOps c ops K ops.toList T m) : (Code.region id ops true).wp P Q a w := by
  refine wp_region_any hm ?_
  obtain ⟨fz, φ, hrs, h1, h2, h3⟩ := hn
  have hn' : Nxt P w0 fz0 N T m a { w with drawn := w.drawn + 1 } := ⟨fz, φ, hrs.ext ⟨⟨rfl, rfl, rfl, Nat.le_refl _, fun _ _ => rfl⟩, fun _ _ h => h, fun _ _ h => .inl h, hrs.mem.lt⟩, h1, h2, h3⟩
  have hno : ∀ j, (Array.replicate ops.size false).getD j false = false := fun j => by simp [Array.getElem?_replicate]; split <;> rfl
  obtain ⟨k1, V, B, mE, fz', φ', hinv⟩ := Inv.start (listed := Array.replicate ops.size false) (k := 0) (l := ops.toList) (by simp) (by simp) hn' h (by simp) (fun j hj => by omega) (fun j _ => hno j) (fun j o _ hj => by have e := hno j; dsimp only at hj; rw [e] at hj; cases hj)
  refine draw_go hc hs (drawFacts hf) hN hK _ _ _ _ _ _ _ _ _ _ _ _ _ hinv ?_
  unfold left
  rw [List.countP_eq_length.2 (fun j _ => by rw [hno j]; rfl), List.length_range]
end
end Go.Am
