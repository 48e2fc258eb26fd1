/- Functions: a contract from what the abstract machine makes of the body. -/
import Derived.Test.YtmmofgbjpmhgpaaDoorAm12
set_option linter.all false
set_option linter.unusedVariables false
set_option linter.unusedSimpArgs false
set_option linter.unnecessarySimpa false
namespace Go.Am
open Go Go.RowKit

/-- What a result means, when the call is over and nothing of its own is written any more. -/
def finR (c : Cfg) (m : Mem) : Slot → R
  | .p x => ⟨True, .p x⟩
  | .ow k => match m.rows[k]? with
    | some r => match r.s with
      | .sl _ n e f => ⟨r.live = true ∧ e = (c.ti r.ty).size, .p (.sl false n e f)⟩
      | _ => no
    | none => no
  | _ => ⟨True, .p .dead⟩
def resR (c : Cfg) (s : St) : ResultVar → R
  | .tmp t => finR c s.m (s.t t)
  | .cell a t => ⟨(evLoad c.ti t s.m (s.t a)).side ∧ (finR c s.m (evLoad c.ti t s.m (s.t a)).s).side, (finR c s.m (evLoad c.ti t s.m (s.t a)).s).s⟩
def slotP : Slot → SV | .p x => x | _ => .dead
def retSV : List SV → SV
  | [x] => x
  | l => .tup l.length (list l)
def sides : List R → Prop
  | [] => True
  | r :: l => r.side ∧ sides l
def retK (c : Cfg) (rs : List ResultVar) (K : SV → Prop) : Exit → St → Prop
  | .normal, s | .ret, s => sides (rs.map (resR c s)) ∧ K (retSV (rs.map fun r => slotP (resR c s r).s))
  | _, _ => False

def argSt (svs : List SV) : St := ⟨fun i => .p (list svs i), ⟨[], []⟩⟩

section
variable {P : Program} {c : Cfg} {w0 w : World} {fz0 fz : Nat → Nat → Prop} {φ : Own} {m : Mem} {o : Oper} {a : Act} {T : Nat → Slot}

def frozen (w0 w : World) (fz : Nat → Nat → Prop) : Nat → Nat → Prop := fun b o => fz b o ∨ (w0.heap.size ≤ b ∧ b < w.heap.size)

theorem fin_sound (hc : c.ti = TI.of P) (hm : RM P w0 fz0 w fz φ m) {s : Slot} {v : Value} (hv : SlotRep w fz φ s v) (h : (finR c m s).side) : Rep w (frozen w0 w fz) (slotP (finR c m s).s) v := by
  have mono : ∀ b o, fz b o → frozen w0 w fz b o ∧ w.cell? ⟨b, o, none⟩ = w.cell? ⟨b, o, none⟩ := fun b o h => ⟨.inl h, rfl⟩
  cases s with
  | p x => exact Rep.mono mono _ _ hv
  | ow k =>
    simp only [finR] at h ⊢
    cases hk : m.rows[k]? with
    | none => rw [hk] at h; exact h.elim
    | some r =>
      rw [hk] at h
      dsimp only at h ⊢
      cases hs : r.s <;> rw [hs] at h <;> dsimp only at h ⊢ <;> first | exact h.elim | skip
      rename_i ex n e f
      obtain ⟨hl, he⟩ := h
      have hv2 := hv.2
      rw [hc] at he
      rcases ((hm.row k r hk).1 hl).shape with ⟨e1, e2⟩ | ⟨b, cp, cur, e1, e2, e3, e4, e5, e6, e7, _⟩
      · rw [hs] at e2
        simp only [SV.len] at e2
        subst e2
        exact ⟨none, 0, hv2.trans e1, Nat.le_refl _, fun h => (by cases h), fun h => absurd h (Nat.lt_irrefl _)⟩
      · rw [hs] at e1 e5 e7
        simp only [SV.len] at e1 e5 e7
        refine ⟨_, cp, hv2.trans e1, e5, fun h => (by cases h), fun h0 => ⟨b, 0, rfl, fun i hi => ?_⟩⟩
        obtain ⟨ev, g1, g2, g3⟩ := e7 i hi
        simp only [SV.idx] at g1
        refine ⟨ev, Rep.mono mono _ _ g1, by rw [he]; exact g2, fun j hj => ?_⟩
        rw [he] at hj
        obtain ⟨u, q1, q2, q3⟩ := g3 j hj
        have hbl : b < w.heap.size := (Array.getElem?_eq_some_iff.1 e3).1
        refine ⟨u, q1, q2, ?_, .inr ⟨e2, hbl⟩⟩
        rw [he]
        simp [World.cell?, e3, q3, Nat.zero_add]
  | _ => trivial

def resM (tmps : Array Value) : ResultVar → Sem Value
  | .tmp t => pure (tmps.getD t undef)
  | .cell a t => do loadVar t (← asAddr (tmps.getD a undef))
theorem res_sound (hc : c.ti = TI.of P) (hrs : RS P w0 fz0 w fz φ T m a) (rv : ResultVar) (h : (resR c ⟨T, m⟩ rv).side) :
    ∃ v, (resM a.tmps rv).run P w = .ok v w ∧ Rep w (frozen w0 w fz) (slotP (resR c ⟨T, m⟩ rv).s) v := by
  cases rv with
  | tmp t => exact ⟨_, rfl, fin_sound hc hrs.mem (hrs.slots t) h⟩
  | cell x t =>
    obtain ⟨h1, h2⟩ := h
    have h1' := h1
    simp only [hc] at h1'
    obtain ⟨v, g1, g2⟩ := load_sound hrs.mem (hrs.slots x) h1'
    refine ⟨v, ?_, ?_⟩
    · simp only [resM]
      generalize a.tmps.getD x undef = vx at g1 ⊢
      unfold Instr.loadAt at g1
      cases vx with
      | pointer p => cases p with
        | some ad => simpa [Instr.sureAddr, asAddr] using g1
        | none => simp [Instr.sureAddr] at g1
      | _ => simp [Instr.sureAddr] at g1
    · have := fin_sound hc hrs.mem (s := (evLoad c.ti t m (T x)).s) (by rw [hc]; exact g2) h2
      exact this

theorem results_sound (hc : c.ti = TI.of P) (hrs : RS P w0 fz0 w fz φ T m a) : ∀ (l : List ResultVar), sides (l.map (resR c ⟨T, m⟩)) →
    ∃ vs : List Value, (l.mapM (resM a.tmps)).run P w = .ok vs w ∧
      Reps w (frozen w0 w fz) (l.map fun r => slotP (resR c ⟨T, m⟩ r).s) vs
  | [], _ => ⟨[], by simp, .nil⟩
  | rv :: l, h => by
    obtain ⟨v, h1, h2⟩ := res_sound hc hrs rv h.1
    obtain ⟨vs, h3, h4⟩ := results_sound hc hrs l h.2
    refine ⟨v :: vs, ?_, .cons h2 h4⟩
    rw [List.mapM_cons]
    simp only [Sem.run_bind, h1, h3, Result.andThen_ok, Sem.run_pure]

theorem Reps.length : ∀ {l : List SV} {vs : List Value}, Reps w fz l vs → vs.length = l.length
  | _, _, .nil => rfl
  | _, _, .cons _ t => by simp [Reps.length t]
theorem Reps.get : ∀ {l : List SV} {vs : List Value} {i : Nat} {v : Value}, Reps w fz l vs → vs[i]? = some v → Rep w fz (list l i) v
  | _, _, 0, _, .cons h _, e => by
    simp only [List.getElem?_cons_zero, Option.some.injEq] at e
    subst e; exact h
  | _ :: l, _ :: vs, i + 1, v, .cons _ t, e => Reps.get (l := l) (vs := vs) (i := i) t (by simpa using e)
  | _, _, _, _, .nil, e => by simp at e

theorem ret_sound {l : List SV} {vs : List Value} (h : Reps w fz l vs) : Rep w fz (retSV l) (if h : vs.toArray.size = 1 then vs.toArray[0] else .tuple vs.toArray) := by
  have hl := h.length
  match l, vs, h, hl with
  | [x], [v], .cons h1 _, _ => exact h1
  | [], [], _, _ => exact ⟨#[], rfl, rfl, fun i hi => by cases hi⟩
  | x :: y :: l, v :: u :: vs, h, hl =>
    rw [dif_neg (by simp)]
    refine ⟨_, rfl, by simpa using hl, fun i hi => ?_⟩
    have hi' : i < (v :: u :: vs).length := by rw [hl]; exact hi
    exact ⟨(v :: u :: vs)[i], by simp [List.getElem?_eq_getElem hi'], h.get (List.getElem?_eq_getElem hi')⟩

theorem impl_of_wp {G : World → Prop} (hG : ∀ w w', G w → Below w.heap.size w w' → G w') (hmx : P.follows .mixedOrders = true) (hc : c.ti = TI.of P) (hs : ∀ f, Impl P G f (c.spec f)) {f : FuncId} {fn : Func} {code : Code} {spec : List SV → Spec} (hf : P.funcs[f]? = some fn) (hb : fn.body = some code) (hname : fn.name ≠ "runtime.NumGoroutine")
    (hN : codeN c.un fn.ntmps code = true) (hlen : ∀ svs, (spec svs).pre → svs.length ≤ fn.ntmps) (h : ∀ svs, (spec svs).pre → wp c code (retK c fn.results.toList fun r => SV.le r (spec svs).res) (argSt svs)) : Impl P G f spec := by
  intro w hw fz args svs hlt hargs hpre
  have hs : Know P w c := fun w' hb f => hs f w' (hG _ _ hw hb)
  have hrun : (callFunc f args.toArray).run P w = .ok (.enter f args.toArray) w := by
    simp [callFunc, hf, hb, hname]
  rw [hrun]
  refine calls_of_wp hf hb ?_
  have hlen' : args.length ≤ fn.ntmps := by rw [hargs.length]; exact hlen _ hpre
  refine wp_sound (w0 := w) (fz0 := fz) (N := fn.ntmps) hmx hc hs code _ _ _ _ _ _ hN ?_ ?_ (h svs hpre)
  · intro e T m a w' he hn
    obtain ⟨fz', φ, hrs, _, hdf, hsz⟩ := hn
    have key : sides (fn.results.toList.map (resR c ⟨T, m⟩)) ∧ SV.le (retSV (fn.results.toList.map fun r => slotP (resR c ⟨T, m⟩ r).s)) (spec svs).res →
        a.defers = [] ∧ ∃ v, (results fn a.tmps).run P w' = .ok v w' ∧ ∃ v', Ending.returned v = .returned v' ∧ ∃ fz'', Ext w fz w' fz'' ∧ Rep w' fz'' (spec svs).res v' := by
      rintro ⟨h1, h2⟩
      obtain ⟨vs, g1, g2⟩ := results_sound hc hrs _ h1
      refine ⟨hdf, _, ?_, _, rfl, frozen w w' fz', ⟨hrs.mem.below, fun b o x => .inl (hrs.mem.more0 b o x), fun b o x => ?_, fun b o x => ?_⟩, SV.le_sound h2 (ret_sound g2)⟩
      · have e : fn.results.mapM (resM a.tmps) = List.toArray <$> fn.results.toList.mapM (resM a.tmps) := Array.mapM_eq_mapM_toList
        have e2 : results fn a.tmps = (do let vs ← fn.results.mapM (resM a.tmps); pure (if h : vs.size = 1 then vs[0] else .tuple vs)) := by
          unfold results
          rfl
        rw [e2, e]
        simp only [Sem.run_bind, Sem.run_map, g1, Result.andThen_ok, Sem.run_pure]
      · rcases x with x | x
        · exact hrs.mem.only0 b o x
        · exact .inr x.1
      · rcases x with x | x
        · exact hrs.mem.lt b o x
        · exact x.2
    cases e <;> first | exact key he | exact he.elim
  · refine ⟨fz, ⟨fun _ => 0, fun _ => undef, fun _ => 0, fun _ => False, 0⟩, ⟨{ more0 := fun _ _ h => h, only0 := fun _ _ h => .inl h, below := Below.refl _ _, lt := hlt, box := fun _ _ h => h.elim, row := fun k r h => by simp [argSt] at h, esz := fun k r h => by simp [argSt] at h, nb := fun _ h => h.elim, nr := rfl, dbb := fun _ _ h => h.elim, dbr := fun _ _ _ h => h.elim, drr := fun k k' r r' b h => by simp [argSt] at h }, fun i => ?_⟩, fun k hk => by simp [argSt] at hk, rfl, by simp; omega⟩
    show Rep w fz (list svs i) _
    by_cases hi : i < args.length
    · have e : (args.toArray ++ Array.replicate (fn.ntmps - args.toArray.size) undef).getD i undef = args[i] := by
        simp [Array.getElem?_append, hi]
      rw [e]
      exact hargs.get (List.getElem?_eq_getElem hi)
    · have hd : ∀ (l : List SV) (i : Nat), l.length ≤ i → list l i = .dead := fun l => by
        induction l with
        | nil => intro i _; cases i <;> rfl
        | cons x l ih =>
          intro i hi
          cases i with
          | zero => simp at hi
          | succ i => exact ih i (by simpa using hi)
      rw [hd svs i (by rw [← hargs.length]; omega)]
      trivial

/-! ### The contracts of the callees -/
def lookS : List (FuncId × (List SV → Spec)) → FuncId → List SV → Spec
  | [], _ => fun _ => noSpec
  | (g, s) :: r, f => if f = g then s else lookS r f
inductive Impls (P : Program) (G : World → Prop) : List (FuncId × (List SV → Spec)) → Prop
  | nil : Impls P G []
  | cons {g : FuncId} {s : List SV → Spec} {r : List (FuncId × (List SV → Spec))} (h : Impl P G g s) (t : Impls P G r) : Impls P G ((g, s) :: r)
theorem impl_look {G : World → Prop} : ∀ {l : List (FuncId × (List SV → Spec))}, Impls P G l → ∀ f, Impl P G f (lookS l f)
  | _, .nil, f => fun _ _ _ _ _ _ _ h => h.elim
  | _, .cons (g := g) h t, f => by
    by_cases e : f = g
    · subst e; simp only [lookS, if_true]; exact h
    · simp only [lookS, e, if_false]; exact impl_look t f
end
end Go.Am
