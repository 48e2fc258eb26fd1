/- From a row's arguments to the machine's values, and from a contract to the row's answer. -/
import Derived.Test.YtmmofgbjpmhgpaaDoorAm15
import Derived.Deep.Slices
import Derived.Deep.Strs
import Derived.Carry
import Derived.OpenShut
import Derived.ProofKit
import Derived.Lib.LaidTab
set_option linter.all false
set_option linter.unusedVariables false
set_option linter.unusedSimpArgs false
set_option linter.unnecessarySimpa false
namespace Go.Am
open Go Go.ChangeShapes Go.WideShapes Go.RowKit Go.Deep

section
variable {H : Type} {enc : TypeId × Value → H} {P : Program} {w W W' : World} {r : Reach} {b0 : Nat} {v : Value} {d : DataW H} {ps : List MemPlace} {t e : TypeId}

/-- All that lies in the memory lies still. -/
def still (w : World) : Nat → Nat → Prop := fun b _ => b < w.heap.size
theorem still_lt (w : World) : ∀ b o, still w b o → b < w.heap.size := fun _ _ h => h
theorem cell_lt {a : Addr} {u : Value} (h : w.cell? a = some u) : a.block < w.heap.size := by
  rcases Nat.lt_or_ge a.block w.heap.size with h' | h'
  · exact h'
  · have : w.heap[a.block]? = none := Array.getElem?_eq_none h'
    simp [World.cell?, this] at h

/-- What an element's cells mean. -/
def Elem (enc : TypeId × Value → H) (P : Program) (W : World) (e : TypeId) {α : Type} (encA : α → SV) (ok : α → Prop) : Prop :=
  ∀ fuel cs x, DataW.trod enc P W 0 (fun _ => true) true fuel e cs = some x → ∃ a, ok a ∧ ∃ ev, Rep W (still W) (encA a) ev ∧ ev.cells.toList = cs ∧ ∀ u ∈ cs, u.oneCell' = true

theorem elem_int {k : IntKind} (ht : P.underlying e = some (.int k)) : Elem enc P W e (fun n : Int => .v (.int k n)) (fun n => (Lit.int k n).wf = true) := fun fuel cs x h => by
  obtain ⟨n, rfl, rfl, hw⟩ := DataW.trod_int ht h
  exact ⟨n, hw, .int k n, rfl, rfl, fun u hu => by simp only [List.mem_singleton] at hu; subst hu; rfl⟩

theorem rep_slice {α : Type} [Inhabited α] {encA : α → SV} {ok : α → Prop} {k : Nat} (ht : P.underlying t = some (.slice e)) (hk : P.cellsOf e = k) (hk0 : 0 < k) (he : Elem enc P W e encA ok) (hv : Value.okWide P W r b0 t v)
    (h : DataW.Trod enc P W 0 (fun _ => true) true t v d ps) : ∃ l : List α, (∀ a ∈ l, ok a) ∧ l.length ≤ maxLen ∧ Rep W (still W) (encL encA k l) v ∧ ((d = .nil ∧ l = []) ∨ ∃ D rest, d = .slice ((List.range l.length).map D) rest) := by
  obtain ⟨a, len, cap, rfl⟩ := okWide_slice ht hv
  obtain ⟨fuel, hf⟩ := h
  rcases open_slice ht hf with ⟨hcs, hx⟩ | ⟨a', len', cap', m, n, D, Pl, hcs, _, hl, hm, hmm, hx, hi⟩
  · simp [Value.cells] at hcs
    obtain ⟨rfl, rfl, rfl⟩ := hcs
    simp only [Prod.mk.injEq] at hx
    exact ⟨[], fun a ha => (by cases ha), Nat.zero_le _, ⟨none, 0, rfl, Nat.le_refl _, fun h => (by cases h), fun h => absurd h (Nat.lt_irrefl _)⟩, .inl ⟨hx.1, rfl⟩⟩
  · simp [Value.cells] at hcs
    obtain ⟨rfl, rfl, rfl⟩ := hcs
    simp only [Prod.mk.injEq] at hx
    have hmm' : m = cap := by simpa using hmm
    subst hmm'
    have each : ∀ i, i < len → ∃ y : α, ok y ∧ ∃ ev, Rep W (still W) (encA y) ev ∧ W.cells? 0 (a'.add (i * k)) k = some ev.cells.toList ∧ ∀ u ∈ ev.cells.toList, u.oneCell' = true := fun i h => by
      obtain ⟨cs', h1, h2⟩ := hi i (by omega)
      obtain ⟨y, g1, ev, g2, g3, g4⟩ := he _ _ _ h2
      rw [hk] at h1
      exact ⟨y, g1, ev, g2, by rw [g3]; exact h1, by rw [g3]; exact g4⟩
    obtain ⟨f, hf'⟩ := choose_lt each
    have hget : ∀ i, i < len → ((List.range len).map f).getD i default = f i := fun i h => by simp [List.getD_eq_getElem?_getD, h]
    refine ⟨(List.range len).map f, fun y hy => ?_, by simpa using Nat.le_trans hl hm, ⟨some a', m, by simp, by simpa using hl, fun h => (by cases h), fun h0 => ?_⟩, .inr ⟨D, _, by simpa using hx.1⟩⟩
    · obtain ⟨i, h1, rfl⟩ := List.mem_map.1 hy
      exact (hf' i (List.mem_range.1 h1)).1
    · have h0' : 0 < len := by simpa using h0
      obtain ⟨b, off, spot⟩ := a'
      have hspot : spot = none := by
        obtain ⟨_, ev, _, hc, _⟩ := hf' 0 h0'
        obtain ⟨_, hlen, hat⟩ := World.cells?_some hc
        have h2 := hat 0 hk0
        rw [List.getElem?_eq_getElem (by omega)] at h2
        simpa [Addr.add] using World.cell?_spot h2
      subst hspot
      refine ⟨b, off, rfl, fun i h => ?_⟩
      have h' : i < len := by simpa using h
      obtain ⟨_, ev, g1, hc, g4⟩ := hf' i h'
      obtain ⟨_, hlen, hat⟩ := World.cells?_some hc
      refine ⟨ev, by dsimp only; rw [hget i h']; exact g1, by simpa using hlen, fun j hj => ?_⟩
      have h3 := hat j hj
      rw [Go.WideShapes.add_plain, Go.WideShapes.add_plain] at h3
      have h4 : ev.cells.toList[j]? = some ev.cells.toList[j] := List.getElem?_eq_getElem (by omega)
      refine ⟨ev.cells.toList[j], by simpa using h4, g4 _ (List.getElem_mem _), h3.trans h4, ?_⟩
      exact cell_lt (h3.trans h4)

/-- The arguments read as they did, in a world in which nothing old has turned. -/
theorem all_stays (hl : laidOutB P = true) (hb : Below W.heap.size W W') {sp' : Nat → Bool} : ∀ {ts : List TypeId} {vs : List Value} {ds : List (DataW H)} {ps : List MemPlace}, (∀ t ∈ ts, P.readableRec t = true ∧ t < P.types.size) →
    DataW.TrodAll enc P W 0 (fun _ => true) true ts vs ds ps → (∀ p ∈ ps, p.block < W.heap.size) → (∀ p ∈ ps, sp' p.block = true) → DataW.TrodAll enc P W' 0 sp' true ts vs ds ps
  | [], [], [], _, _, h, _, _ => h
  | t :: ts, v :: vs, d :: ds, _, hT, ⟨p, q, h1, h2, e⟩, hlt, hs => by
    subst e
    refine ⟨p, q, ?_, all_stays hl hb (fun t ht => hT t (List.mem_cons_of_mem _ ht)) h2 (fun x hx => hlt x (List.mem_append_right _ hx)) (fun x hx => hs x (List.mem_append_right _ hx)), rfl⟩
    have := hT t List.mem_cons_self
    exact WideElems.Trod_stays hl this.1 this.2 h1 (fun x hx => hb.same (hlt x (List.mem_append_left _ hx))) (fun x hx => hs x (List.mem_append_left _ hx))

/-- What a law's row asks, of a contract that says that it returns true. -/
theorem post_true {f : FuncId} {fn : Func} {s : ChangeSpec} {apart : Bool} {args : Array Value} {ds gs : List (DataW H)} {before : List MemPlace} {tb : TypeId}
    (hl : laidOutB P = true) (hT : ∀ t ∈ fn.params.toList, P.readableRec t = true ∧ t < P.types.size) (hr : fn.resultTypes = #[tb]) (htb : P.underlying tb = some .bool) (hvars : s.vars = [])
    (hs : ∀ ds : List (DataW H), ds.length = fn.params.size → s.fn H ds = { results := [.lit (.bool true)], args := ds })
    (hW : DataW.Whole enc P fn.params.toList s.vars apart W args.toList ds gs before)
    (hc : Calls P f args W fun e w' => e = .returned (.bool true) ∧ Below W.heap.size W w') :
    Calls P f args W fun e W' => ∃ v, e = .returned v ∧ s.post enc P fn apart true false false W args v W' := by
  refine hc.mono fun e W' ⟨he, hb⟩ => ⟨_, he, ?_⟩
  have hlt := hW.lt
  have hW' := hW
  obtain ⟨p, q, hA, hV, rfl, hfz, hnd⟩ := hW
  rw [hvars] at hV
  obtain ⟨rfl, rfl⟩ := trodVars_none hV
  have hlen : ∀ {ts : List TypeId} {vs : List Value} {ds : List (DataW H)} {ps : List MemPlace}, DataW.TrodAll enc P W 0 (fun _ => true) true ts vs ds ps → ds.length = ts.length := by
    intro ts
    induction ts with
    | nil => intro vs ds ps h; obtain ⟨_, rfl, _⟩ := trodAll_nil h; rfl
    | cons t ts ih =>
      intro vs ds ps h
      obtain ⟨v, vs1, d, ds1, a, b, rfl, rfl, rfl, h1, h2⟩ := trodAll_cons h
      simp [ih h2]
  have hn : ds.length = fn.params.size := by rw [hlen hA]; simp
  have hfn : s.fn H (ds ++ []) = { results := [.lit (.bool true)], args := ds } := by rw [List.append_nil]; exact hs ds hn
  have hsz : fn.resultTypes.size = 1 := by rw [hr]; rfl
  have res : ∀ (b : Nat) (sp : Nat → Bool) (hd : Bool), DataW.TrodAll enc P W' b sp hd fn.resultTypes.toList ((Value.bool true).resultList fn.resultTypes.size) (s.fn H (ds ++ [])).results [] := fun b sp hd => by
    rw [hfn, hr]
    exact trodAll_cons_mk (p := []) (p' := []) (shut_bool htb true) trodAll_mk0
  have arg : ∀ sp : Nat → Bool, (∀ x ∈ p, sp x.block = true) → DataW.TrodAll enc P W' 0 sp true fn.params.toList args.toList (s.fn H (ds ++ [])).args p := fun sp hsp => by
    rw [hfn]
    exact all_stays hl hb hT hA (fun x hx => hlt x (List.mem_append_left _ hx)) hsp
  have var : ∀ sp : Nat → Bool, DataW.TrodVars enc P W' sp s.vars (s.fn H (ds ++ [])).vars [] := fun sp => by
    rw [hfn, hvars]; rfl
  refine ⟨ds, [], p ++ [], [], p, [], hW', res _ _ _, arg _ (fun x hx => ?_), var _, World.keptBut_mono (fun x hx => hx) (hb.frame _), fun h => (by cases h)⟩
  simpa using hlt x (List.mem_append_left _ hx)

/-- A contract's call. -/
theorem impl_calls {G : World → Prop} {f : FuncId} {fn : Func} {code : Code} {spec : List SV → Spec} (h : Impl P G f spec) (hf : P.funcs[f]? = some fn) (hb : fn.body = some code) (hname : fn.name ≠ "runtime.NumGoroutine") (hw : G W) {args : Array Value} {svs : List SV}
    (ha : Reps W (still W) svs args.toList) (hp : (spec svs).pre) (hres : (spec svs).res = .v (.bool true)) : Calls P f args W fun e w' => e = .returned (.bool true) ∧ Below W.heap.size W w' := by
  have h1 := h W hw (still W) args.toList svs (still_lt W) ha hp
  have hrun : (callFunc f args.toList.toArray).run P W = .ok (.enter f args.toList.toArray) W := by
    simp [callFunc, hf, hb, hname]
  rw [hrun] at h1
  refine Calls.mono (R := fun e w'' => ∃ v, e = .returned v ∧ ∃ fz', Ext W (still W) w'' fz' ∧ Rep w'' fz' (spec svs).res v) (by simpa [CallRes] using h1) ?_
  rintro e w' ⟨v, rfl, fz', he, hr⟩
  rw [hres] at hr
  have hr : v = .bool true := hr
  subst hr
  exact ⟨rfl, he.below⟩
end
end Go.Am
