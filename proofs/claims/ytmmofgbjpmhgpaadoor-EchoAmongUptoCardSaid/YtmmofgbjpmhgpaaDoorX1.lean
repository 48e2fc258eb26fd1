/- The library's functions that are met at closed runs: Itoa, Join. -/
import Derived.Test.YtmmofgbjpmhgpaaDoorTi
import Derived.Test.YtmmofgbjpmhgpaaDoorAm18
import Derived.Test.YtmmofgbjpmhgpaaDoorShelfP
set_option linter.all false
set_option linter.unusedVariables false
set_option linter.unusedSimpArgs false
set_option linter.unnecessarySimpa false
namespace Go.Am
open Go Go.Proofs Go.RowKit
set_option maxRecDepth 100000
def digs : Nat → Nat → List UInt8
  | 0, _ => []
  | n + 1, u => if u < 10 then [UInt8.ofNat (48 + u)] else digs n (u / 10) ++ [UInt8.ofNat (48 + u % 10)]
theorem digs_eq : ∀ (n u : Nat), u < 10 ^ (n + 1) → digs (n + 1) u = Lib.decDigits u
  | 0, u, h => by
    have h1 : u < 10 := by simpa using h
    rw [Lib.decDigits, digs, if_pos h1, dif_pos h1]
  | n + 1, u, h => by
    rw [Lib.decDigits, digs]
    by_cases h1 : u < 10
    · rw [if_pos h1, dif_pos h1]
    · rw [if_neg h1, dif_neg h1, digs_eq n (u / 10) (by rw [Nat.pow_succ] at h; omega)]
def itoaL (n : Int) : List UInt8 := if n < 0 then 45 :: digs 20 n.natAbs else digs 20 n.toNat
theorem itoaL_eq (n : Int) (h : -9223372036854775808 ≤ n ∧ n ≤ 9223372036854775807) : itoaL n = Lib.itoa n := by
  unfold itoaL Lib.itoa
  rw [digs_eq 19 n.natAbs (by omega), digs_eq 19 n.toNat (by omega)]
theorem impl_of_calls {P : Program} {G : World → Prop} {f : FuncId} {fn : Func} {code : Code} {spec : List SV → Spec} (hf : P.funcs[f]? = some fn) (hb : fn.body = some code) (hname : fn.name ≠ "runtime.NumGoroutine")
    (h : ∀ w, G w → ∀ fz args svs, (∀ b o, fz b o → b < w.heap.size) → Reps w fz svs args → (spec svs).pre → Calls P f args.toArray w fun e w' => ∃ v, e = .returned v ∧ ∃ fz', Ext w fz w' fz' ∧ Rep w' fz' (spec svs).res v) : Impl P G f spec := by
  intro w hw fz args svs hlt hargs hpre
  have hrun : (callFunc f args.toArray).run P w = .ok (.enter f args.toArray) w := by
    simp [callFunc, hf, hb, hname]
  rw [hrun]
  exact h w hw fz args svs hlt hargs hpre
theorem ext_below {w w' : World} {fz : Nat → Nat → Prop} (hlt : ∀ b o, fz b o → b < w.heap.size) (hb : Below w.heap.size w w') : Ext w fz w' fz :=
  ⟨hb, fun _ _ h => h, fun _ _ h => .inl h, fun b o h => Nat.lt_of_lt_of_le (hlt b o h) hb.size⟩
def itoaX : List SV → Option SV
  | [.v (.int .i64 n)] => if -9223372036854775808 ≤ n ∧ n ≤ 9223372036854775807 then some (.v (.string ⟨(itoaL n).toArray⟩)) else none
  | _ => none
theorem itoa_spec (w : World) (hw : GW w) (n : Int) (h : -9223372036854775808 ≤ n ∧ n ≤ 9223372036854775807) : Calls Tryd.prog 75 #[.int .i64 n] w fun e w' => e = .returned (.string ⟨(Lib.itoa n).toArray⟩) ∧ Below w.heap.size w w' :=
  (Tryd.strconv_Itoa n h.1 h.2 w hw).mono fun e w' ⟨h1, k, os, h2⟩ => ⟨h1, by
    subst h2
    exact ⟨rfl, rfl, rfl, by show w.heap.size ≤ (w.heap ++ os).size; rw [Array.size_append]; omega, fun j hj => by show (w.heap ++ os)[j]? = _; rw [Array.getElem?_append_left hj]⟩⟩
theorem implX_itoa : Impl Tryd.prog GW 75 (fun l => match itoaX l with | some r => ⟨True, r⟩ | none => noSpec) := by
  refine impl_of_calls Tryd.func75 rfl (by rw [Tryd.f75]; simp) ?_
  intro w hw fz args svs hlt hargs hpre
  unfold itoaX at hpre ⊢
  split at hpre
  · rename_i r hr
    split at hr
    · rename_i n
      split at hr
      · rename_i hn
        obtain rfl := Option.some.inj hr
        cases hargs with
        | cons h t =>
          cases t
          have h' := SV_rep_v h
          subst h'
          refine (itoa_spec w hw n hn).mono ?_
          rintro e w' ⟨rfl, hb⟩
          refine ⟨_, rfl, fz, ext_below hlt hb, ?_⟩
          rw [itoaL_eq n hn]
          rfl
      · cases hr
    · cases hr
  · exact hpre.elim
def strs : (Nat → SV) → Nat → Option (List ByteArray)
  | _, 0 => some []
  | f, n + 1 => match f 0 with
    | .v (.string s) => (strs (fun i => f (i + 1)) n).map (s :: ·)
    | _ => none
theorem strs_spec : ∀ (n : Nat) (f : Nat → SV) (xs : List ByteArray), strs f n = some xs → xs.length = n ∧ ∀ i x, xs[i]? = some x → f i = .v (.string x)
  | 0, f, xs, h => by
    obtain rfl := Option.some.inj h
    exact ⟨rfl, fun i x h => by simp at h⟩
  | n + 1, f, xs, h => by
    unfold strs at h
    split at h
    · rename_i s hs
      cases hr : strs (fun i => f (i + 1)) n with
      | none => rw [hr] at h; cases h
      | some ys =>
        rw [hr] at h
        obtain rfl := Option.some.inj h
        obtain ⟨h1, h2⟩ := strs_spec n _ ys hr
        refine ⟨by simp [h1], fun i x hx => ?_⟩
        cases i with
        | zero => simp only [List.getElem?_cons_zero, Option.some.injEq] at hx; subst hx; exact hs
        | succ i => exact h2 i x (by simpa using hx)
    · cases h
theorem join_spec (w : World) {fz : Nat → Nat → Prop} (hlt : ∀ b o, fz b o → b < w.heap.size) {ex : Bool} {n : Nat} {e : Nat → SV} {v : Value} (hr : Rep w fz (.sl ex n 1 e) v) (xs : List ByteArray) (hx : xs.length = n) (he : ∀ i x, xs[i]? = some x → e i = .v (.string x)) (sep : ByteArray)
    (h1 : n ≤ 140737488355328) (h2 : (Lib.join (xs.map (·.data.toList)) sep.data.toList).length ≤ 140737488355328) :
    Calls Tryd.prog 57 #[v, .string sep] w fun e w' => e = .returned (.string ⟨(Lib.join (xs.map (·.data.toList)) sep.data.toList).toArray⟩) ∧ Below w.heap.size w w' := by
  obtain ⟨a, c, rfl, hn, _, hc⟩ := hr
  cases n with
  | zero =>
    obtain rfl : xs = [] := List.eq_nil_of_length_eq_zero hx
    exact (Tryd.strings_Join_none a c sep w).mono fun e w' ⟨h1, h2⟩ => ⟨h1, h2 ▸ Below.refl _ _⟩
  | succ n =>
    obtain ⟨b, o, rfl, hc2⟩ := hc (by omega)
    have cell : ∀ (j : Nat) x, xs[j]? = some x → w.cell? ⟨b, o + j, none⟩ = some (.string x) ∧ fz b (o + j) := fun j x hj => by
      have hlt := (List.getElem?_eq_some_iff.1 hj).1
      obtain ⟨ev, r1, r2, r3⟩ := hc2 j (by omega)
      rw [he j x hj] at r1
      have r1' := SV_rep_v r1
      subst r1'
      obtain ⟨u, g1, g2, g3, g4⟩ := r3 0 (by omega)
      simp only [Value.cells] at g1
      obtain rfl : u = .string x := by simpa using g1.symm
      simp only [Nat.mul_one, Nat.add_zero] at g3 g4
      exact ⟨g3, g4⟩
    have hb : b < w.heap.size := by
      have h0 : 0 < xs.length := by omega
      exact hlt b _ (cell 0 xs[0] (List.getElem?_eq_getElem h0)).2
    rw [← hx]
    exact Tryd.strings_Join b o c xs sep w (fun j x hj => (cell j x hj).1) hb (by omega) (by omega) h2
def joinX : List SV → Option SV
  | [.sl _ n e f, .v (.string sep)] => match strs f n with
    | some xs => if e = 1 ∧ n ≤ 140737488355328 ∧ (Lib.join (xs.map (·.data.toList)) sep.data.toList).length ≤ 140737488355328 then some (.v (.string ⟨(Lib.join (xs.map (·.data.toList)) sep.data.toList).toArray⟩)) else none
    | none => none
  | _ => none
theorem implX_join : Impl Tryd.prog GW 57 (fun l => match joinX l with | some r => ⟨True, r⟩ | none => noSpec) := by
  refine impl_of_calls Tryd.func57 rfl (by rw [Tryd.f57]; simp) ?_
  intro w hw fz args svs hlt hargs hpre
  unfold joinX at hpre ⊢
  split at hpre
  · rename_i r hr
    split at hr
    · rename_i ex n e f sep
      split at hr
      · rename_i xs hxs
        split at hr
        · rename_i hn
          obtain ⟨rfl, h1, h2⟩ := hn
          obtain rfl := Option.some.inj hr
          obtain ⟨g1, g2⟩ := strs_spec _ _ _ hxs
          cases hargs with
          | cons h t =>
            cases t with
            | cons h' t =>
              cases t
              have h'' := SV_rep_v h'
              subst h''
              refine (join_spec w hlt h xs g1 g2 sep h1 h2).mono ?_
              rintro e w' ⟨rfl, hb⟩
              exact ⟨_, rfl, fz, ext_below hlt hb, rfl⟩
        · cases hr
      · cases hr
    · cases hr
  · exact hpre.elim
def baseX (f : FuncId) (l : List SV) : Option SV := if f = 75 then itoaX l else if f = 57 then joinX l else none
theorem baseX_sound (f : FuncId) : Impl Tryd.prog GW f (specOf baseX f) := by
  by_cases h1 : f = 75
  · subst h1; exact implX_itoa
  · by_cases h2 : f = 57
    · subst h2; exact implX_join
    · intro w _ fz args svs _ _ hpre
      simp only [specOf, baseX, h1, h2, if_false] at hpre
      exact hpre.elim
end Go.Am
