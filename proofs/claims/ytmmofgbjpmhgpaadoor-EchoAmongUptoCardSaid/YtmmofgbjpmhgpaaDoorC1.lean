/- EchoAmong returns true at every input of bulk at most 1048576, the library's three tables as the program's text lays them. -/
import Derived.Test.YtmmofgbjpmhgpaaDoorC0
set_option linter.all false
set_option linter.unusedVariables false
set_option linter.unusedSimpArgs false
set_option linter.unnecessarySimpa false
namespace Go.Proofs.YtmmofgbjpmhgpaaDoor.among
open Go.ChangeShapes Go.WideShapes Go.ChangeAt Go.RowKit Go.Am Go.Proofs.YtmmofgbjpmhgpaaDoor.join
set_option maxRecDepth 100000
theorem contract (H : Type) (enc : TypeId × Value → H) (W : World) (base : Nat) (args : Array Value) (ds gs : List (DataW H)) (before : List MemPlace)
    (hval : ∀ (j : Nat) t v, Tryd.f3.params[j]? = some t → args[j]? = some v → Value.okWide Tryd.prog W .any base t v)
    (hW : DataW.Whole enc Tryd.prog Tryd.f3.params.toList Rows.echoAmongSpec.vars false W args.toList ds gs before) (hk : Rows.uptoSmall H (ds ++ gs) = true) (hL : laidMetH Tryd.prog Rows.echoAmongUptoRow.laid W) :
    Calls Tryd.prog 3 args W fun e W' => ∃ v, e = .returned v ∧ Rows.echoAmongSpec.post enc Tryd.prog Tryd.f3 false true false false W args v W' := by
  have hT : ∀ t ∈ Tryd.f3.params.toList, Tryd.prog.readableRec t = true ∧ t < Tryd.prog.types.size := by
    rw [Tryd.params3]
    simp only [List.mem_cons, List.not_mem_nil, or_false, forall_eq_or_imp, forall_eq]
    exact ⟨⟨by kernel_rfl, of_decide_eq_true (by kernel_rfl)⟩, ⟨by kernel_rfl, of_decide_eq_true (by kernel_rfl)⟩, ⟨by kernel_rfl, of_decide_eq_true (by kernel_rfl)⟩⟩
  refine post_true laidOut hT (tb := 4) (by kernel_rfl) Tryd.underlying4 rfl (fun ds hl => ?_) hW ?_
  · rw [Tryd.params3] at hl
    match ds, hl with
    | [_, _, _], _ => rfl
  obtain ⟨p, q, hA0, hV, rfl, hfz, hnd⟩ := hW
  obtain ⟨rfl, rfl⟩ := trodVars_none hV
  have hA : DataW.TrodAll enc Tryd.prog W 0 (fun _ => true) true Tryd.f3.params.toList args.toList ds p := hA0
  rw [Tryd.params3] at hA hval
  obtain ⟨v0, vs0, d0, ds0, p0, q0, hargs, rfl, rfl, h0, r0⟩ := trodAll_cons hA
  obtain ⟨v1, vs1, d1, ds1, p1, q1, rfl, rfl, rfl, h1, r1⟩ := trodAll_cons r0
  obtain ⟨v2, vs2, d2, ds2, p2, q2, rfl, rfl, rfl, h2, r2⟩ := trodAll_cons r1
  obtain ⟨rfl, rfl, rfl⟩ := trodAll_nil r2
  obtain rfl : args = #[v0, v1, v2] := by cases args; simp_all
  obtain ⟨l, _, _, hl, bl⟩ := rep_slice (encA := encR) (k := 3) Tryd.underlying22 cells31 (by omega) elem_R (hval 0 22 v0 rfl rfl) h0
  obtain ⟨d, rfl, rfl, rfl, _⟩ := open_int Tryd.underlying3 (hval 1 3 v1 rfl rfl) h1
  obtain ⟨ws, _, _, hw, bw⟩ := rep_slice (encA := encI) (k := 1) Tryd.underlying23 cells3 (by omega) (elem_int Tryd.underlying3) (hval 2 23 v2 rfl rfl) h2
  have hb : Rows.uptoBulk d0 + (Rows.uptoBulk (DataW.lit (H := H) (.int .i64 d)) + (Rows.uptoBulk d2 + 0)) ≤ 1048576 := of_decide_eq_true hk
  have b0 : l.length ≤ 4000000 := by
    rcases bl with ⟨_, rfl⟩ | ⟨D, rest, rfl⟩
    · exact Nat.zero_le _
    · have := slice_le (n := l.length) (D := D) (rest := rest); omega
  have b2 : ws.length ≤ 4000000 := by
    rcases bw with ⟨_, rfl⟩ | ⟨D, rest, rfl⟩
    · exact Nat.zero_le _
    · have := slice_le (n := ws.length) (D := D) (rest := rest); omega
  obtain ⟨_, hL, _⟩ := hL
  refine impl_calls c_echoAmong Tryd.func3 rfl (by rw [Tryd.f3]; simp) (table hL) (svs := [encL encR 3 l, .v (.int .i64 d), encL encI 1 ws]) (.cons hl (.cons rfl (.cons hw .nil))) ?_ ?_
  · rw [e_echoAmong]; exact ⟨b0, b2⟩
  · rw [e_echoAmong]

theorem laid_met (os : Os) : laidMet Tryd.prog Rows.echoAmongUptoRow.laid ((laidWorld os).forCall (fun _ _ => 0) ⟨#[], #[.slice none 0 0, .int .i64 0, .slice none 0 0], []⟩).memory :=
  laidMet_of_run' 8 (by kernel_rfl) (by kernel_rfl)
theorem reads (os : Os) {H : Type} (enc : TypeId × Value → H) : ∃ places, DataW.whole enc Tryd.prog ((laidWorld os).forCall (fun _ _ => 0) ⟨#[], #[.slice none 0 0, .int .i64 0, .slice none 0 0], []⟩).memory Tryd.f3.params.toList Rows.echoAmongSpec.vars false #[Value.slice none 0 0, .int .i64 0, .slice none 0 0].toList 8 = some ([.nil, .lit (.int .i64 0), .nil], [], places) :=
  ⟨[], by kernel_rfl⟩
theorem liftedUpto (os : Os) (started : os.Started) (H : Type) (enc : TypeId × Value → H) (F : Stop.Interp) :
    ReturnsInHanded {} Tryd.checked os 3 .any ((Rows.OpenSpec.upto Rows.echoAmongSpec).preRow enc Tryd.prog Tryd.f3 Rows.echoAmongUptoRow.domain false Rows.echoAmongUptoRow.laid) (((Rows.OpenSpec.upto Rows.echoAmongSpec).at F).post enc Tryd.prog Tryd.f3 false true false false) := by
  obtain ⟨places, hx⟩ := reads os enc
  refine returnsInHanded_of_row (C := Tryd.checked) (s := Rows.OpenSpec.upto Rows.echoAmongSpec) own started (by kernel_rfl) Tryd.func3
    (witness_row_at (enc := enc) (C := Tryd.checked) false (laidWorld os) #[.slice none 0 0, .int .i64 0, .slice none 0 0] rfl (by kernel_rfl) (by kernel_rfl) (by kernel_rfl)
      (OpenSpec.preRow_of_cond 8 hx (by kernel_rfl) (fun k hk => by cases hk; kernel_rfl) (by kernel_rfl) (laid_met os))) ?_
  intro W base args ds gs before hval hW _ hcond _ hL _ _
  exact contract H enc W base args ds gs before hval hW (hcond _ rfl) hL
theorem saidUpto : Rows.EchoAmongUptoSaid :=
  OpenClaim.holds_of_cond 3 Tryd.f3 rfl rfl rfl rfl rfl rfl rfl ⟨rfl, rfl, rfl, rfl, rfl⟩ rfl rfl rfl rfl rfl (by kernel_rfl) Tryd.func3 (by kernel_rfl)
    (of_decide_eq_true (by kernel_rfl)) (by unfold Func.isWrapper; first | (rw [if_pos (by decide +kernel)]; kernel_rfl) | (rw [if_neg (by decide +kernel)]; exact ⟨rfl, rfl⟩))
    (fun os started H enc _ F => by rw [OpenClaim.pre_eq_preRow]; exact liftedUpto os started H enc F)
theorem plain (f : FuncId) (fn : Func) (hf : Tryd.pinned.checked.prog.funcNamed "skywave/skywavelaw02.EchoAmong" = some f) (hfn : Tryd.pinned.checked.prog.funcs[f]? = some fn) :
    false = Tryd.pinned.checked.prog.looks [] ∧ ∀ (j : Nat) t, fn.params[j]? = some t → Tryd.pinned.checked.prog.wantsStandIn t = false := by
  obtain rfl : f = 3 := Option.some.inj ((show Tryd.prog.funcNamed "skywave/skywavelaw02.EchoAmong" = some 3 by kernel_rfl).symm.trans hf) |>.symm
  obtain rfl : fn = Tryd.f3 := (Option.some.inj (Tryd.func3.symm.trans hfn)).symm
  refine ⟨by kernel_rfl, fun j t ht => ?_⟩
  rw [Tryd.params3] at ht
  have := Array.mem_of_getElem? ht
  simp only [List.mem_toArray, List.mem_cons, List.not_mem_nil, or_false] at this
  rcases this with rfl | rfl | rfl
  · exact (show Tryd.prog.wantsStandIn 22 = false by kernel_rfl)
  · exact (show Tryd.prog.wantsStandIn 3 = false by kernel_rfl)
  · exact (show Tryd.prog.wantsStandIn 23 = false by kernel_rfl)
end Go.Proofs.YtmmofgbjpmhgpaaDoor.among
namespace Go.Proofs.YtmmofgbjpmhgpaaDoor
open among
set_option maxRecDepth 100000
/-- The card. -/
theorem among_card : Rows.EchoAmongUptoCardSaid :=
  Claim7.holds_tied_plain_at .later [] _ _ _ _ saidUpto (fun _ h => by cases h) (by kernel_rfl) (fun _ h => by cases h) echoAmongUpto_row_tie rfl ⟨rfl, rfl⟩ (by kernel_rfl) rfl plain (by kernel_rfl)
end Go.Proofs.YtmmofgbjpmhgpaaDoor
