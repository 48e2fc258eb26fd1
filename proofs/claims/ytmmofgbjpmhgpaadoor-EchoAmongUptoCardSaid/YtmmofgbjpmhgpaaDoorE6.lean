/- EchoAmong: the laws and the join. -/
import Derived.Test.YtmmofgbjpmhgpaaDoorE5
set_option linter.all false
set_option linter.unusedVariables false
set_option linter.unusedSimpArgs false
set_option linter.unnecessarySimpa false
namespace Go.Am
open Go Go.Proofs
set_option maxRecDepth 100000
set_option linter.unusedSimpArgs false
set_option linter.unusedVariables false
set_option maxHeartbeats 4000000
theorem contra_cases {l : List Rdg} (he : rdgsErr l = 0) : contraErr l = 0 ∨ (contraErr l = 12 ∧ contraOf l = []) := by
  unfold contraErr contraOf
  rw [if_pos he, if_pos he]
  cases bestOf l (2 ^ l.length) <;> simp
theorem better_len {x y : List Int} (h : better x y = true) : x.length ≤ y.length := by
  unfold better at h
  simp only [Bool.or_eq_true, Bool.and_eq_true, decide_eq_true_eq] at h
  omega
theorem not_better_len {x y : List Int} (h : better x y = false) : y.length ≤ x.length := by
  unfold better at h
  simp only [Bool.or_eq_false_iff, decide_eq_false_iff_not] at h
  omega
theorem best_spec (l : List Rdg) : ∀ n, (∀ y, bestOf l n = some y → ∃ x, x < n ∧ y = ix x ∧ cand l x = [] ∧ ∀ z, z < n → cand l z = [] → y.length ≤ (ix z).length) ∧ (bestOf l n = none → ∀ z, z < n → cand l z ≠ []) := by
  intro n
  induction n with
  | zero => exact ⟨fun y h => by simp [bestOf] at h, fun _ z hz => by omega⟩
  | succ n ih =>
    obtain ⟨i1, i2⟩ := ih
    rw [bestOf_succ]
    unfold bestStep
    by_cases hc : cand l n = []
    · rw [if_pos hc]
      cases hb : bestOf l n with
      | none =>
        refine ⟨fun y h => ?_, fun h => by simp at h⟩
        obtain rfl := Option.some.inj h
        refine ⟨n, by omega, rfl, hc, fun z hz hcz => ?_⟩
        by_cases e : z = n
        · rw [e]; exact Nat.le_refl _
        · exact absurd hcz (i2 hb z (by omega))
      | some y0 =>
        obtain ⟨x0, h1, h2, h3, h4⟩ := i1 y0 hb
        dsimp only
        by_cases hbt : better (ix n) y0 = true
        · rw [if_pos hbt]
          refine ⟨fun y h => ?_, fun h => by simp at h⟩
          obtain rfl := Option.some.inj h
          have := better_len hbt
          refine ⟨n, by omega, rfl, hc, fun z hz hcz => ?_⟩
          by_cases e : z = n
          · rw [e]; exact Nat.le_refl _
          · exact Nat.le_trans this (h4 z (by omega) hcz)
        · rw [if_neg hbt]
          refine ⟨fun y h => ?_, fun h => by simp at h⟩
          obtain rfl := Option.some.inj h
          have := not_better_len (by simpa using hbt)
          refine ⟨x0, by omega, h2, h3, fun z hz hcz => ?_⟩
          by_cases e : z = n
          · rw [e]; exact this
          · exact h4 z (by omega) hcz
    · rw [if_neg hc]
      refine ⟨fun y h => ?_, fun h z hz => ?_⟩
      · obtain ⟨x0, h1, h2, h3, h4⟩ := i1 y h
        refine ⟨x0, by omega, h2, h3, fun z hz hcz => ?_⟩
        by_cases e : z = n
        · rw [e] at hcz; exact absurd hcz hc
        · exact h4 z (by omega) hcz
      · by_cases e : z = n
        · rw [e]; exact hc
        · exact i2 h z (by omega)
theorem contra_set {l : List Rdg} (he : rdgsErr l = 0) (h : contraErr l = 0) : ∃ x, x < 2 ^ l.length ∧ x < 256 ∧ contraOf l = ix x ∧ cand l x = [] ∧ ∀ z, z < 2 ^ l.length → cand l z = [] → (ix x).length ≤ (ix z).length := by
  have hz := (rdgsErr_zero l).1 he
  have hn : 2 ^ l.length ≤ 2 ^ 8 := Nat.pow_le_pow_right (by omega) hz.1
  unfold contraErr at h
  rw [if_pos he] at h
  cases hb : bestOf l (2 ^ l.length) with
  | none => rw [hb] at h; simp at h
  | some y =>
    obtain ⟨x, h1, h2, h3, h4⟩ := (best_spec l _).1 y hb
    refine ⟨x, h1, by omega, ?_, h3, fun z hz hc => by rw [← h2]; exact h4 z hz hc⟩
    unfold contraOf
    rw [if_pos he, hb, ← h2]; rfl
theorem contra_len {l : List Rdg} (h : contraErr l = 0) : 0 < (contraOf l).length ∧ (contraOf l).length ≤ 8 := by
  by_cases he : rdgsErr l = 0
  · obtain ⟨x, _, h2, h3, h4, _⟩ := contra_set he h
    rw [h3]
    exact ⟨List.length_pos_iff.2 (ix_ne h2 h4), ix_len h2⟩
  · unfold contraErr at h
    rw [if_neg he] at h
    exact absurd h he
theorem ix_mem {x : Nat} (hx : x < 256) {a : Int} : a ∈ ix x ↔ ∃ j : Nat, a = j ∧ inSet x j = true := by
  unfold ix idxs
  rw [List.mem_map]
  constructor
  · rintro ⟨j, hj, rfl⟩
    exact ⟨j, rfl, (List.mem_filter.1 hj).2⟩
  · rintro ⟨j, rfl, hj⟩
    refine ⟨j, List.mem_filter.2 ⟨List.mem_range.2 ?_, hj⟩, rfl⟩
    rcases Nat.lt_or_ge j (Nat.log2 (2 * x)) with h | h
    · exact h
    · rw [inSet_high hx h] at hj; cases hj
theorem inSet_lt {x n j : Nat} (hx : x < 2 ^ n) (h : inSet x j = true) : j < n := by
  rcases Nat.lt_or_ge j n with h' | h'
  · exact h'
  · have := Nat.pow_le_pow_right (n := 2) (by omega) h'
    unfold inSet at h
    rw [Nat.div_eq_of_lt (by omega)] at h
    cases h
theorem contra_idx {l : List Rdg} (he : rdgsErr l = 0) : ∀ i, i < (contraOf l).length → 0 ≤ (contraOf l).getD i default ∧ (contraOf l).getD i default < l.length := by
  intro i hi
  by_cases h : contraErr l = 0
  · obtain ⟨x, h1, h2, h3, _⟩ := contra_set he h
    have hm : (contraOf l).getD i default ∈ contraOf l := by
      rw [show (contraOf l).getD i default = (contraOf l)[i] by simp [hi]]; exact List.getElem_mem hi
    generalize (contraOf l).getD i default = a at *
    rw [h3, ix_mem h2] at hm
    obtain ⟨j, rfl, hj⟩ := hm
    have := inSet_lt h1 hj
    omega
  · rcases contra_cases he with h' | h'
    · exact absurd h' h
    · rw [h'.2] at hi; simp at hi
theorem inSet_testBit (x j : Nat) : inSet x j = x.testBit j := by
  rw [Nat.testBit_eq_decide_div_mod_eq]
  unfold inSet
  rw [Bool.eq_iff_iff]; simp
theorem inSet_xor {x j0 : Nat} (h : inSet x j0 = true) (j : Nat) : inSet (x ^^^ 2 ^ j0) j = (inSet x j && decide (j ≠ j0)) := by
  rw [inSet_testBit, inSet_testBit, Nat.testBit_xor, Nat.testBit_two_pow]
  rw [inSet_testBit] at h
  by_cases e : j = j0
  · subst e; simp [h]
  · have e' : ¬ j0 = j := fun q => e q.symm
    simp [e, e']
theorem idxs_high {x : Nat} (hx : x < 256) : ∀ n, Nat.log2 (2 * x) ≤ n → idxs x n = ix x := by
  intro n hn
  induction n with
  | zero =>
    have : Nat.log2 (2 * x) = 0 := by omega
    unfold ix; rw [this]
  | succ n ih =>
    by_cases h : Nat.log2 (2 * x) ≤ n
    · rw [idxs_succ, inSet_high hx h, ih h]; rfl
    · have : Nat.log2 (2 * x) = n + 1 := by omega
      unfold ix; rw [this]
theorem filter_less {p q : Nat → Bool} (hpq : ∀ j, p j = true → q j = true) {j0 : Nat} (h1 : q j0 = true) (h2 : p j0 = false) : ∀ n, ((List.range n).filter p).length + (if j0 < n then 1 else 0) ≤ ((List.range n).filter q).length
  | 0 => by simp
  | n + 1 => by
    have ih := filter_less hpq h1 h2 n
    rw [List.range_succ, List.filter_append, List.filter_append, List.length_append, List.length_append]
    by_cases e : j0 = n
    · subst e
      rw [List.filter_cons_of_neg (by simp [h2]), List.filter_cons_of_pos h1]
      have a : ¬ j0 < j0 := by omega
      have b : j0 < j0 + 1 := by omega
      simp only [a, b, if_true, if_false] at ih ⊢
      simp; omega
    · have hl : ([n].filter p).length ≤ ([n].filter q).length := by
        cases hp : p n with
        | false => rw [List.filter_cons_of_neg (by simp [hp])]; simp
        | true => rw [List.filter_cons_of_pos hp, List.filter_cons_of_pos (hpq n hp)]; simp
      by_cases h : j0 < n
      · have b : j0 < n + 1 := by omega
        simp only [h, b, if_true] at ih ⊢; omega
      · have b : ¬ j0 < n + 1 := by omega
        simp only [h, b, if_false] at ih ⊢; omega
theorem ix_less {x j0 : Nat} (hx : x < 256) (hz : x ^^^ 2 ^ j0 < 256) (hj : j0 < 8) (h : inSet x j0 = true) : (ix (x ^^^ 2 ^ j0)).length < (ix x).length := by
  have hL : ∀ y, y < 256 → Nat.log2 (2 * y) ≤ 8 := fun y hy => forall_lt_of (n := 256) (p := fun x => Nat.log2 (2 * x) ≤ 8) (by kernel_rfl) y hy
  rw [← idxs_high hx 8 (hL _ hx), ← idxs_high hz 8 (hL _ hz)]
  unfold idxs
  rw [List.length_map, List.length_map]
  have := filter_less (p := inSet (x ^^^ 2 ^ j0)) (q := inSet x) (fun j hp => by rw [inSet_xor h] at hp; simp at hp; exact hp.1) h (by rw [inSet_xor h]; simp) 8
  simp only [hj, if_true] at this
  omega
theorem ix_nodup (x : Nat) : (ix x).Nodup := by
  unfold ix idxs
  refine List.Pairwise.map _ (fun a b h => ?_) (List.Pairwise.filter _ List.nodup_range)
  intro e; exact h (Int.ofNat_inj.1 e)
theorem some_mem {l : List Rdg} {s : List Int} {k n : Nat} {r : Rdg} (h : r ∈ someOf l s k n) : ∃ j, j < n ∧ j + 1 ≠ k ∧ r = l.getD (s.getD j default).toNat default := by
  unfold someOf at h
  obtain ⟨j, hj, rfl⟩ := List.mem_map.1 h
  have hj := List.mem_filter.1 hj
  exact ⟨j, List.mem_range.1 hj.1, by simpa using hj.2, rfl⟩
theorem mem_some {l : List Rdg} {s : List Int} {n j : Nat} (h : j < n) : l.getD (s.getD j default).toNat default ∈ someOf l s 0 n := by
  unfold someOf
  exact List.mem_map.2 ⟨j, List.mem_filter.2 ⟨List.mem_range.2 h, by simp⟩, rfl⟩
theorem agreesL_iff (l : List Rdg) (x : Nat) (d : Int) (n : Nat) : agreesL l x d n = true ↔ ∀ i, i < n → inSet x i = true → agreesR (l.getD i default) d = true := by
  unfold agreesL
  rw [List.all_eq_true]
  refine forall_congr' fun i => ?_
  rw [List.mem_range]
  refine imp_congr_right fun _ => ?_
  cases inSet x i <;> simp
theorem contra_min {l : List Rdg} (he : rdgsErr l = 0) (h : contraErr l = 0) : ∀ k, k ≤ (contraOf l).length → (candErr (someOf l (contraOf l) k (contraOf l).length) == 0) = decide (0 < k) := by
  intro k hk
  have hz := (rdgsErr_zero l).1 he
  have hidx := contra_idx he
  have hlen := contra_len h
  obtain ⟨x, h1, h2, h3, h4, h5⟩ := contra_set he h
  generalize contraOf l = s at *
  subst h3
  have hget : ∀ j, j < (ix x).length → (ix x).getD j default ∈ ix x := fun j hj => by
    rw [show (ix x).getD j default = (ix x)[j] by simp [hj]]; exact List.getElem_mem hj
  have hin : ∀ j, j < (ix x).length → inSet x ((ix x).getD j default).toNat = true ∧ ((ix x).getD j default).toNat < l.length := fun j hj => by
    obtain ⟨i, e, hi⟩ := (ix_mem h2).1 (hget j hj)
    rw [e]
    exact ⟨hi, by have := inSet_lt h1 hi; simpa using this⟩
  have hok : rdgsErr (someOf l (ix x) k (ix x).length) = 0 := (rdgsErr_zero _).2 ⟨Nat.le_trans (someOf_len _ _ _ _) hlen.2, fun r hr => by
    obtain ⟨j, hj, _, rfl⟩ := some_mem hr
    have := (hin j hj).2
    generalize ((ix x).getD j default).toNat = q at *
    rw [show l.getD q default = l[q] by simp [this]]
    exact hz.2 _ (List.getElem_mem this)⟩
  unfold candErr
  rw [if_pos hok, cand_full]
  by_cases hk0 : k = 0
  · subst hk0
    rw [if_pos]
    · rfl
    · rw [List.filter_eq_nil_iff]
      intro d hd hall
      rw [List.all_eq_true] at hall
      have : d ∈ cand l x := by
        unfold cand
        refine List.mem_filter.2 ⟨hd, (agreesL_iff _ _ _ _).2 fun i hi hs => ?_⟩
        have hm : (i : Int) ∈ ix x := (ix_mem h2).2 ⟨i, rfl, hs⟩
        obtain ⟨j, hj, e⟩ := List.getElem_of_mem hm
        have := hall _ (mem_some (l := l) (s := ix x) (n := (ix x).length) hj)
        rw [show (ix x).getD j default = (i : Int) by simp [hj, e]] at this
        simpa using this
      rw [h4] at this; cases this
  · have hk1 : k - 1 < (ix x).length := by omega
    obtain ⟨hj0, hj0l⟩ := hin (k - 1) hk1
    generalize hj0e : ((ix x).getD (k - 1) default).toNat = j0 at *
    have hzl : x ^^^ 2 ^ j0 < 2 ^ l.length := Nat.xor_lt_two_pow h1 (Nat.pow_lt_pow_right (by omega) hj0l)
    have hn : 2 ^ l.length ≤ 2 ^ 8 := Nat.pow_le_pow_right (by omega) hz.1
    have hless := ix_less h2 (by omega) (by omega) hj0
    rw [if_neg]
    · simp; omega
    · intro hnil
      have hc : cand l (x ^^^ 2 ^ j0) = [] := by
        unfold cand
        rw [List.filter_eq_nil_iff] at hnil ⊢
        intro d hd ha
        refine hnil d hd ?_
        rw [List.all_eq_true]
        intro r hr
        obtain ⟨j, hj, hjk, rfl⟩ := some_mem hr
        obtain ⟨a1, a2⟩ := hin j hj
        refine (agreesL_iff _ _ _ _).1 ha _ a2 ?_
        rw [inSet_xor hj0, a1]
        have : ((ix x).getD j default).toNat ≠ j0 := by
          intro e
          obtain ⟨i1, e1, _⟩ := (ix_mem h2).1 (hget j hj)
          obtain ⟨i2, e2, _⟩ := (ix_mem h2).1 (hget (k - 1) hk1)
          rw [e1] at e
          rw [e2] at hj0e
          have e3 : (ix x)[j] = (ix x)[k - 1] := by
            have q1 : (ix x).getD j default = (ix x)[j] := by simp [hj]
            have q2 : (ix x).getD (k - 1) default = (ix x)[k - 1] := by simp [hk1]
            rw [← q1, ← q2, e1, e2]
            simp at e hj0e
            omega
          have hp := List.pairwise_iff_getElem.1 (ix_nodup x)
          rcases Nat.lt_trichotomy j (k - 1) with q | q | q
          · exact hp j (k - 1) hj hk1 q e3
          · omega
          · exact hp (k - 1) j hk1 hj q e3.symm
        rw [decide_eq_true this]; rfl
      have := h5 _ hzl hc
      omega
noncomputable def s_echoAmong : List SV → Spec := mkS (fun ((l, d, ws) : (List Rdg) × Int × (List Int)) => [encL encR 3 l, .v (.int .i64 d), encL encI 1 ws]) (fun (l, d, ws) => l.length ≤ 4000000 ∧ ws.length ≤ 4000000) (fun (l, d, ws) => .v (.bool true))
theorem j_echoAmong : ∀ p q : (List Rdg) × Int × (List Int), (fun ((l, d, ws) : (List Rdg) × Int × (List Int)) => ([encL encR 3 l, .v (.int .i64 d), encL encI 1 ws] : List SV)) p = (fun ((l, d, ws) : (List Rdg) × Int × (List Int)) => [encL encR 3 l, .v (.int .i64 d), encL encI 1 ws]) q → p = q := by rintro ⟨l, d, ws⟩ ⟨l', d', ws'⟩ h; have h1 := encL_inj _ _ encR_inj (List.cons.inj h).1; have h2 := encI_inj _ _ (List.cons.inj (List.cons.inj h).2).1; have h3 := encL_inj _ _ encI_inj (List.cons.inj (List.cons.inj (List.cons.inj h).2).2).1; rw [h1, h2, h3]
theorem e_echoAmong (l : List Rdg) (d : Int) (ws : List Int) : s_echoAmong [encL encR 3 l, .v (.int .i64 d), encL encI 1 ws] = ⟨l.length ≤ 4000000 ∧ ws.length ≤ 4000000, .v (.bool true)⟩ := mkS_eq j_echoAmong (l, d, ws)
theorem c_echoAmong : Impl Tryd.prog GW 3 s_echoAmong := by
  refine impl_mk (G := GW) GW_mono (fn := Tryd.f3) [(5, s_awake), (6, s_bReadingsErr), (7, s_bIsDirection), (8, s_phaseOf), (9, s_bwithin), (10, s_bMod), (12, s_copyReadings), (11, s_candidatesOf), (13, s_bHas), (14, s_contradictingIn)] mixed (.cons c_awake (.cons c_bReadingsErr (.cons c_bIsDirection (.cons c_phaseOf (.cons c_bwithin (.cons c_bMod (.cons c_copyReadings (.cons c_candidatesOf (.cons c_bHas (.cons c_contradictingIn .nil)))))))))) j_echoAmong Tryd.func3 rfl (by rw [Tryd.f3]; simp) (by kernel_rfl) (fun _ => by rw [Tryd.ntmps3]; simp) ?_
  rintro ⟨l, d, ws⟩ hp
  rw [Tryd.results3]
  try dsimp only at hp
  refine wp_cut 5 ?_
  intro t5 ht
  simp only [seqTail] at ht
  simp (maxSteps := 3000000) only [argSt_def, wp_skip', wp_label', wp_ret', wp_exit', wp_seq', wp_block', wp_cond', wp_region', wp_loop', cnd_bool, seqK_normal, seqK_ret, seqK_exit, blkK_normal, blkK_ret, blkK_same, blkK_other, loopK_ret, loopK_exit, loopK_normal, ro_nil, ro_cons, ro_guard, R.bind_mk, R.bind_yes, R.bind_no, A.bind_mk, A.bind_no, bindO_none, bindO_some, actK_some, actK_none, gslot_at, list_cons_zero, list_cons_succ, val_tmp, val_const, val_global, val_func, upd_same, upd_ne, putT_some, putT_none, ofV_int, ofV_bool, ofV_str, ofV_slice, ofV_ptr, sv_p, norm_p, norm_bx, strip_p, strip_bx, strip_ow, strip_rp, strip_gd, okG_gd, okG_p, okG_bx, okG_ow, okG_rp, want_true, want_false, want_gd, omap_some, omap_none, obind_some, isNone_none, okAll_nil, okAll_cons, ev_move, ev_assign, ev_pick, ev_bin, ev_un, ev_idxA, ev_idx, ev_field, ev_fieldA, ev_load, ev_extract, evExtract_tup, ev_build, ev_buildSlice, ev_slice, ev_len, ev_call, evCall_func, ev_min, ev_max, ev_conv, evG_min, evG_max, evG_conv, act_min, act_max, act_conv, opl_min, opl_max, opl_conv, min_int, max_int, conv_int, convK_some, frzIf_false, cfg_frz, cfg_un, wpR_none, binT_v, binT_sl, binT_encL, evG_pick, evG_move, evG_assign, evG_bin, evG_un, evG_idxA, evG_idx, evG_field, evG_fieldA, evG_load, evG_extract, evG_build, evG_buildSlice, evG_slice, evG_len, evG_call, act_move, act_assign, act_pick, act_bin, act_un, act_idxA, act_idx, act_field, act_fieldA, act_load, act_extract, act_build, act_buildSlice, act_slice, act_len, act_call, act_alloc', act_box, act_store, act_make, act_append, opl_move, opl_assign, opl_pick, opl_bin, opl_un, opl_idxA, opl_idx, opl_field, opl_fieldA, opl_load, opl_extract, opl_build, opl_buildSlice, opl_slice, opl_len, opl_call, bin_add, bin_sub, bin_mul, bin_quo, bin_rem, bin_eql, bin_neq, bin_lss, bin_leq, bin_gtr, bin_geq, bin_shl, bin_shr, bin_and, bin_or, bin_xor, bin_beql, bin_bneq, bin_seql, bin_sneq, bin_sadd, bin_slss, bin_nil_eql, bin_nil_neq, bin_sl_eql, bin_sl_neq, un_not, un_neg, pick_def, pickB_bool, pickV_true, pickV_false, pickV_bool, okG_false, idx_sl, idx_str, len_sl, len_nil, len_str, load_rd, field_rd, field_bx, at_agg, at_int, at_sl, slice_lo, len_encL, idx_encL, ro_encL, slen_encL, isSl_encL, drop_encL, allocK_def, boxK_def, boxF_def, boxS_def, store_bx, storeBxA_some, put_def, setAt_zero, setAt_succ, load_bx, loadBx_some, cell_agg, cell_v, cell_sl, good_agg, good_int, good_bool, good_str, good_nil, good_sl, size_agg, size_v, size_sl, isAg_agg, sone_p, sone_ow, sone_bx, one_int, one_bool, one_str, one_nil, one_sl, tabF_def, evBuild_def, bldF_nil, bldF_cons, bldS_nil, bldS_cons, bldT_nil, bldT_cons, bldE_nil, bldE_cons, ovl_at, evBuildSlice_def, append_nil, append_ex, append_ow, appendRow_some, okTy_def, roomy_def, norm_ow, normRow_pub, normRow_own, sv_ow, svRow_pub, ro_sl, ro_snoc, len_snoc, isSl_snoc, isSl_sl, slen_sl, len_ow_snoc, append_encL, le_snoc_all, le_snoc_empty, bin_encL_eql, bin_encL_neq, good_encL, size_encL, one_encL, cell_encL, at_encL, upTo_zero, upTo_succ, List.nil_append, List.cons_append, Nat.zero_le, Nat.reduceLeDiff, Nat.reduceSub, Nat.reduceMul, Nat.sub_zero, List.mem_cons, List.not_mem_nil, forall_eq_or_imp, or_false, forall_eq, false_implies, List.getD_cons_zero, List.getD_cons_succ, getD_lit0, getD_litS, cfg_ti, cfg_spec, cfg_new, cfg_make, look_cons, retK_ret, retK_normal, resR_tmp, resR_cell, finR_p, finR_ow, finRow_encL, finRow_sl, finRow_snoc, slotP_p, sides_nil, sides_cons, retSV_one, retSV_two, retSV_none, list_zero, list_succ, cond_false_r, cond_true_l, le_refl', le_v, le_agg, le_tup, le_nil_encL, le_snoc, le_one, allLt_zero, allLt_succ, yes, List.map_cons, List.map_nil, List.length_cons, List.length_nil, Nat.zero_add, Nat.add_zero, true_and, and_true, and_self, ne_eq, Nat.reduceEqDiff, Nat.reduceAdd, Nat.reduceLT, not_false_eq_true, not_true_eq_false, implies_true, imp_self, if_true, if_false, ite_true, ite_false, reduceIte, Bool.false_eq_true, Bool.not_true, Bool.not_false, Bool.not_eq_true', decide_eq_true_eq, decide_eq_false_iff_not, toNat_cast, cast_nonneg, cast_lt, cast_le, vint_inj, vbool_inj, Nat.one_ne_zero, Bool.and_true, Bool.true_and, Bool.false_and, Bool.and_false, Bool.or_true, Bool.true_or, Bool.or_false, Bool.false_or, reduceCtorEq, eq_self, seqCut_zero, seqCut_succ, ti3, ti4, ti22, ti23, ti27, ti31, e_awake, e_bReadingsErr, e_bIsDirection]
  intro _
  refine ⟨hp.1, fun hB => ?_⟩
  have hB' : rdgsErr l = 0 ∧ (-90 ≤ d ∧ d ≤ 90) ∧ l.length ≤ ws.length ∧ ws.length ≤ 20 := by
    simp only [Bool.or_eq_false_iff, bne_eq_false_iff_eq, Bool.not_eq_false', Bool.and_eq_true, decide_eq_true_eq, decide_eq_false_iff_not] at hB
    omega
  clear hB
  obtain ⟨he, hd, hlw, hw20⟩ := hB'
  have hz := (rdgsErr_zero l).1 he
  refine loop_intro' (G := Nat) (fun i => i ≤ l.length) (fun i => ⟨[(0, .p (encL encR 3 l)), (1, .p (.v (.int .i64 d))), (2, .p (encL encI 1 ws)), (7, .ow 0), (8, .p (.v (.int .i64 i)))], ⟨[], [⟨31, encL encR 3 (own l d ws i), true, true⟩]⟩⟩) (fun i => l.length - i) 0 ?_ ?_ ?_
  · simp
  · simp only [argSt_def, wp_skip', wp_label', wp_ret', wp_exit', wp_seq', wp_block', wp_cond', wp_region', wp_loop', cnd_bool, seqK_normal, seqK_ret, seqK_exit, blkK_normal, blkK_ret, blkK_same, blkK_other, loopK_ret, loopK_exit, loopK_normal, ro_nil, ro_cons, ro_guard, R.bind_mk, R.bind_yes, R.bind_no, A.bind_mk, A.bind_no, bindO_none, bindO_some, actK_some, actK_none, gslot_at, list_cons_zero, list_cons_succ, val_tmp, val_const, val_global, val_func, upd_same, upd_ne, putT_some, putT_none, ofV_int, ofV_bool, ofV_str, ofV_slice, ofV_ptr, sv_p, norm_p, norm_bx, strip_p, strip_bx, strip_ow, strip_rp, strip_gd, okG_gd, okG_p, okG_bx, okG_ow, okG_rp, want_true, want_false, want_gd, omap_some, omap_none, obind_some, isNone_none, okAll_nil, okAll_cons, ev_move, ev_assign, ev_pick, ev_bin, ev_un, ev_idxA, ev_idx, ev_field, ev_fieldA, ev_load, ev_extract, evExtract_tup, ev_build, ev_buildSlice, ev_slice, ev_len, ev_call, evCall_func, ev_min, ev_max, ev_conv, evG_min, evG_max, evG_conv, act_min, act_max, act_conv, opl_min, opl_max, opl_conv, min_int, max_int, conv_int, convK_some, frzIf_false, cfg_frz, cfg_un, wpR_none, binT_v, binT_sl, binT_encL, evG_pick, evG_move, evG_assign, evG_bin, evG_un, evG_idxA, evG_idx, evG_field, evG_fieldA, evG_load, evG_extract, evG_build, evG_buildSlice, evG_slice, evG_len, evG_call, act_move, act_assign, act_pick, act_bin, act_un, act_idxA, act_idx, act_field, act_fieldA, act_load, act_extract, act_build, act_buildSlice, act_slice, act_len, act_call, act_alloc', act_box, act_store, act_make, act_append, opl_move, opl_assign, opl_pick, opl_bin, opl_un, opl_idxA, opl_idx, opl_field, opl_fieldA, opl_load, opl_extract, opl_build, opl_buildSlice, opl_slice, opl_len, opl_call, bin_add, bin_sub, bin_mul, bin_quo, bin_rem, bin_eql, bin_neq, bin_lss, bin_leq, bin_gtr, bin_geq, bin_shl, bin_shr, bin_and, bin_or, bin_xor, bin_beql, bin_bneq, bin_seql, bin_sneq, bin_sadd, bin_slss, bin_nil_eql, bin_nil_neq, bin_sl_eql, bin_sl_neq, un_not, un_neg, pick_def, pickB_bool, pickV_true, pickV_false, pickV_bool, okG_false, idx_sl, idx_str, len_sl, len_nil, len_str, load_rd, field_rd, field_bx, at_agg, at_int, at_sl, slice_lo, len_encL, idx_encL, ro_encL, slen_encL, isSl_encL, drop_encL, allocK_def, boxK_def, boxF_def, boxS_def, store_bx, storeBxA_some, put_def, setAt_zero, setAt_succ, load_bx, loadBx_some, cell_agg, cell_v, cell_sl, good_agg, good_int, good_bool, good_str, good_nil, good_sl, size_agg, size_v, size_sl, isAg_agg, sone_p, sone_ow, sone_bx, one_int, one_bool, one_str, one_nil, one_sl, tabF_def, evBuild_def, bldF_nil, bldF_cons, bldS_nil, bldS_cons, bldT_nil, bldT_cons, bldE_nil, bldE_cons, ovl_at, evBuildSlice_def, append_nil, append_ex, append_ow, appendRow_some, okTy_def, roomy_def, norm_ow, normRow_pub, normRow_own, sv_ow, svRow_pub, ro_sl, ro_snoc, len_snoc, isSl_snoc, isSl_sl, slen_sl, len_ow_snoc, append_encL, le_snoc_all, le_snoc_empty, bin_encL_eql, bin_encL_neq, good_encL, size_encL, one_encL, cell_encL, at_encL, upTo_zero, upTo_succ, List.nil_append, List.cons_append, Nat.zero_le, Nat.reduceLeDiff, Nat.reduceSub, Nat.reduceMul, Nat.sub_zero, List.mem_cons, List.not_mem_nil, forall_eq_or_imp, or_false, forall_eq, false_implies, List.getD_cons_zero, List.getD_cons_succ, getD_lit0, getD_litS, cfg_ti, cfg_spec, cfg_new, cfg_make, look_cons, retK_ret, retK_normal, resR_tmp, resR_cell, finR_p, finR_ow, finRow_encL, finRow_sl, finRow_snoc, slotP_p, sides_nil, sides_cons, retSV_one, retSV_two, retSV_none, list_zero, list_succ, cond_false_r, cond_true_l, le_refl', le_v, le_agg, le_tup, le_nil_encL, le_snoc, le_one, allLt_zero, allLt_succ, yes, List.map_cons, List.map_nil, List.length_cons, List.length_nil, Nat.zero_add, Nat.add_zero, true_and, and_true, and_self, ne_eq, Nat.reduceEqDiff, Nat.reduceAdd, Nat.reduceLT, not_false_eq_true, not_true_eq_false, implies_true, imp_self, if_true, if_false, ite_true, ite_false, reduceIte, Bool.false_eq_true, Bool.not_true, Bool.not_false, Bool.not_eq_true', decide_eq_true_eq, decide_eq_false_iff_not, toNat_cast, cast_nonneg, cast_lt, cast_le, vint_inj, vbool_inj, Nat.one_ne_zero, Bool.and_true, Bool.true_and, Bool.false_and, Bool.and_false, Bool.or_true, Bool.true_or, Bool.or_false, Bool.false_or, reduceCtorEq, eq_self, le_def, toSt_def, ofL_nil, ofL_cons, findB_nil, findB_bx, bxNo_bx, findB_p, findB_ow, findR_nil, findR_ow, owNo_ow, owNo_p, findR_p, findR_bx, upTo_zero, upTo_succ, distinct_nil, distinct_cons, somes_nil, somes_some, somes_none, sle_dead, sle_p, sle_bx, sle_ow, sle_nil_ow, sle_ow_p, leL_nil, leL_cons, leB_nil, leB_cons, boxLe_some, leR_nil, leR_some, leR_none, rowLe_some, List.nil_append, List.cons_append, List.contains_nil, Bool.not_false, ti3, ti4, ti22, ti23, ti27, ti31, e_awake, e_bReadingsErr, e_bIsDirection, e_phaseOf, e_bwithin, e_bMod, e_copyReadings, e_candidatesOf, e_bHas, e_contradictingIn, encR_def, at_encI]
    exact ⟨rfl, rfl⟩
  · intro i hi
    have hol : (own l d ws i).length = i := by simp [own]
    by_cases h : i < l.length
    · have hg := okL_get hz.2 h
      have b1 := eT h
      have b2 : (decide (-360 ≤ (l.getD i default).sp) && decide ((l.getD i default).sp ≤ 360) && (decide (-90 ≤ d) && decide (d ≤ 90))) = true := by
        simp only [Bool.and_eq_true, decide_eq_true_eq]; omega
      have b3 := eT (show 0 ≤ (l.getD i default).sp * d % 720 by omega)
      have b4 := eT (show (l.getD i default).sp * d % 720 ≤ 719 by omega)
      have b5 := wrap_id (2 * (l.getD i default).er) (by omega)
      have b6 := wrap_id (2 * (l.getD i default).er + 1) (by omega)
      have b7 : (decide True) = true := rfl
      have b8 : ((0 : Int) != 0) = false := rfl
      simp (maxSteps := 3000000) only [argSt_def, wp_skip', wp_label', wp_ret', wp_exit', wp_seq', wp_block', wp_cond', wp_region', wp_loop', cnd_bool, seqK_normal, seqK_ret, seqK_exit, blkK_normal, blkK_ret, blkK_same, blkK_other, loopK_ret, loopK_exit, loopK_normal, ro_nil, ro_cons, ro_guard, R.bind_mk, R.bind_yes, R.bind_no, A.bind_mk, A.bind_no, bindO_none, bindO_some, actK_some, actK_none, gslot_at, list_cons_zero, list_cons_succ, val_tmp, val_const, val_global, val_func, upd_same, upd_ne, putT_some, putT_none, ofV_int, ofV_bool, ofV_str, ofV_slice, ofV_ptr, sv_p, norm_p, norm_bx, strip_p, strip_bx, strip_ow, strip_rp, strip_gd, okG_gd, okG_p, okG_bx, okG_ow, okG_rp, want_true, want_false, want_gd, omap_some, omap_none, obind_some, isNone_none, okAll_nil, okAll_cons, ev_move, ev_assign, ev_pick, ev_bin, ev_un, ev_idxA, ev_idx, ev_field, ev_fieldA, ev_load, ev_extract, evExtract_tup, ev_build, ev_buildSlice, ev_slice, ev_len, ev_call, evCall_func, ev_min, ev_max, ev_conv, evG_min, evG_max, evG_conv, act_min, act_max, act_conv, opl_min, opl_max, opl_conv, min_int, max_int, conv_int, convK_some, frzIf_false, cfg_frz, cfg_un, wpR_none, binT_v, binT_sl, binT_encL, evG_pick, evG_move, evG_assign, evG_bin, evG_un, evG_idxA, evG_idx, evG_field, evG_fieldA, evG_load, evG_extract, evG_build, evG_buildSlice, evG_slice, evG_len, evG_call, act_move, act_assign, act_pick, act_bin, act_un, act_idxA, act_idx, act_field, act_fieldA, act_load, act_extract, act_build, act_buildSlice, act_slice, act_len, act_call, act_alloc', act_box, act_store, act_make, act_append, opl_move, opl_assign, opl_pick, opl_bin, opl_un, opl_idxA, opl_idx, opl_field, opl_fieldA, opl_load, opl_extract, opl_build, opl_buildSlice, opl_slice, opl_len, opl_call, bin_add, bin_sub, bin_mul, bin_quo, bin_rem, bin_eql, bin_neq, bin_lss, bin_leq, bin_gtr, bin_geq, bin_shl, bin_shr, bin_and, bin_or, bin_xor, bin_beql, bin_bneq, bin_seql, bin_sneq, bin_sadd, bin_slss, bin_nil_eql, bin_nil_neq, bin_sl_eql, bin_sl_neq, un_not, un_neg, pick_def, pickB_bool, pickV_true, pickV_false, pickV_bool, okG_false, idx_sl, idx_str, len_sl, len_nil, len_str, load_rd, field_rd, field_bx, at_agg, at_int, at_sl, slice_lo, len_encL, idx_encL, ro_encL, slen_encL, isSl_encL, drop_encL, allocK_def, boxK_def, boxF_def, boxS_def, store_bx, storeBxA_some, put_def, setAt_zero, setAt_succ, load_bx, loadBx_some, cell_agg, cell_v, cell_sl, good_agg, good_int, good_bool, good_str, good_nil, good_sl, size_agg, size_v, size_sl, isAg_agg, sone_p, sone_ow, sone_bx, one_int, one_bool, one_str, one_nil, one_sl, tabF_def, evBuild_def, bldF_nil, bldF_cons, bldS_nil, bldS_cons, bldT_nil, bldT_cons, bldE_nil, bldE_cons, ovl_at, evBuildSlice_def, append_nil, append_ex, append_ow, appendRow_some, okTy_def, roomy_def, norm_ow, normRow_pub, normRow_own, sv_ow, svRow_pub, ro_sl, ro_snoc, len_snoc, isSl_snoc, isSl_sl, slen_sl, len_ow_snoc, append_encL, le_snoc_all, le_snoc_empty, bin_encL_eql, bin_encL_neq, good_encL, size_encL, one_encL, cell_encL, at_encL, upTo_zero, upTo_succ, List.nil_append, List.cons_append, Nat.zero_le, Nat.reduceLeDiff, Nat.reduceSub, Nat.reduceMul, Nat.sub_zero, List.mem_cons, List.not_mem_nil, forall_eq_or_imp, or_false, forall_eq, false_implies, List.getD_cons_zero, List.getD_cons_succ, getD_lit0, getD_litS, cfg_ti, cfg_spec, cfg_new, cfg_make, look_cons, retK_ret, retK_normal, resR_tmp, resR_cell, finR_p, finR_ow, finRow_encL, finRow_sl, finRow_snoc, slotP_p, sides_nil, sides_cons, retSV_one, retSV_two, retSV_none, list_zero, list_succ, cond_false_r, cond_true_l, le_refl', le_v, le_agg, le_tup, le_nil_encL, le_snoc, le_one, allLt_zero, allLt_succ, yes, List.map_cons, List.map_nil, List.length_cons, List.length_nil, Nat.zero_add, Nat.add_zero, true_and, and_true, and_self, ne_eq, Nat.reduceEqDiff, Nat.reduceAdd, Nat.reduceLT, not_false_eq_true, not_true_eq_false, implies_true, imp_self, if_true, if_false, ite_true, ite_false, reduceIte, Bool.false_eq_true, Bool.not_true, Bool.not_false, Bool.not_eq_true', decide_eq_true_eq, decide_eq_false_iff_not, toNat_cast, cast_nonneg, cast_lt, cast_le, vint_inj, vbool_inj, Nat.one_ne_zero, Bool.and_true, Bool.true_and, Bool.false_and, Bool.and_false, Bool.or_true, Bool.true_or, Bool.or_false, Bool.false_or, reduceCtorEq, eq_self, le_def, toSt_def, ofL_nil, ofL_cons, findB_nil, findB_bx, bxNo_bx, findB_p, findB_ow, findR_nil, findR_ow, owNo_ow, owNo_p, findR_p, findR_bx, upTo_zero, upTo_succ, distinct_nil, distinct_cons, somes_nil, somes_some, somes_none, sle_dead, sle_p, sle_bx, sle_ow, sle_nil_ow, sle_ow_p, leL_nil, leL_cons, leB_nil, leB_cons, boxLe_some, leR_nil, leR_some, leR_none, rowLe_some, List.nil_append, List.cons_append, List.contains_nil, Bool.not_false, ti3, ti4, ti22, ti23, ti27, ti31, e_awake, e_bReadingsErr, e_bIsDirection, e_phaseOf, e_bwithin, e_bMod, e_copyReadings, e_candidatesOf, e_bHas, e_contradictingIn, encR_def, at_encI, b1, b2, b3, b4, b5, b6, b7, b8, hol]
      intro _ _
      have h1 := Int.emod_nonneg (ws.getD i default) (show (2 * (l.getD i default).er + 1) ≠ 0 by omega)
      have h2 := Int.emod_lt_of_pos (ws.getD i default) (show 0 < 2 * (l.getD i default).er + 1 by omega)
      rw [wrap_id ((l.getD i default).sp * d % 720 + ws.getD i default % (2 * (l.getD i default).er + 1)) (by omega), wrap_id _ (by omega)]
      refine ⟨by omega, ⟨by omega, by omega⟩, ⟨by omega, by omega⟩, ⟨by omega, by omega⟩, i + 1, by omega, by omega, ?_, ?_⟩
      · rw [own_succ, le_snoc]
        exact SV.le_refl _
      · rw [wrap_id _ (by omega)]; omega
    · obtain rfl : i = l.length := by omega
      have b1 := eF (show ¬ l.length < l.length by omega)
      simp (maxSteps := 3000000) only [argSt_def, wp_skip', wp_label', wp_ret', wp_exit', wp_seq', wp_block', wp_cond', wp_region', wp_loop', cnd_bool, seqK_normal, seqK_ret, seqK_exit, blkK_normal, blkK_ret, blkK_same, blkK_other, loopK_ret, loopK_exit, loopK_normal, ro_nil, ro_cons, ro_guard, R.bind_mk, R.bind_yes, R.bind_no, A.bind_mk, A.bind_no, bindO_none, bindO_some, actK_some, actK_none, gslot_at, list_cons_zero, list_cons_succ, val_tmp, val_const, val_global, val_func, upd_same, upd_ne, putT_some, putT_none, ofV_int, ofV_bool, ofV_str, ofV_slice, ofV_ptr, sv_p, norm_p, norm_bx, strip_p, strip_bx, strip_ow, strip_rp, strip_gd, okG_gd, okG_p, okG_bx, okG_ow, okG_rp, want_true, want_false, want_gd, omap_some, omap_none, obind_some, isNone_none, okAll_nil, okAll_cons, ev_move, ev_assign, ev_pick, ev_bin, ev_un, ev_idxA, ev_idx, ev_field, ev_fieldA, ev_load, ev_extract, evExtract_tup, ev_build, ev_buildSlice, ev_slice, ev_len, ev_call, evCall_func, ev_min, ev_max, ev_conv, evG_min, evG_max, evG_conv, act_min, act_max, act_conv, opl_min, opl_max, opl_conv, min_int, max_int, conv_int, convK_some, frzIf_false, cfg_frz, cfg_un, wpR_none, binT_v, binT_sl, binT_encL, evG_pick, evG_move, evG_assign, evG_bin, evG_un, evG_idxA, evG_idx, evG_field, evG_fieldA, evG_load, evG_extract, evG_build, evG_buildSlice, evG_slice, evG_len, evG_call, act_move, act_assign, act_pick, act_bin, act_un, act_idxA, act_idx, act_field, act_fieldA, act_load, act_extract, act_build, act_buildSlice, act_slice, act_len, act_call, act_alloc', act_box, act_store, act_make, act_append, opl_move, opl_assign, opl_pick, opl_bin, opl_un, opl_idxA, opl_idx, opl_field, opl_fieldA, opl_load, opl_extract, opl_build, opl_buildSlice, opl_slice, opl_len, opl_call, bin_add, bin_sub, bin_mul, bin_quo, bin_rem, bin_eql, bin_neq, bin_lss, bin_leq, bin_gtr, bin_geq, bin_shl, bin_shr, bin_and, bin_or, bin_xor, bin_beql, bin_bneq, bin_seql, bin_sneq, bin_sadd, bin_slss, bin_nil_eql, bin_nil_neq, bin_sl_eql, bin_sl_neq, un_not, un_neg, pick_def, pickB_bool, pickV_true, pickV_false, pickV_bool, okG_false, idx_sl, idx_str, len_sl, len_nil, len_str, load_rd, field_rd, field_bx, at_agg, at_int, at_sl, slice_lo, len_encL, idx_encL, ro_encL, slen_encL, isSl_encL, drop_encL, allocK_def, boxK_def, boxF_def, boxS_def, store_bx, storeBxA_some, put_def, setAt_zero, setAt_succ, load_bx, loadBx_some, cell_agg, cell_v, cell_sl, good_agg, good_int, good_bool, good_str, good_nil, good_sl, size_agg, size_v, size_sl, isAg_agg, sone_p, sone_ow, sone_bx, one_int, one_bool, one_str, one_nil, one_sl, tabF_def, evBuild_def, bldF_nil, bldF_cons, bldS_nil, bldS_cons, bldT_nil, bldT_cons, bldE_nil, bldE_cons, ovl_at, evBuildSlice_def, append_nil, append_ex, append_ow, appendRow_some, okTy_def, roomy_def, norm_ow, normRow_pub, normRow_own, sv_ow, svRow_pub, ro_sl, ro_snoc, len_snoc, isSl_snoc, isSl_sl, slen_sl, len_ow_snoc, append_encL, le_snoc_all, le_snoc_empty, bin_encL_eql, bin_encL_neq, good_encL, size_encL, one_encL, cell_encL, at_encL, upTo_zero, upTo_succ, List.nil_append, List.cons_append, Nat.zero_le, Nat.reduceLeDiff, Nat.reduceSub, Nat.reduceMul, Nat.sub_zero, List.mem_cons, List.not_mem_nil, forall_eq_or_imp, or_false, forall_eq, false_implies, List.getD_cons_zero, List.getD_cons_succ, getD_lit0, getD_litS, cfg_ti, cfg_spec, cfg_new, cfg_make, look_cons, retK_ret, retK_normal, resR_tmp, resR_cell, finR_p, finR_ow, finRow_encL, finRow_sl, finRow_snoc, slotP_p, sides_nil, sides_cons, retSV_one, retSV_two, retSV_none, list_zero, list_succ, cond_false_r, cond_true_l, le_refl', le_v, le_agg, le_tup, le_nil_encL, le_snoc, le_one, allLt_zero, allLt_succ, yes, List.map_cons, List.map_nil, List.length_cons, List.length_nil, Nat.zero_add, Nat.add_zero, true_and, and_true, and_self, ne_eq, Nat.reduceEqDiff, Nat.reduceAdd, Nat.reduceLT, not_false_eq_true, not_true_eq_false, implies_true, imp_self, if_true, if_false, ite_true, ite_false, reduceIte, Bool.false_eq_true, Bool.not_true, Bool.not_false, Bool.not_eq_true', decide_eq_true_eq, decide_eq_false_iff_not, toNat_cast, cast_nonneg, cast_lt, cast_le, vint_inj, vbool_inj, Nat.one_ne_zero, Bool.and_true, Bool.true_and, Bool.false_and, Bool.and_false, Bool.or_true, Bool.true_or, Bool.or_false, Bool.false_or, reduceCtorEq, eq_self, le_def, toSt_def, ofL_nil, ofL_cons, findB_nil, findB_bx, bxNo_bx, findB_p, findB_ow, findR_nil, findR_ow, owNo_ow, owNo_p, findR_p, findR_bx, upTo_zero, upTo_succ, distinct_nil, distinct_cons, somes_nil, somes_some, somes_none, sle_dead, sle_p, sle_bx, sle_ow, sle_nil_ow, sle_ow_p, leL_nil, leL_cons, leB_nil, leB_cons, boxLe_some, leR_nil, leR_some, leR_none, rowLe_some, List.nil_append, List.cons_append, List.contains_nil, Bool.not_false, ti3, ti4, ti22, ti23, ti27, ti31, e_awake, e_bReadingsErr, e_bIsDirection, e_phaseOf, e_bwithin, e_bMod, e_copyReadings, e_candidatesOf, e_bHas, e_contradictingIn, encR_def, at_encI, b1]
      subst ht
      exact fun _ => amongB rfl rfl rfl rfl hz hd fun T m h0 => amongC h0 hz.1 (contra_cases he) (fun h => contra_len h) (contra_idx he) (fun h => contra_min he h)
end Go.Am
