/- 'append' and stores into a row of the call's own. -/
import Derived.Test.YtmmofgbjpmhgpaaDoorAm6
set_option linter.all false
set_option linter.unusedVariables false
set_option linter.unusedSimpArgs false
set_option linter.unnecessarySimpa false
namespace Go.Am
open Go Go.RowKit

section
variable {P : Program} {c : Cfg} {w0 w : World} {fz0 fz : Nat → Nat → Prop} {φ : Own} {m : Mem} {o : Oper} {a : Act} {T : Nat → Slot} {K : Act → World → Prop} {Q : Exit → Act → World → Prop}

theorem RM.kill (hm : RM P w0 fz0 w fz φ m) {k : Nat} {r : Row} (hk : m.rows[k]? = some r) : RM P w0 fz0 w fz φ { m with rows := setAt m.rows k { r with live := false } } := by
  have get : ∀ j r', (setAt m.rows k { r with live := false })[j]? = some r' → (j = k ∧ r' = { r with live := false }) ∨ (j ≠ k ∧ m.rows[j]? = some r') := by
    intro j r' hj
    rw [setAt_get] at hj
    split at hj
    · rename_i h; exact .inl ⟨h.1, (Option.some.inj hj).symm⟩
    · rename_i h
      exact .inr ⟨fun e => h ⟨e, lt_of_getElem? hk⟩, hj⟩
  refine ⟨hm.more0, hm.only0, hm.below, hm.lt, hm.box, fun j r' hj => ?_, fun j r' hj => ?_, hm.nb, by dsimp only; rw [setAt_length]; exact hm.nr, hm.dbb, fun i j r' hi hj hl => ?_, fun j j' r1 r2 b h1 h2 l1 l2 => ?_⟩
  · rcases get j r' hj with ⟨rfl, rfl⟩ | ⟨_, h⟩
    · obtain ⟨g1, g2, g3⟩ := hm.row j r hk
      exact ⟨fun h => (by cases h), g2, g3⟩
    · exact hm.row j r' h
  · rcases get j r' hj with ⟨rfl, rfl⟩ | ⟨_, h⟩
    · exact hm.esz j r hk
    · exact hm.esz j r' h
  · rcases get j r' hj with ⟨rfl, rfl⟩ | ⟨_, h⟩
    · cases hl
    · exact hm.dbr i j r' hi h hl
  · rcases get j r1 h1 with ⟨rfl, rfl⟩ | ⟨_, h1'⟩
    · cases l1
    · rcases get j' r2 h2 with ⟨rfl, rfl⟩ | ⟨_, h2'⟩
      · cases l2
      · exact hm.drr j j' r1 r2 b h1' h2' l1 l2

theorem RM.kill_get {k : Nat} {r : Row} (hk : m.rows[k]? = some r) {j : Nat} {r' : Row} (hj : (setAt m.rows k { r with live := false })[j]? = some r') (hl : r'.live = true) : j ≠ k ∧ m.rows[j]? = some r' := by
  rw [setAt_get] at hj
  split at hj
  · obtain rfl := Option.some.inj hj; cases hl
  · rename_i h
    exact ⟨fun e => h ⟨e, lt_of_getElem? hk⟩, hj⟩

theorem snoc_len {esz : Nat} {s : SV} {ex : Bool} {n k : Nat} {e : Nat → SV} : (SV.snoc esz s (.sl ex n k e)).len = s.len + n := rfl
theorem snoc_ro {esz : Nat} {s : SV} {ex : Bool} {n k : Nat} {e : Nat → SV} : (SV.snoc esz s (.sl ex n k e)).ro = .sl false (s.len + n) esz (fun i => if i < s.len then s.idx i else e (i - s.len)) := rfl
theorem holds_append {n n2 esz : Nat} {e e2 : Nat → SV} {cur : Array Value} {olds news : List Value} {rest : List Value} (h1 : Holds w fz n esz e cur) (h2 : Holds w fz n2 esz e2 news.toArray) (hl : olds.length = n * esz)
    (ho : ∀ j, j < n * esz → olds[j]? = cur[j]?) (hn : news.length = n2 * esz) : Holds w fz (n + n2) esz (fun i => if i < n then e i else e2 (i - n)) (olds ++ news ++ rest).toArray := by
  intro i hi
  by_cases hin : i < n
  · obtain ⟨ev, r1, r2, r3⟩ := h1 i hin
    refine ⟨ev, by simp only [hin, if_true]; exact r1, r2, fun j hj => ?_⟩
    obtain ⟨u, g1, g2, g3⟩ := r3 j hj
    have hlt : i * esz + j < n * esz := by
      calc i * esz + j < i * esz + esz := by omega
        _ = (i + 1) * esz := by rw [Nat.succ_mul]
        _ ≤ n * esz := Nat.mul_le_mul_right _ hin
    refine ⟨u, g1, g2, ?_⟩
    rw [List.getElem?_toArray, List.append_assoc, List.getElem?_append_left (by omega), ho _ hlt]
    exact g3
  · obtain ⟨ev, r1, r2, r3⟩ := h2 (i - n) (by omega)
    refine ⟨ev, by simp only [hin, if_false]; exact r1, r2, fun j hj => ?_⟩
    obtain ⟨u, g1, g2, g3⟩ := r3 j hj
    refine ⟨u, g1, g2, ?_⟩
    have e1 : i * esz + j = n * esz + ((i - n) * esz + j) := by
      rw [← Nat.add_assoc, ← Nat.add_mul]; congr 2; omega
    have hlt : (i - n) * esz + j < n2 * esz := by
      calc (i - n) * esz + j < (i - n) * esz + esz := by omega
        _ = (i - n + 1) * esz := by rw [Nat.succ_mul]
        _ ≤ n2 * esz := Nat.mul_le_mul_right _ (by omega)
    rw [List.getElem?_toArray, List.append_assoc, e1, List.getElem?_append_right (by omega), hl, Nat.add_sub_cancel_left, List.getElem?_append_left (by omega)]
    simpa using g3

/-- The model's append, at the operation. -/
theorem wp_append {s x : Operand} {t : TypeId} {y : Value} {w' : World} (ho : o.op = .call { callee := .builtin .append, args := ⟨[s, x]⟩, argTypes := ⟨[t, t]⟩ })
    (hr : (Builtin.append_ #[t, t] o.type #[a.eval s, a.eval x]).run P w = .ok y w') (k : K (a.put o.dst y) w') : o.wp P a w K Q :=
  wp_value (x := Builtin.append_ #[t, t] o.type #[a.eval s, a.eval x]) (by simp [execOp, ho, resolve, invoke, builtin]) hr k

theorem appendOwn_sound {s x : Operand} {t k n2 : Nat} {ex2 : Bool} {e2 : Nat → SV} {r : Row} (hc : c.ti = TI.of P) (h : RS P w0 fz0 w fz φ T m a) (hd : ∀ d, o.dst = some d → d < a.tmps.size)
    (ho : o.op = .call { callee := .builtin .append, args := ⟨[s, x]⟩, argTypes := ⟨[t, t]⟩ }) (h3 : (c.ti t).kind = 3) (hs : val T s = .ow k) (hk : m.rows[k]? = some r)
    (hx : (val T x).sv m = .sl ex2 n2 (c.ti (c.ti t).elem).size e2) (hl : r.live = true) (hty : r.ty = (c.ti t).elem) (hok : okTy c (c.ti t).elem) (hroom : roomy (r.s.len + n2) (c.ti (c.ti t).elem).bytes)
    (kk : ∀ a' w' fz' φ', RS P w0 fz0 w' fz' φ' (putT T o.dst (.ow m.rows.length)) { m with rows := setAt m.rows k { r with live := false } ++ [⟨(c.ti t).elem, SV.snoc (c.ti (c.ti t).elem).size r.s (.sl true n2 (c.ti (c.ti t).elem).size e2), r.pub, true⟩] } a' → a'.defers = a.defers → a'.tmps.size = a.tmps.size → Full φ m φ' m → K a' w') : o.wp P a w K Q := by
  rw [hc] at h3 hx hty hroom kk
  obtain ⟨ti, el, hti, hu, he⟩ := TI.kind3 h3
  unfold okTy at hok
  rw [hc] at hok
  rw [he] at hx hty hroom kk hok
  obtain ⟨hnz, hzg, hzs⟩ := hok
  subst hty
  obtain ⟨ei, z, hei, hz, rz, zs, zc⟩ := zero_sound (P := P) (w := w) (fz := fz) hzg hzs
  have hes := (TI.of_some hei).1
  rw [(TI.of_some hei).2] at hroom
  have hsv := slotRep_val h.slots s
  rw [hs] at hsv
  obtain ⟨hkr, hsv⟩ := hsv
  have hxv := (slotRep_val h.slots x).sv h.mem
  rw [hx] at hxv
  have hxv0 := hxv
  obtain ⟨ax, cx, hax, _⟩ := hxv0
  rw [hax] at hxv
  obtain ⟨news, hnl, hnx, hn1, hnh⟩ := flat_of_rep hxv (by omega)
  have hkill := h.mem.kill hk
  have hlen0 : (setAt m.rows k { r with live := false }).length = m.rows.length := setAt_length _ _ _
  have hnx' : 0 < n2 → ∃ b o, ax = some ⟨b, o, none⟩ ∧ ∀ j u, news[j]? = some u → w.cell? ((⟨b, o, none⟩ : Addr).add j) = some u := fun h0 => by
    obtain ⟨b, o, e1, e2⟩ := hnx h0
    exact ⟨b, o, e1, fun j u hj => (e2 j u hj).1⟩
  -- what is left when the row has been written or laid anew
  have fin : ∀ (w' : World) (fz' : Nat → Nat → Prop) (y : Value), RM P w0 fz0 w' fz' φ { m with rows := setAt m.rows k { r with live := false } } → (∀ i, SlotRep w' fz' φ (T i) (a.tmps.getD i undef)) →
      RowOK P w0.heap.size w' fz' ⟨r.ty, SV.snoc (TI.of P r.ty).size r.s (.sl true n2 (TI.of P r.ty).size e2), r.pub, true⟩ y →
      (∀ b, y.ownBlock = some b → (∀ k, φ.bok k → φ.box k ≠ b) ∧ ∀ j r', j ≠ k → m.rows[j]? = some r' → r'.live = true → (φ.row j).ownBlock ≠ some b) → K (a.put o.dst y) w' := by
    intro w' fz' y g1 g2 g3 g4
    exact kk _ _ _ _ (RS.addRow g1 g2 hd g3 (fun b _ hb => ⟨(g4 b hb).1, fun j r' hj hl' => by
      obtain ⟨e1, e2⟩ := RM.kill_get hk hj hl'
      exact (g4 b hb).2 j r' e1 e2 hl'⟩) _ hlen0.symm) defers_put size_put (Full.same rfl rfl)
  have hlo := ((h.mem.row k r hk).1 hl).shape
  have slots : ∀ {w' fz'}, (∀ b o, fz b o → fz' b o ∧ w'.cell? ⟨b, o, none⟩ = w.cell? ⟨b, o, none⟩) → ∀ i, SlotRep w' fz' φ (T i) (a.tmps.getD i undef) := fun hm i => SlotRep.mono hm _ _ (h.slots i)
  -- the new block
  have grown : ∀ (n : Nat) (e : Nat → SV) (olds : List Value) (cur : Array Value) (cap : Nat) (rest : Array Value), n = r.s.len → e = r.s.idx → Holds w fz n ei.size e cur → olds.length = n * ei.size → (∀ j, j < n * ei.size → olds[j]? = cur[j]?) →
      n + n2 ≤ cap → cap ≤ maxLen → rest.size = (cap - (n + n2)) * ei.size → K (a.put o.dst (.slice (some ⟨w.heap.size, 0, none⟩) (n + n2) cap)) (w.drew.alloc (.cells (olds.toArray ++ news.toArray ++ rest) r.ty)) := by
    rintro n e olds cur cap rest rfl rfl hh hol ho hcap hmx hrs
    generalize hcs : olds.toArray ++ news.toArray ++ rest = cs
    have hcs' : cs = (olds ++ news ++ rest.toList).toArray := by rw [← hcs]; simp
    have hext : Ext w fz (w.drew.alloc (.cells cs r.ty)) (fun b o => fz b o ∨ b = w.heap.size ∧ o < (if r.pub = true then (r.s.len + n2) * ei.size else 0)) := by
      have := ext_alloc (w := w.drew) (fz := fz) h.mem.lt cs r.ty (if r.pub = true then (r.s.len + n2) * ei.size else 0)
      exact ⟨⟨this.below.os, this.below.tape, this.below.output, this.below.size, this.below.block⟩, this.more, this.only, this.lt⟩
    have hmono : ∀ b o, fz b o → (fz b o ∨ b = w.heap.size ∧ o < (if r.pub = true then (r.s.len + n2) * ei.size else 0)) ∧ (w.drew.alloc (.cells cs r.ty)).cell? ⟨b, o, none⟩ = w.cell? ⟨b, o, none⟩ := fun b o hf => ⟨.inl hf, hext.cell (h.mem.lt b o hf)⟩
    have hnew : (w.drew.alloc (.cells cs r.ty)).heap[w.heap.size]? = some (.cells cs r.ty (0, 0)) := heap_alloc_new w.drew _
    have hsize : cs.size = cap * ei.size := by
      rw [hcs']
      simp only [List.size_toArray, List.length_append, Array.length_toList, hol, hnl, hrs, hes, ← Nat.add_mul]
      congr 1
      omega
    have hho : Holds (w.drew.alloc (.cells cs r.ty)) (fun b o => fz b o ∨ b = w.heap.size ∧ o < (if r.pub = true then (r.s.len + n2) * ei.size else 0)) (r.s.len + n2) ei.size (fun i => if i < r.s.len then r.s.idx i else e2 (i - r.s.len)) cs := by
      rw [hcs']
      rw [hes] at hnh hnl
      rw [hcs'] at hmono
      exact holds_mono hmono (holds_append hh hnh hol ho hnl)
    refine fin _ _ _ (hkill.ext hext) (slots hmono) ⟨fun _ => ⟨.inr ⟨w.heap.size, cap, cs, rfl, h.mem.below.size, hnew, by dsimp only; rw [hsize, hes], hcap, hmx, by dsimp only; rw [hes]; exact hho, ?_, ?_, ?_⟩⟩, fun hp => ?_, ⟨_, _, _, rfl⟩⟩ ?_
    · dsimp only; rw [snoc_len]
      rw [hes]
      intro j hj hj' hf
      rcases hf with hf | ⟨_, hf⟩
      · have := h.mem.lt _ _ hf; omega
      · split at hf <;> omega
    · dsimp only; rw [snoc_len]
      rw [hes]
      intro hp j hj
      exact .inr ⟨rfl, by rw [if_pos hp]; exact hj⟩
    · dsimp only
      intro hp j hf
      rcases hf with hf | ⟨_, hf⟩
      · have := h.mem.lt _ _ hf; omega
      · rw [if_neg (by rw [hp]; simp)] at hf; omega
    · dsimp only at hp ⊢; rw [snoc_ro]
      rw [hes]
      exact holds_slice hnew hho hcap (fun hx => by cases hx) (fun j hj => .inr ⟨rfl, by rw [if_pos hp]; exact hj⟩)
    · intro b hb
      simp only [Value.ownBlock, Option.some.injEq] at hb
      subst hb
      refine ⟨fun k hk e => ?_, fun j r' _ hj hl e => ?_⟩
      · have hk' := h.mem.nb k hk
        have := (h.mem.box k m.boxes[k] hk (by simp [hk'])).lt; omega
      · have := h.mem.row_lt hj hl e; omega
  rcases hlo with ⟨hv, hlen⟩ | ⟨b, cap0, cur, hv, hB, hh, hsz, hn, hmx, hho, f1, f2, f3⟩
  · have hrun := append_run (P := P) (w := w) (t := t) (oty := o.type) (b := 0) (cur := #[]) (n := 0) (c := 0) (c2 := cx) hu hei hz (by rw [zs, hes]) (.inl ⟨rfl, rfl, rfl⟩) (by rw [hnl, hes]) hnx' hn1 (by rw [hlen] at hroom; exact hroom)
    rcases hrun with ⟨h0, ⟨_, hr⟩ | ⟨hb, _⟩⟩ | ⟨h0, cap, rest, q1, q2, q3, hr⟩
    · refine wp_append ho (by rw [hsv, hv, hax]; exact hr) (fin _ _ _ hkill h.slots ⟨fun _ => ⟨.inl ⟨rfl, ?_⟩⟩, fun _ => ?_, ⟨_, _, _, rfl⟩⟩ (fun b hb => by cases hb))
      · dsimp only; rw [snoc_len]; omega
      · dsimp only; rw [snoc_ro]
        have e0 : r.s.len + n2 = 0 := by omega
        rw [e0]
        exact ⟨none, 0, rfl, Nat.le_refl _, fun h => (by cases h), fun h => (by omega)⟩
    · cases hb
    · refine wp_append ho (by rw [hsv, hv, hax]; exact hr) ?_
      have := grown 0 r.s.idx [] #[] cap rest hlen.symm rfl (fun i hi => by omega) (by simp) (fun j hj => by simp at hj) q1 q2 q3
      simpa using this
  · have hrun := append_run (P := P) (w := w) (t := t) (oty := o.type) (b := b) (cur := cur) (n := r.s.len) (c := cap0) (c2 := cx) hu hei hz (by rw [zs, hes]) (.inr ⟨rfl, hh, by rw [hsz, hes], hn⟩) (by rw [hnl, hes]) hnx' hn1 hroom
    rw [hes] at hsz hho f1 f2
    have hfit0 : r.s.len * ei.size ≤ cur.size := by rw [hsz]; exact Nat.mul_le_mul_right _ hn
    rcases hrun with ⟨h0, ⟨hb, _⟩ | ⟨_, hr⟩⟩ | ⟨h0, cap, rest, q1, q2, q3, hr⟩
    · cases hb
    · refine wp_append ho (by rw [hsv, hv, hax]; exact hr) ?_
      rw [hes] at hnl hnh
      have hfit : r.s.len * ei.size + news.length ≤ cur.size := by rw [hnl, hsz, ← Nat.add_mul]; exact Nat.mul_le_mul_right _ h0
      have hget := mid_get hfit
      have hms := mid_size hfit
      have hho2 := holds_append (rest := cur.toList.drop (r.s.len * ei.size + news.length)) (olds := cur.toList.take (r.s.len * ei.size)) hho hnh (by rw [List.length_take]; simp; omega) (fun j hj => by rw [List.getElem?_take_of_lt hj]; simp) hnl
      generalize hnew : (cur.toList.take (r.s.len * ei.size) ++ news ++ cur.toList.drop (r.s.len * ei.size + news.length)).toArray = new at *
      have hblt : b < w.heap.size := (Array.getElem?_eq_some_iff.1 hh).1
      have hcellb : ∀ o, fz b o → (w.setRow b new).cell? ⟨b, o, none⟩ = w.cell? ⟨b, o, none⟩ := by
        intro o' hf
        rw [cell_setRow_same w b o' cur new r.ty (0, 0) hh]
        have hlt : ¬ (r.s.len * ei.size ≤ o' ∧ o' < cur.size) := fun hc => f1 o' hc.1 hc.2 hf
        rw [hget, if_neg (by omega)]
        simp [World.cell?, hh]
      have hmono : ∀ b' o', fz b' o' → (fz b' o' ∨ b' = b ∧ r.pub = true ∧ o' < (r.s.len + n2) * ei.size) ∧ (w.setRow b new).cell? ⟨b', o', none⟩ = w.cell? ⟨b', o', none⟩ := fun b' o' hf => ⟨.inl hf, by
        by_cases e : b' = b
        · subst e; exact hcellb o' hf
        · exact World.cell?_of_block (setRow_other w b b' new e)⟩
      have hnh2 : (w.setRow b new).heap[b]? = some (.cells new r.ty (0, 0)) := setRow_heap w b cur new r.ty (0, 0) hh
      have hw := hkill.write (w' := w.setRow b new) (fz' := fun b' o' => fz b' o' ∨ b' = b ∧ r.pub = true ∧ o' < (r.s.len + n2) * ei.size) (b := b) (m' := { m with rows := setAt m.rows k { r with live := false } }) hB hblt rfl rfl rfl (by simp) (fun j hj => setRow_other w b j new hj)
        (fun _ _ h => .inl h) (fun b' o' h => h.elim .inl (fun h => .inr h.1)) hcellb rfl rfl
        (fun j bx hbj hj => .inl ⟨hj, fun e => h.mem.dbr j k r hbj hk hl (by rw [hv, e]; rfl)⟩)
        (fun j r' hj => ⟨r', hj, rfl, fun h => h, .inl ⟨rfl, rfl, fun hl' e => by
          obtain ⟨e1, e2⟩ := RM.kill_get hk hj hl'
          exact e1 (h.mem.drr j k r' r b e2 hk hl' hl e (by rw [hv]; rfl))⟩⟩)
      have hho3 := holds_mono hmono hho2
      refine fin _ _ _ hw (slots hmono) ⟨fun _ => ⟨.inr ⟨b, cap0, new, rfl, hB, hnh2, by dsimp only; rw [hms, hsz, hes], h0, hmx, by dsimp only; rw [hes]; exact hho3, ?_, ?_, ?_⟩⟩, fun hp => ?_, ⟨_, _, _, rfl⟩⟩ ?_
      · dsimp only; rw [snoc_len]
        rw [hes]
        intro j hj hj' hf
        have hle : r.s.len * ei.size ≤ (r.s.len + n2) * ei.size := Nat.mul_le_mul_right _ (by omega)
        rcases hf with hf | ⟨_, _, hf⟩
        · exact f1 j (by omega) (by omega) hf
        · omega
      · dsimp only; rw [snoc_len]
        rw [hes]
        intro hp j hj
        exact .inr ⟨rfl, hp, hj⟩
      · dsimp only
        intro hp j hf
        rcases hf with hf | ⟨_, hf, _⟩
        · exact f3 hp j hf
        · rw [hp] at hf; cases hf
      · dsimp only at hp ⊢; rw [snoc_ro]
        rw [hes]
        exact holds_slice hnh2 hho3 h0 (fun hx => by cases hx) (fun j hj => .inr ⟨rfl, hp, hj⟩)
      · intro b' hb
        simp only [Value.ownBlock, Option.some.injEq] at hb
        subst hb
        refine ⟨fun j hj e => h.mem.dbr j k r hj hk hl (by rw [hv, e]; rfl), fun j r' hjk hj hl' e => hjk (h.mem.drr j k r' r b hj hk hl' hl e (by rw [hv]; rfl))⟩
    · refine wp_append ho (by rw [hsv, hv, hax]; exact hr) ?_
      rw [if_neg (by simp)]
      exact grown r.s.len r.s.idx _ cur cap rest rfl rfl hho (by rw [List.length_take]; simp; omega) (fun j hj => by rw [List.getElem?_take_of_lt hj]; simp) q1 q2 q3

/-- A new block that holds a new row. -/
theorem fresh_row (h : RS P w0 fz0 w fz φ T m a) (hd : ∀ d, o.dst = some d → d < a.tmps.size) {cs : Array Value} {n cap ty : Nat} {s : SV} {pub : Bool} {e : Nat → SV} (hh : Holds w fz n (TI.of P ty).size e cs) (hsz : cs.size = cap * (TI.of P ty).size) (hn : n ≤ cap) (hmx : cap ≤ maxLen)
    (h1 : s.len = n) (h2 : s.idx = e) (h3 : s.ro = .sl false n (TI.of P ty).size e) : ∃ fz' φ', RS P w0 fz0 (w.drew.alloc (.cells cs ty)) fz' φ' (putT T o.dst (.ow m.rows.length)) { m with rows := m.rows ++ [⟨ty, s, pub, true⟩] } (a.put o.dst (.slice (some ⟨w.heap.size, 0, none⟩) n cap)) ∧ Full φ m φ' m := by
  have hext : Ext w fz (w.drew.alloc (.cells cs ty)) (fun b o => fz b o ∨ b = w.heap.size ∧ o < (if pub = true then n * (TI.of P ty).size else 0)) := by
    have := ext_alloc (w := w.drew) (fz := fz) h.mem.lt cs ty (if pub = true then n * (TI.of P ty).size else 0)
    exact ⟨⟨this.below.os, this.below.tape, this.below.output, this.below.size, this.below.block⟩, this.more, this.only, this.lt⟩
  have hmono : ∀ b o, fz b o → (fz b o ∨ b = w.heap.size ∧ o < (if pub = true then n * (TI.of P ty).size else 0)) ∧ (w.drew.alloc (.cells cs ty)).cell? ⟨b, o, none⟩ = w.cell? ⟨b, o, none⟩ := fun b o hf => ⟨.inl hf, hext.cell (h.mem.lt b o hf)⟩
  have hnew : (w.drew.alloc (.cells cs ty)).heap[w.heap.size]? = some (.cells cs ty (0, 0)) := heap_alloc_new w.drew _
  have hho := holds_mono hmono hh
  refine ⟨_, _, RS.addRow (hm := h.mem.ext hext) (hs := fun i => SlotRep.mono hmono _ _ (h.slots i)) hd (r := ⟨ty, s, pub, true⟩) ⟨fun _ => ⟨.inr ⟨w.heap.size, cap, cs, by dsimp only; rw [h1], h.mem.below.size, hnew, hsz, by dsimp only; rw [h1]; exact hn, hmx, by dsimp only; rw [h1, h2]; exact hho, ?_, ?_, ?_⟩⟩, fun hp => ?_, ⟨_, _, _, rfl⟩⟩ ?_ _ rfl, Full.same rfl rfl⟩
  · dsimp only
    rw [h1]
    intro j hj hj' hf
    rcases hf with hf | ⟨_, hf⟩
    · have := h.mem.lt _ _ hf; omega
    · split at hf <;> omega
  · dsimp only
    rw [h1]
    intro hp j hj
    exact .inr ⟨rfl, by rw [if_pos hp]; exact hj⟩
  · dsimp only
    intro hp j hf
    rcases hf with hf | ⟨_, hf⟩
    · have := h.mem.lt _ _ hf; omega
    · rw [if_neg (by rw [hp]; simp)] at hf; omega
  · dsimp only at hp ⊢
    rw [h3]
    exact holds_slice hnew hho hn (fun hx => by cases hx) (fun j hj => .inr ⟨rfl, by rw [if_pos hp]; exact hj⟩)
  · intro b _ hb
    simp only [Value.ownBlock, Option.some.injEq] at hb
    subst hb
    refine ⟨fun k hk e => ?_, fun j r' hj hl e => ?_⟩
    · have hk' := h.mem.nb k hk
      have := (h.mem.box k m.boxes[k] hk (by simp [hk'])).lt; omega
    · have := h.mem.row_lt hj hl e; omega

/-- What both sides of an append are, when the first is not a row of the call's own. -/
theorem appendNil_sound {s x : Operand} {t n2 : Nat} {ex2 : Bool} {e2 : Nat → SV} (hc : c.ti = TI.of P) (h : RS P w0 fz0 w fz φ T m a) (hd : ∀ d, o.dst = some d → d < a.tmps.size)
    (ho : o.op = .call { callee := .builtin .append, args := ⟨[s, x]⟩, argTypes := ⟨[t, t]⟩ }) (h3 : (c.ti t).kind = 3) (hs : val T s = .p (.v (.slice none 0 0)))
    (hx : (val T x).sv m = .sl ex2 n2 (c.ti (c.ti t).elem).size e2) (hn2 : 0 < n2) (hok : okTy c (c.ti t).elem) (hroom : roomy n2 (c.ti (c.ti t).elem).bytes)
    (kk : ∀ a' w' fz' φ', RS P w0 fz0 w' fz' φ' (putT T o.dst (.ow m.rows.length)) { m with rows := m.rows ++ [⟨(c.ti t).elem, .sl false n2 (c.ti (c.ti t).elem).size e2, c.pubNew, true⟩] } a' → a'.defers = a.defers → a'.tmps.size = a.tmps.size → Full φ m φ' m → K a' w') : o.wp P a w K Q := by
  rw [hc] at h3 hx hroom kk
  obtain ⟨ti, el, hti, hu, he⟩ := TI.kind3 h3
  unfold okTy at hok
  rw [hc] at hok
  rw [he] at hx hroom kk hok
  obtain ⟨hnz, hzg, hzs⟩ := hok
  obtain ⟨ei, z, hei, hz, rz, zs, zc⟩ := zero_sound (P := P) (w := w) (fz := fz) hzg hzs
  have hes := (TI.of_some hei).1
  rw [(TI.of_some hei).2] at hroom
  have hsv := slotRep_val h.slots s
  rw [hs] at hsv
  have hsv' : a.eval s = .slice none 0 0 := hsv
  have hxv := (slotRep_val h.slots x).sv h.mem
  rw [hx] at hxv
  have hxv0 := hxv
  obtain ⟨ax, cx, hax, _⟩ := hxv0
  rw [hax] at hxv
  obtain ⟨news, hnl, hnx, hn1, hnh⟩ := flat_of_rep hxv (by omega)
  have hrun := append_run (P := P) (w := w) (t := t) (oty := o.type) (b := 0) (cur := #[]) (n := 0) (c := 0) (c2 := cx) hu hei hz (by rw [zs, hes]) (.inl ⟨rfl, rfl, rfl⟩) (by rw [hnl, hes]) (fun h0 => by
    obtain ⟨b, o, e1, e2⟩ := hnx h0
    exact ⟨b, o, e1, fun j u hj => (e2 j u hj).1⟩) hn1 (by rw [Nat.zero_add]; exact hroom)
  rcases hrun with ⟨h0, _⟩ | ⟨h0, cap, rest, q1, q2, q3, hr⟩
  · omega
  · rw [Nat.zero_add] at q1 q3 hr
    simp only [if_true, List.take_zero, Array.empty_append] at hr
    have hho : Holds w fz n2 (TI.of P el).size e2 (news.toArray ++ rest) := by
      have := holds_append (w := w) (fz := fz) (n := 0) (n2 := n2) (esz := (TI.of P el).size) (e := e2) (cur := #[]) (olds := []) (rest := rest.toList) (fun i hi => by omega) hnh (by simp) (fun j hj => by simp at hj) hnl
      rw [show news.toArray ++ rest = ([] ++ news ++ rest.toList).toArray by cases rest; simp]
      simpa using this
    obtain ⟨fz', φ', hrs, hfull⟩ := fresh_row (s := .sl false n2 (TI.of P el).size e2) (pub := c.pubNew) (cs := news.toArray ++ rest) (cap := cap) (ty := el) h hd hho (by simp only [Array.size_append, List.size_toArray, hnl, q3, hes, ← Nat.add_mul]; congr 1; omega) q1 q2 rfl rfl rfl
    exact wp_append ho (by rw [hsv', hax]; simpa using hr) (kk _ _ _ _ hrs defers_put size_put hfull)

theorem appendEx_run {s x : Operand} {t n n2 : Nat} {ex2 : Bool} {e e2 : Nat → SV} {el : TypeId} {ei : TypeInfo} {z : Value} (h : RS P w0 fz0 w fz φ T m a) (hu : P.underlying t = some (.slice el)) (hei : P.info? el = some ei) (hz : ei.zero = some z) (hzs : z.cells.size = ei.size) (hnz : ei.size ≠ 0)
    (hs : val T s = .p (.sl true n ei.size e)) (hx : (val T x).sv m = .sl ex2 n2 ei.size e2) (hroom : roomy (n + n2) ei.bytes) (oty : TypeId) :
    (n2 = 0 ∧ (Builtin.append_ #[t, t] oty #[a.eval s, a.eval x]).run P w = .ok (a.eval s) w) ∨
    ∃ cap cs, n + n2 ≤ cap ∧ cap ≤ maxLen ∧ cs.size = cap * ei.size ∧ Holds w fz (n + n2) ei.size (fun i => if i < n then e i else e2 (i - n)) cs ∧
      (Builtin.append_ #[t, t] oty #[a.eval s, a.eval x]).run P w = .ok (.slice (some ⟨w.heap.size, 0, none⟩) (n + n2) cap) (w.drew.alloc (.cells cs el)) := by
  have hsv := slotRep_val h.slots s
  rw [hs] at hsv
  have hsv0 : Rep w fz (.sl true n ei.size e) (a.eval s) := hsv
  obtain ⟨as, cs, has, hnc, hex, hsa⟩ := hsv0
  obtain rfl := hex rfl
  have hsv1 : Rep w fz (.sl true cs ei.size e) (a.eval s) := hsv
  rw [has] at hsv1
  obtain ⟨olds, hol, hox, _, hoh⟩ := flat_of_rep hsv1 (by omega)
  have hxv := (slotRep_val h.slots x).sv h.mem
  rw [hx] at hxv
  have hxv0 := hxv
  obtain ⟨ax, cx, hax, _⟩ := hxv0
  rw [hax] at hxv
  obtain ⟨news, hnl, hnx, hn1, hnh⟩ := flat_of_rep hxv (by omega)
  by_cases h0 : n2 = 0
  · subst h0
    left
    refine ⟨rfl, ?_⟩
    rw [has, hax]
    cases as <;> cases ax <;> simp [Builtin.append_, run_underlying hu, sizeOf, typeInfo, hei, Builtin.lenOf, Builtin.firstCells, loadCells, loadCellsFrom, storeCells]
  · right
    obtain ⟨hr1, hr2⟩ := hroom
    have hsmall : cs + n2 ≤ maxLen := by unfold maxLen; omega
    obtain ⟨bx, ox, rfl, hcx⟩ := hnx (by omega)
    have hcx' : ∀ j u, news[j]? = some u → w.cell? ((⟨bx, ox, none⟩ : Addr).add j) = some u := fun j u hj => (hcx j u hj).1
    have hho : ∀ rest : Array Value, Holds w fz (cs + n2) ei.size (fun i => if i < cs then e i else e2 (i - cs)) (olds.toArray ++ news.toArray ++ rest) := fun rest => by
      have := holds_append (rest := rest.toList) (olds := olds) hoh hnh hol (fun j _ => by simp) hnl
      rw [show olds.toArray ++ news.toArray ++ rest = (olds ++ news ++ rest.toList).toArray by cases rest; simp]
      exact this
    cases as with
    | none =>
      have hcs0 : cs = 0 := by
        rcases Nat.eq_zero_or_pos cs with h | h
        · exact h
        · obtain ⟨_, _, hb, _⟩ := hsa h; cases hb
      subst hcs0
      have hon : olds = [] := List.eq_nil_of_length_eq_zero (by simpa using hol)
      subst hon
      have hr := run_append_nil (P := P) w t oty el ei z hu hei hz ⟨bx, ox, none⟩ n2 cx news hnl hcx' (by omega) (by omega) (by have := hr2; simp only [Nat.zero_add] at this; omega)
      refine ⟨grownCap w n2 0 el, _, by simpa using grownCap_ge w n2 0 el, grownCap_le_maxLen w n2 0 el (by simpa using hsmall), ?_, hho (Builtin.zeroCells z.cells (grownCap w n2 0 el - n2)), ?_⟩
      · have := grownCap_ge w n2 0 el
        simp only [Array.size_append, List.size_toArray, hol, hnl, size_zeroCells, hzs, ← Nat.add_mul]
        congr 1; omega
      · rw [has, hax, hr]; simp
    | some ad =>
      have hr := run_append_grow (P := P) w t oty el ei z hu hei hz ad cs cs olds hol (fun j v hj => by
        rcases Nat.eq_zero_or_pos cs with h | h
        · subst h
          have hon : olds = [] := List.eq_nil_of_length_eq_zero (by simpa using hol)
          rw [hon] at hj; simp at hj
        · obtain ⟨b, o, e1, e3⟩ := hox h
          rw [Option.some.inj e1]
          exact (e3 j v hj).1) ⟨bx, ox, none⟩ n2 cx news hnl hcx' (by omega) (by omega) (growslice_fits (by omega) hr2)
      refine ⟨grownCap w (cs + n2) cs el, _, grownCap_ge w (cs + n2) cs el, grownCap_le_maxLen w (cs + n2) cs el hsmall, ?_, hho (Builtin.zeroCells z.cells (grownCap w (cs + n2) cs el - (cs + n2))), ?_⟩
      · have := grownCap_ge w (cs + n2) cs el
        simp only [Array.size_append, List.size_toArray, hol, hnl, size_zeroCells, hzs, ← Nat.add_mul]
        congr 1; omega
      · rw [has, hax, hr]

theorem appendExRow_sound {s x : Operand} {t n n2 : Nat} {ex2 : Bool} {e e2 : Nat → SV} (hc : c.ti = TI.of P) (h : RS P w0 fz0 w fz φ T m a) (hd : ∀ d, o.dst = some d → d < a.tmps.size)
    (ho : o.op = .call { callee := .builtin .append, args := ⟨[s, x]⟩, argTypes := ⟨[t, t]⟩ }) (h3 : (c.ti t).kind = 3) (hs : val T s = .p (.sl true n (c.ti (c.ti t).elem).size e))
    (hx : (val T x).sv m = .sl ex2 n2 (c.ti (c.ti t).elem).size e2) (hok : okTy c (c.ti t).elem) (hroom : roomy (n + n2) (c.ti (c.ti t).elem).bytes) (hn2 : n2 ≠ 0)
    (kk : ∀ a' w' fz' φ', RS P w0 fz0 w' fz' φ' (putT T o.dst (.ow m.rows.length)) { m with rows := m.rows ++ [⟨(c.ti t).elem, SV.snoc (c.ti (c.ti t).elem).size (.sl true n (c.ti (c.ti t).elem).size e) (.sl true n2 (c.ti (c.ti t).elem).size e2), c.pubNew, true⟩] } a' → a'.defers = a.defers → a'.tmps.size = a.tmps.size → Full φ m φ' m → K a' w') : o.wp P a w K Q := by
  rw [hc] at h3 hs hx hroom kk
  obtain ⟨ti, el, hti, hu, he⟩ := TI.kind3 h3
  unfold okTy at hok
  rw [hc] at hok
  rw [he] at hs hx hroom kk hok
  obtain ⟨hnz, hzg, hzs⟩ := hok
  obtain ⟨ei, z, hei, hz, rz, zs, zc⟩ := zero_sound (P := P) (w := w) (fz := fz) hzg hzs
  have hes := (TI.of_some hei).1
  rw [(TI.of_some hei).2] at hroom
  rw [hes] at hs hx zs hnz
  rcases appendEx_run h hu hei hz zs hnz hs hx hroom o.type with ⟨h0, _⟩ | ⟨cap, cs, q1, q2, q3, q4, hr⟩
  · exact (hn2 h0).elim
  · rw [← hes] at q3 q4
    obtain ⟨fz', φ', hrs, hfull⟩ := fresh_row (s := SV.snoc (TI.of P el).size (.sl true n (TI.of P el).size e) (.sl true n2 (TI.of P el).size e2)) (pub := c.pubNew) (cs := cs) (cap := cap) (ty := el) h hd q4 q3 q1 q2 rfl rfl rfl
    exact wp_append ho hr (kk _ _ _ _ hrs defers_put size_put hfull)

theorem appendExVal_sound {s x : Operand} {t n n2 : Nat} {ex2 : Bool} {e e2 : Nat → SV} (hc : c.ti = TI.of P) (h : RS P w0 fz0 w fz φ T m a) (hd : ∀ d, o.dst = some d → d < a.tmps.size)
    (ho : o.op = .call { callee := .builtin .append, args := ⟨[s, x]⟩, argTypes := ⟨[t, t]⟩ }) (h3 : (c.ti t).kind = 3) (hs : val T s = .p (.sl true n (c.ti (c.ti t).elem).size e))
    (hx : (val T x).sv m = .sl ex2 n2 (c.ti (c.ti t).elem).size e2) (hok : okTy c (c.ti t).elem) (hroom : roomy (n + n2) (c.ti (c.ti t).elem).bytes)
    (kk : ∀ a' w' fz' φ', RS P w0 fz0 w' fz' φ' (putT T o.dst (.p (SV.snoc (c.ti (c.ti t).elem).size (.sl true n (c.ti (c.ti t).elem).size e) (.sl true n2 (c.ti (c.ti t).elem).size e2)))) m a' → a'.defers = a.defers → a'.tmps.size = a.tmps.size → Full φ m φ' m → K a' w') : o.wp P a w K Q := by
  rw [hc] at h3 hs hx hroom kk
  obtain ⟨ti, el, hti, hu, he⟩ := TI.kind3 h3
  unfold okTy at hok
  rw [hc] at hok
  rw [he] at hs hx hroom kk hok
  obtain ⟨hnz, hzg, hzs⟩ := hok
  obtain ⟨ei, z, hei, hz, rz, zs, zc⟩ := zero_sound (P := P) (w := w) (fz := fz) hzg hzs
  have hes := (TI.of_some hei).1
  rw [(TI.of_some hei).2] at hroom
  rw [hes] at hs hx zs hnz
  rcases appendEx_run h hu hei hz zs hnz hs hx hroom o.type with ⟨h0, hr⟩ | ⟨cap, cs, q1, q2, q3, q4, hr⟩
  · subst h0
    refine wp_append ho hr (kk _ _ fz φ (h.put hd ?_) defers_put size_put (Full.same rfl rfl))
    have hsv := slotRep_val h.slots s
    rw [hs] at hsv
    have hsv' : Rep w fz (.sl true n ei.size e) (a.eval s) := hsv
    obtain ⟨as, cs, has, hnc, hex, hsa⟩ := hsv'
    refine ⟨as, cs, has, hnc, fun h => (by cases h), fun h0 => ?_⟩
    obtain ⟨b, o', e1, e3⟩ := hsa h0
    refine ⟨b, o', e1, fun i hi => ?_⟩
    obtain ⟨ev, r1, r2, r3⟩ := e3 i hi
    refine ⟨ev, ?_, by rw [hes]; exact r2, fun j hj => ?_⟩
    · have hi' : i < n := hi
      show Rep w fz (if i < n then e i else _) ev
      rw [if_pos hi']
      exact r1
    · rw [hes] at hj ⊢
      exact r3 j hj
  · rw [← hes] at q3 q4
    have hext : Ext w fz (w.drew.alloc (.cells cs el)) (fun b o => fz b o ∨ b = w.heap.size ∧ o < (n + n2) * (TI.of P el).size) := by
      have := ext_alloc (w := w.drew) (fz := fz) h.mem.lt cs el ((n + n2) * (TI.of P el).size)
      exact ⟨⟨this.below.os, this.below.tape, this.below.output, this.below.size, this.below.block⟩, this.more, this.only, this.lt⟩
    have hnew : (w.drew.alloc (.cells cs el)).heap[w.heap.size]? = some (.cells cs el (0, 0)) := heap_alloc_new w.drew _
    refine wp_append ho hr (kk _ _ _ φ ((h.ext hext).put hd ?_) defers_put size_put (Full.same rfl rfl))
    exact holds_slice hnew (holds_mono (fun b o hf => ⟨.inl hf, hext.cell (h.mem.lt b o hf)⟩) q4) q1 (fun hx => by cases hx) (fun j hj => .inr ⟨rfl, hj⟩)

theorem setIdx_spec {s : SV} (h : s.isSl = true) (i : Nat) (x : SV) : (s.setIdx i x).len = s.len ∧ (s.setIdx i x).idx = upd s.idx i x := by
  cases s <;> simp only [SV.isSl, Bool.false_eq_true] at h
  exact ⟨rfl, rfl⟩

/-- A store into an element of a row of the call's own that nobody else reads: some of its cells are written. -/
theorem storeRp_core {t : TypeId} {x ax : Operand} {k i off : Nat} {r : Row} {xs : SV} (hc : c.ti = TI.of P) (h : RS P w0 fz0 w fz φ T m a) (hd : ∀ d, o.dst = some d → d < a.tmps.size) (ho : o.op = .store t ax x) (hax : val T ax = .rp k i off) (hk : m.rows[k]? = some r)
    (hl : r.live = true) (hp : r.pub = false) (hi : i < r.s.len) (hsl : r.s.isSl = true) (hnz : (c.ti t).size ≠ 0) (hfit : off + (c.ti t).size ≤ (c.ti r.ty).size) (hvs : (a.eval x).cells.size = (c.ti t).size) (hone : ∀ u ∈ (a.eval x).cells.toList, u.oneCell' = true)
    (hel : ∀ ev, Rep w fz (r.s.idx i) ev → ev.cells.size = (c.ti r.ty).size → ∃ ev', Rep w fz xs ev' ∧ ev'.cells.size = (c.ti r.ty).size ∧ ∀ j, j < (c.ti r.ty).size → ev'.cells[j]? = if off ≤ j ∧ j < off + (c.ti t).size then (a.eval x).cells[j - off]? else ev.cells[j]?)
    (kk : ∀ a' w' fz' φ', RS P w0 fz0 w' fz' φ' (putT T o.dst (.p .dead)) { m with rows := setAt m.rows k { r with s := r.s.setIdx i xs } } a' → a'.defers = a.defers → a'.tmps.size = a.tmps.size → Full φ m φ' m → K a' w') : o.wp P a w K Q := by
  rw [hc] at hnz hfit hvs hel
  have hinfo : ∃ i, P.info? t = some i := TI.info (.inr (.inl hnz))
  have hav := slotRep_val h.slots ax
  rw [hax] at hav
  obtain ⟨hkr, b, n, cp, e1, hav⟩ := hav
  rcases ((h.mem.row k r hk).1 hl).shape with ⟨e2, e3⟩ | ⟨b', cap, cur, hv, hB, hh, hsz, hn, hmx, hho, f1, f2, f3⟩
  · rw [e2] at e1; cases e1
  rw [hv] at e1
  simp only [Value.slice.injEq, Option.some.injEq, Addr.mk.injEq] at e1
  obtain ⟨⟨rfl, _⟩, _, _⟩ := e1
  rw [h.mem.esz k r hk] at hav
  generalize hes : (TI.of P r.ty).size = esz at *
  have hin : i * esz + esz ≤ cap * esz := by
    calc i * esz + esz = (i + 1) * esz := by rw [Nat.succ_mul]
      _ ≤ cap * esz := Nat.mul_le_mul_right _ (by omega)
  have hfit' : (i * esz + off) + (a.eval x).cells.toList.length ≤ cur.size := by simp only [Array.length_toList]; omega
  have hrun := storeVar_run (P := P) (w := w) (t := t) (off := i * esz + off) (v := a.eval x) hinfo hvs hone hh (by simpa using hfit')
  have hget := mid_get hfit'
  have hms := mid_size hfit'
  simp only [Array.length_toList] at hget hms
  generalize hnew : (cur.toList.take (i * esz + off) ++ (a.eval x).cells.toList ++ cur.toList.drop (i * esz + off + (a.eval x).cells.size)).toArray = new at *
  refine wp_skip_unit (x := Instr.storeAt t (a.eval ax) (a.eval x)) (w' := w.setRow b' new) (by simp [execOp, ho]) (by rw [hav]; exact hrun) ?_
  have hcell : ∀ b o', fz b o' → fz b o' ∧ (w.setRow b' new).cell? ⟨b, o', none⟩ = w.cell? ⟨b, o', none⟩ := fun b o' hf => ⟨hf, by
    by_cases e : b = b'
    · subst e; exact (f3 hp o' hf).elim
    · exact World.cell?_of_block (setRow_other w _ _ _ e)⟩
  obtain ⟨s1, s2⟩ := setIdx_spec hsl i xs
  have hho' : Holds (w.setRow b' new) fz r.s.len esz (upd r.s.idx i xs) new := by
    intro q hq
    obtain ⟨ev, r1, r2, r3⟩ := hho q hq
    have hqn : q * esz + esz ≤ cap * esz := by
      calc q * esz + esz = (q + 1) * esz := by rw [Nat.succ_mul]
        _ ≤ cap * esz := Nat.mul_le_mul_right _ (by omega)
    by_cases hqi : q = i
    · subst hqi
      obtain ⟨ev', g1, g2, g3⟩ := hel ev r1 r2
      refine ⟨ev', by simp only [upd, if_true]; exact Rep.mono hcell _ _ g1, g2, fun j hj => ?_⟩
      rw [hget, g3 j hj]
      by_cases hjo : off ≤ j ∧ j < off + (TI.of P t).size
      · rw [if_pos hjo, if_pos (by omega), show q * esz + j - (q * esz + off) = j - off by omega]
        have hlt : j - off < (a.eval x).cells.size := by omega
        refine ⟨(a.eval x).cells[j - off], by simp [hlt], hone _ (by simp), by simp [hlt]⟩
      · rw [if_neg hjo, if_neg (by omega)]
        exact r3 j hj
    · refine ⟨ev, by rw [upd, if_neg hqi]; exact Rep.mono hcell _ _ r1, r2, fun j hj => ?_⟩
      obtain ⟨u, g1, g2, g3⟩ := r3 j hj
      refine ⟨u, g1, g2, ?_⟩
      rw [hget, if_neg]
      · exact g3
      · rintro ⟨a1, a2⟩
        rcases Nat.lt_or_ge q i with h | h
        · have : (q + 1) * esz ≤ i * esz := Nat.mul_le_mul_right _ h
          rw [Nat.succ_mul] at this; omega
        · have : (i + 1) * esz ≤ q * esz := Nat.mul_le_mul_right _ (by omega)
          rw [Nat.succ_mul] at this; omega
  have hnh2 : (w.setRow b' new).heap[b']? = some (.cells new r.ty (0, 0)) := setRow_heap w b' cur new r.ty (0, 0) hh
  have hblt : b' < w.heap.size := (Array.getElem?_eq_some_iff.1 hh).1
  have hm' := h.mem.write (w' := w.setRow b' new) (fz' := fz) (b := b') (m' := { m with rows := setAt m.rows k { r with s := r.s.setIdx i xs } }) hB hblt rfl rfl rfl (by simp) (fun j hj => setRow_other w _ j _ hj)
    (fun _ _ h => h) (fun _ _ h => .inl h) (fun o' ho' => (f3 hp o' ho').elim) rfl (setAt_length _ _ _)
    (fun j bx hbj hj => .inl ⟨hj, fun e => h.mem.dbr j k r hbj hk hl (by rw [hv, e]; rfl)⟩)
    (fun j r' hj => by
      dsimp only at hj
      rw [setAt_get] at hj
      split at hj
      · rename_i hjk
        obtain ⟨rfl, _⟩ := hjk
        obtain rfl := Option.some.inj hj
        refine ⟨r, hk, rfl, fun h => h, .inr ⟨fun _ => ⟨.inr ⟨b', cap, new, by dsimp only; rw [s1]; exact hv, hB, hnh2, by dsimp only; rw [hms, hsz, hes], by dsimp only; rw [s1]; exact hn, hmx, by dsimp only; rw [s1, s2, hes]; exact hho', ?_, ?_, ?_⟩⟩, fun hp' => ?_, ⟨_, _, _, hv⟩⟩⟩
        · dsimp only
          rw [s1, hes, hms]
          exact f1
        · dsimp only
          rw [s1, hes]
          exact f2
        · exact f3
        · have hp'' : r.pub = true := hp'
          rw [hp] at hp''; cases hp''
      · rename_i hjk
        have hjk' : j ≠ k := fun e => hjk ⟨e, lt_of_getElem? hk⟩
        exact ⟨r', hj, rfl, fun h => h, .inl ⟨rfl, rfl, fun hl' e => hjk' (h.mem.drr j k r' r b' hj hk hl' hl e (by rw [hv]; rfl))⟩⟩)
  refine kk _ _ fz φ ⟨hm', slots_put hd (fun i => SlotRep.mono hcell _ _ (h.slots i)) trivial⟩ defers_put size_put (Full.same rfl rfl)
end
end Go.Am
