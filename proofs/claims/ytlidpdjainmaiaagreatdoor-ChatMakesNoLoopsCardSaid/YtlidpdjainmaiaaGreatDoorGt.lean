/- Seat c: strings.Builder: copyCheck, WriteString, WriteByte. -/
import Derived.Test.YtlidpdjainmaiaaGreatDoorGs
import Derived.Lib.Builder
import Derived.Lib.UnsafeStr
namespace Go.Thg
open Go Go.RowKit Go.Bul
/-- A slice that begins at its block's front. -/
def Zf (v : Value) : Prop := ∀ a n c, v = .slice (some a) n c → a.off = 0
theorem Zf.nil : Zf (.slice none 0 0) := fun a n c h => by injection h with h; cases h
theorem append_front {P : Program} {w w' : World} (t tx ty e : TypeId) (z : Value) (size bytes : Nat) (ht : P.underlying t = some (.slice e)) (hi : (P.info? e).map (fun i => (i.zero, i.size, i.bytes)) = some (some z, size, bytes))
    (v : Value) (n : Nat) (xs : List Value) (hown : OffRow w e size v n xs) (x : Value) (m : Nat) (news : List Value) (hs : Src P size tx x m news w) (h63 : n + m ≤ maxLen) (hbytes : (n + m) * bytes ≤ 140737488355328) (hz : Zf v)
    {V : Value} (hrun : (Builtin.append_ #[t, tx] ty #[v, x]).run P w = .ok V w') : Zf V := by
  obtain ⟨i, hi', hz', hs', hb'⟩ := info_parts hi
  subst hs' hb'
  obtain ⟨hxl, A, c, rfl, hnc, hcm, hblk⟩ := hown
  have hnl := hs.newsLen
  by_cases hroom : n + m ≤ c
  · rcases Nat.eq_zero_or_pos c with hc | hc
    · subst hc
      obtain rfl : n = 0 := by omega
      obtain rfl : m = 0 := by omega
      obtain rfl : news = [] := List.eq_nil_of_length_eq_zero (by simpa using hnl)
      have h := run_append_nothing w t tx ty e i ht hi' A 0 0 (Nat.le_refl _) x hs
      rw [h] at hrun
      injection hrun with h1
      subst h1
      exact hz
    · obtain ⟨g, off, cur, rfl, hg, hsz, hcur⟩ := hblk hc
      have hmul : (n + m) * i.size ≤ c * i.size := Nat.mul_le_mul_right _ hroom
      rw [Nat.add_mul] at hmul
      have hcell : ∀ k, w.cell? ⟨g, k, none⟩ = cur[k]? := fun k => cell_of_row w g k cur e (0, 0) hg
      have hsome : ∀ j, j < news.length → (w.cell? ⟨g, off + n * i.size + j, none⟩).isSome = true := fun j hj => by
        rw [hcell, Array.getElem?_eq_getElem (by omega)]; rfl
      have h := run_append_room_src (P := P) w t tx ty e i ht hi' g off n c x m news hs hroom hsome (fun j _ => frozen_of_row w g _ cur e hg)
      rw [h] at hrun
      injection hrun with h1
      subst h1
      intro a n' c' hv
      injection hv with h1
      injection h1 with h1
      subst h1
      exact hz _ _ _ rfl
  · have hold : (Builtin.firstCells i.size n (.slice A n c)).run P w.drew = .ok xs.toArray w.drew := by
      rcases Nat.eq_zero_or_pos c with hc | hc
      · subst hc
        obtain rfl : n = 0 := by omega
        obtain rfl : xs = [] := List.eq_nil_of_length_eq_zero (by simpa using hxl)
        cases A with
        | none => exact run_firstCells_none w.drew i.size 0 0 0
        | some a => exact run_firstCells_some w.drew i.size 0 a 0 0 [] (by simp) (by simp)
      · obtain ⟨g, off, cur, rfl, hg, hsz, hcur⟩ := hblk hc
        refine run_firstCells_some w.drew i.size n ⟨g, off, none⟩ n c xs hxl fun j u hu => ?_
        rw [addr_at]
        show w.cell? _ = _
        rw [cell_of_row w g _ cur e (0, 0) hg, hcur j (by have := (List.getElem?_eq_some_iff.1 hu).1; omega), hu]
    have hsmall : n + m ≤ 9223372036854775807 := by simp only [maxLen] at h63; omega
    have h := run_append_grow_src (P := P) w t tx ty e i z ht hi' hz' A n c xs hold x m news hs (by omega) (by omega) (growslice_fits (by omega) hbytes)
    rw [h] at hrun
    injection hrun with h1
    subst h1
    intro a n' c' hv
    injection hv with h1
    injection h1 with h1
    subst h1
    rfl
end Go.Thg
namespace Go.Proofs.YtlidpdjainmaiaaGreatDoor
open Go Go.RowKit Go.Bul Go.Thg Go.Lin Go.Cht
abbrev pbl (b : Nat) : Value := .pointer (some ⟨b, 0, none⟩)
section
variable {w w0 : World} {G : List Nat} {L : List Ent} {R : List Thing} {FL : Array Value → List Ent} {FR : Thing → List Thing}
theorem info_bld : ∃ j, Tryz.prog.info? 63 = some j ∧ j.size = 2 := by
  cases h : Tryz.prog.info? 63 with
  | none =>
    have : (Tryz.prog.info? 63).map (·.size) = some 2 := by kernel_rfl
    rw [h] at this
    cases this
  | some j =>
    have : (Tryz.prog.info? 63).map (·.size) = some 2 := by kernel_rfl
    rw [h] at this
    exact ⟨j, rfl, Option.some.inj this⟩
theorem lies_bld : liesAt Tryz.prog Tryz.prog.depth 63 (2 / Tryz.prog.cellsOf 63) 0 63 1 = true := by kernel_rfl
set_option maxRecDepth 100000 in
set_option maxHeartbeats 2000000 in
theorem ccheck_used (b : Nat) (V : Value) (hM : Mem G w0 L R w) (hL : ⟨b, 63, 2, #[pbl b, V]⟩ ∈ L) : Calls Tryz.prog 41 #[pbl b] w fun e w' => e = .returned (.tuple #[]) ∧ w' = w := by
  obtain ⟨j, hj, _⟩ := info_bld
  go_enter Tryz.func41, Tryz.ntmps41
  go_wp2_with (first | ((first | with_reducible refine at_load ?_ | ((with_reducible refine at_load_g ?_ ?_); (· rfl))); first | refine nll hM ?_ | refine nlc hM ?_ | refine nlp hM ?_) | ((with_reducible refine at_store ?_); first | (refine nlw hM ?_; clear hM; intro wx hM) | (refine nls hM ?_; clear hM; intro wx hM) | (refine nlt hM ?_; clear hM; intro wx hM)) | ((with_reducible refine at_alloc ?_); refine nlz hM ?_; clear hM; intro gx wx hM) | ((with_reducible refine at_box ?_); first | (refine nlb hM ?_; clear hM; intro gx wx hM) | (refine nlx hM ?_; clear hM; intro gx wx hM)))
  rw [Lib.run_neq_ptr_same w _ Tryz.underlying60 hj]
  go_wp2_with (first | ((first | with_reducible refine at_load ?_ | ((with_reducible refine at_load_g ?_ ?_); (· rfl))); first | refine nll hM ?_ | refine nlc hM ?_ | refine nlp hM ?_) | ((with_reducible refine at_store ?_); first | (refine nlw hM ?_; clear hM; intro wx hM) | (refine nls hM ?_; clear hM; intro wx hM) | (refine nlt hM ?_; clear hM; intro wx hM)) | ((with_reducible refine at_alloc ?_); refine nlz hM ?_; clear hM; intro gx wx hM) | ((with_reducible refine at_box ?_); first | (refine nlb hM ?_; clear hM; intro gx wx hM) | (refine nlx hM ?_; clear hM; intro gx wx hM)))
  go_end0
  exact ⟨rfl, rfl⟩
set_option maxRecDepth 100000 in
set_option maxHeartbeats 2000000 in
theorem ccheck_fresh (b : Nat) (V : Value) (hM : Mem G w0 L R w) (hL : UpdL b 63 2 #[.pointer none, V] L FL) : Calls Tryz.prog 41 #[pbl b] w fun e w' => e = .returned (.tuple #[]) ∧ Mem G w0 (FL #[pbl b, V]) R w' := by
  obtain ⟨j, hj, hjs⟩ := info_bld
  have hL0 := mem_of_updL hL
  have hsh : w.shape? b = some (63, 2) := by
    have := hM.blk hL0
    unfold Blk at this
    simp [World.shape?, this]
  go_enter Tryz.func41, Tryz.ntmps41
  go_wp2_with (first | ((first | with_reducible refine at_load ?_ | ((with_reducible refine at_load_g ?_ ?_); (· rfl))); first | refine nll hM ?_ | refine nlc hM ?_ | refine nlp hM ?_) | ((with_reducible refine at_store ?_); first | (refine nlw hM ?_; clear hM; intro wx hM) | (refine nls hM ?_; clear hM; intro wx hM) | (refine nlt hM ?_; clear hM; intro wx hM)) | ((with_reducible refine at_alloc ?_); refine nlz hM ?_; clear hM; intro gx wx hM) | ((with_reducible refine at_box ?_); first | (refine nlb hM ?_; clear hM; intro gx wx hM) | (refine nlx hM ?_; clear hM; intro gx wx hM)))
  rw [Lib.run_to_unsafe w ⟨b, 0, none⟩ Tryz.underlying60 Tryz.underlying100 hj (by rw [hjs]; decide) hsh (Nat.zero_lt_succ 1)]
  simp only [Result.andThen]
  rw [Oper.upon_value]
  go_wp2_with (first | ((first | with_reducible refine at_load ?_ | ((with_reducible refine at_load_g ?_ ?_); (· rfl))); first | refine nll hM ?_ | refine nlc hM ?_ | refine nlp hM ?_) | ((with_reducible refine at_store ?_); first | (refine nlw hM ?_; clear hM; intro wx hM) | (refine nls hM ?_; clear hM; intro wx hM) | (refine nlt hM ?_; clear hM; intro wx hM)) | ((with_reducible refine at_alloc ?_); refine nlz hM ?_; clear hM; intro gx wx hM) | ((with_reducible refine at_box ?_); first | (refine nlb hM ?_; clear hM; intro gx wx hM) | (refine nlx hM ?_; clear hM; intro gx wx hM)))
  rw [run_callFunc_extern Tryz.func66 (by kernel_rfl) (by kernel_rfl) (by kernel_rfl) (e := Extern.AbiNoEscape.same) (by kernel_rfl)]
  rw [Lib.run_noEscape]
  simp only [Result.andThen]
  rw [Oper.upon_value]
  go_wp2_with (first | ((first | with_reducible refine at_load ?_ | ((with_reducible refine at_load_g ?_ ?_); (· rfl))); first | refine nll hM ?_ | refine nlc hM ?_ | refine nlp hM ?_) | ((with_reducible refine at_store ?_); first | (refine nlw hM ?_; clear hM; intro wx hM) | (refine nls hM ?_; clear hM; intro wx hM) | (refine nlt hM ?_; clear hM; intro wx hM)) | ((with_reducible refine at_alloc ?_); refine nlz hM ?_; clear hM; intro gx wx hM) | ((with_reducible refine at_box ?_); first | (refine nlb hM ?_; clear hM; intro gx wx hM) | (refine nlx hM ?_; clear hM; intro gx wx hM)))
  rw [Lib.run_from_unsafe w ⟨b, 0, none⟩ Tryz.underlying100 Tryz.underlying60 hj hsh lies_bld]
  simp only [Result.andThen]
  rw [Oper.upon_value]
  go_wp2_with (first | ((first | with_reducible refine at_load ?_ | ((with_reducible refine at_load_g ?_ ?_); (· rfl))); first | refine nll hM ?_ | refine nlc hM ?_ | refine nlp hM ?_) | ((with_reducible refine at_store ?_); first | (refine nlw hM ?_; clear hM; intro wx hM) | (refine nls hM ?_; clear hM; intro wx hM) | (refine nlt hM ?_; clear hM; intro wx hM)) | ((with_reducible refine at_alloc ?_); refine nlz hM ?_; clear hM; intro gx wx hM) | ((with_reducible refine at_box ?_); first | (refine nlb hM ?_; clear hM; intro gx wx hM) | (refine nlx hM ?_; clear hM; intro gx wx hM)))
  go_end0
  exact ⟨rfl, hM⟩
end
section
variable {α : Type} {w w0 : World} {G : List Nat} {L : List Ent} {R : List Thing} {ops : Array Oper} {rest : List Oper} {o : Oper} {a : Act} {Q : Exit → Act → World → Prop} {x s : Operand} {ts e tx : TypeId} {sz bytes m : Nat} {z V Y : Value} {cf : α → List Value} {l ys : List α} {F : Thing → List Thing}
/-- append onto a row that begins at its block's front. -/
theorem gapz (hM : Mem G w0 L R w) (hT : RT ts e sz bytes z cf) (hs : Src Tryz.prog sz tx Y m (rows cf ys) w) (h63 : l.length + m ≤ 1000000000) (hz : Zf V)
    (h : ∀ A' N c' w', Zf (.slice A' N c') → Hid (N = (l ++ ys).length) → Mem G w0 L (F (gT e sz cf (.slice A' N c') (l ++ ys))) w' → wpList Tryz.prog ops Q rest (a.put o.dst (.slice A' N c')) w')
    (hgd : o.guard = none := by rfl) (ho : o.op = .call { callee := .builtin .append, args := #[s, x], argTypes := #[ts, tx] } := by rfl) (hv : a.eval s = V := by rfl) (hR : UpdR (gT e sz cf V l) R F := by repeat (first | exact UpdR.head _ _ | assumption | apply UpdR.tail)) (hy : a.eval x = Y := by rfl) : wpList Tryz.prog ops Q (o :: rest) a w := by
  have hm : m = ys.length := by
    have h1 := hs.newsLen
    rw [rows_length hT.c] at h1
    exact (Nat.eq_of_mul_eq_mul_right hT.p h1).symm
  subst hm
  have hb : (l.length + ys.length) * bytes ≤ 1000000000 * 1000 := Nat.mul_le_mul h63 hT.b
  have hP := hM.thing _ (mem_of_updR hR)
  obtain ⟨A', c', w', hrun, hbc⟩ := run_append_off (P := Tryz.prog) ts tx o.type e z sz bytes hT.u hT.i hT.z V l.length (rows cf l) hP Y ys.length (rows cf ys) hs (by unfold maxLen; omega) (by omega)
  have hf := append_front ts tx o.type e z sz bytes hT.u hT.i V l.length (rows cf l) hP Y ys.length (rows cf ys) hs (by unfold maxLen; omega) (by omega) hz hrun
  refine wpList_plain hgd fun K hK => ?_
  unfold Oper.wp execOp
  simp only [ho, resolve, invoke, builtin, Sem.run_bind, Sem.run_pure, Result.andThen_ok, List.map_toArray, List.map_cons, List.map_nil, hv, hy, hrun]
  have e1 : l.length + ys.length = (l ++ ys).length := by rw [List.length_append]
  refine hK _ _ (h A' _ c' w' hf (Lib.hid e1) ?_)
  have hM2 := hM.turn hR hbc
  rw [gT, ← e1, rows_app]
  exact hM2
end
section
variable {w w0 : World} {G : List Nat} {L : List Ent} {R : List Thing} {FL : Array Value → List Ent} {FR : Thing → List Thing}
/-- A builder, used or not. -/
def PB (b : Nat) (p : Value) : Prop := p = .pointer none ∨ p = pbl b
theorem ccheck_any (b : Nat) (p V : Value) (hp : PB b p) (hM : Mem G w0 L R w) (hL : UpdL b 63 2 #[p, V] L FL) : Calls Tryz.prog 41 #[pbl b] w fun e w' => e = .returned (.tuple #[]) ∧ Mem G w0 (FL #[pbl b, V]) R w' := by
  rcases hp with rfl | rfl
  · exact ccheck_fresh b V hM hL
  · refine (ccheck_used b V hM (mem_of_updL hL)).mono ?_
    rintro e w' ⟨rfl, rfl⟩
    refine ⟨rfl, ?_⟩
    obtain ⟨A, B, rfl, hF⟩ := hL
    rw [hF]
    exact hM
set_option maxRecDepth 20000 in
set_option maxHeartbeats 2000000 in
theorem wstr_any (b : Nat) (p V : Value) (l : List Nat) (s : ByteArray) (hp : PB b p) (hz : Zf V) (hM : Mem G w0 L R w) (hL : UpdL b 63 2 #[p, V] L FL) (hR : UpdR (bT V l) R FR) (hs : l.length + s.size ≤ 1000000000) :
    Calls Tryz.prog 20 #[pbl b, .string s] w fun e w' => (∃ v, e = .returned v) ∧ ∃ A n c, Zf (.slice A n c) ∧ Mem G w0 (FL #[pbl b, .slice A n c]) (FR (bT (.slice A n c) (l ++ nums s))) w' := by
  have HC := Lib.hid (fun w hM => ccheck_any (w := w) (w0 := w0) (G := G) (L := L) (R := R) b p V hp hM hL)
  have hL2 := hL.again #[pbl b, V]
  have hL1 := mem_of_updL hL2
  have HZ := Lib.hid hz
  have hsz : l.length + (nums s).length ≤ 1000000000 := by rw [nums_length]; exact hs
  clear hp hs hz
  go_enter Tryz.func20, Tryz.ntmps20
  go_wp2_with (first | ((with_reducible refine (HC.out _ hM).mono ?_); rintro e w1 ⟨rfl, hM1⟩; clear hM; have hM := hM1; clear hM1) | ((with_reducible refine at_append ?_); refine gapz (l := l) hM rt_by (bytes_src s _) hsz HZ.out ?_; clear hM; intro A2 N2 c2 wz hz2 HNN hM) | ((first | with_reducible refine at_load ?_ | ((with_reducible refine at_load_g ?_ ?_); (· rfl))); first | refine nll hM ?_ | refine nlc hM ?_ | refine nlp hM ?_) | ((with_reducible refine at_store ?_); first | (refine nlw hM ?_; clear hM; intro wx hM) | (refine nls hM ?_; clear hM; intro wx hM) | (refine nlt hM ?_; clear hM; intro wx hM)) | ((with_reducible refine at_alloc ?_); refine nlz hM ?_; clear hM; intro gx wx hM) | ((with_reducible refine at_box ?_); first | (refine nlb hM ?_; clear hM; intro gx wx hM) | (refine nlx hM ?_; clear hM; intro gx wx hM)))
  go_ret2
  exact ⟨⟨_, rfl⟩, A2, N2, c2, hz2, hM⟩
set_option maxRecDepth 20000 in
set_option maxHeartbeats 2000000 in
theorem wbyte_any (b : Nat) (p V : Value) (l : List Nat) (x : Nat) (hp : PB b p) (hz : Zf V) (hM : Mem G w0 L R w) (hL : UpdL b 63 2 #[p, V] L FL) (hR : UpdR (bT V l) R FR) (hs : l.length + 1 ≤ 1000000000) :
    Calls Tryz.prog 22 #[pbl b, .int .u8 (x : Nat)] w fun e w' => (∃ v, e = .returned v) ∧ ∃ A n c, Zf (.slice A n c) ∧ Mem G w0 (FL #[pbl b, .slice A n c]) (FR (bT (.slice A n c) (l ++ [x]))) w' := by
  have HC := Lib.hid (fun w hM => ccheck_any (w := w) (w0 := w0) (G := G) (L := L) (R := R) b p V hp hM hL)
  have hL2 := hL.again #[pbl b, V]
  have hL1 := mem_of_updL hL2
  have HZ := Lib.hid hz
  clear hp hz
  go_enter Tryz.func22, Tryz.ntmps22
  go_wp2_with (first | ((with_reducible refine (HC.out _ hM).mono ?_); rintro e w1 ⟨rfl, hM1⟩; clear hM; have hM := hM1; clear hM1) | ((with_reducible refine at_bslice ?_); refine gbs hM rt_by (v := .int .u8 (x : Nat)) (cs := #[.int .u8 (x : Nat)]) rfl rfl (by decide) ?_; clear hM; intro gb wb hM) | ((with_reducible refine at_append ?_); refine gapz (l := l) hM rt_by (ent_src (x := x) hM rt_by rfl (List.Mem.head _)) hs HZ.out ?_; clear hM; intro A2 N2 c2 wz hz2 HNN hM) | ((first | with_reducible refine at_load ?_ | ((with_reducible refine at_load_g ?_ ?_); (· rfl))); first | refine nll hM ?_ | refine nlc hM ?_ | refine nlp hM ?_) | ((with_reducible refine at_store ?_); first | (refine nlw hM ?_; clear hM; intro wx hM) | (refine nls hM ?_; clear hM; intro wx hM) | (refine nlt hM ?_; clear hM; intro wx hM)) | ((with_reducible refine at_alloc ?_); refine nlz hM ?_; clear hM; intro gx wx hM) | ((with_reducible refine at_box ?_); first | (refine nlb hM ?_; clear hM; intro gx wx hM) | (refine nlx hM ?_; clear hM; intro gx wx hM)))
  go_ret
  exact ⟨⟨_, rfl⟩, A2, N2, c2, hz2, hM.subL (List.sublist_cons_self _ _)⟩
end
end Go.Proofs.YtlidpdjainmaiaaGreatDoor
