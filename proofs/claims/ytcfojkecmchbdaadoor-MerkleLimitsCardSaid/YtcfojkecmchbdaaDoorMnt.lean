/- Contracts of a builder: Len, Pending, Root, a full one, none. Contract of the reference's Pending. -/
import Derived.Test.YtcfojkecmchbdaaDoorMns
import Derived.Test.YtcfojkecmchbdaaDoorMng
namespace Go.Proofs.YtcfojkecmchbdaaDoor
open Go Go.RowKit Go.Bul Go.Thg Go.Lin
/-- A builder, read only. -/
structure BldIn (w : World) (g : Nat) (ns : List Nd) (n : Nat) : Prop where
  lt : g < w.heap.size
  cell : ∀ i v, (bldC ns n)[i]? = some v → w.cell? ⟨g, i, none⟩ = some v
theorem BldIn.keep {w w' : World} {g : Nat} {ns : List Nd} {n : Nat} (h : BldIn w g ns n) (hb : Below w.heap.size w w') : BldIn w' g ns n :=
  ⟨Nat.lt_of_lt_of_le h.lt hb.size, fun i _ hv => (hb.cell (p := ⟨g, i, none⟩) h.lt).trans (h.cell i _ hv)⟩
theorem bld_in {w w0 : World} {G : List Nat} {L : List Ent} {R : List Thing} {g : Nat} {t : TypeId} {ns : List Nd} {n : Nat} (hM : Mem G w0 L R w) (hL : ⟨g, t, 177, bldC ns n⟩ ∈ L) : BldIn w g ns n :=
  ⟨(hM.blk hL).lt, fun i _ hv => ((hM.blk hL).cell i).trans hv⟩
theorem BldIn.cnt {w : World} {g : Nat} {ns : List Nd} {n : Nat} (h : BldIn w g ns n) (hl : ns.length = 11) : w.cell? ⟨g, 176, none⟩ = some (.int .i64 (n : Nat)) := h.cell _ _ (bldC_cnt _ hl)
theorem BldIn.nd {w : World} {g : Nat} {ns : List Nd} {n : Nat} (h : BldIn w g ns n) (hl : ns.length = 11) (k : Nat) (hk : k < 11) : ∀ j u, (ndC (ns.getD k nd0))[j]? = some u → w.cell? ⟨g, k * 16 + j, none⟩ = some u := by
  intro j u hu
  refine h.cell _ _ ?_
  have hj : j < 16 := by rw [← ndC_size (ns.getD k nd0)]; exact (Array.getElem?_eq_some_iff.1 hu).1
  rw [← bldC_nd (n : Int) hl k hk, Array.getElem?_extract_of_lt (by rw [bldC_size _ hl]; omega)] at hu
  exact (Array.getElem?_eq_getElem _).trans hu
set_option maxRecDepth 20000 in
set_option maxHeartbeats 4000000 in
theorem len_bld (g n : Nat) (ns : List Nd) (w : World) (hb : BldIn w g ns n) (hl : ns.length = 11) :
    Calls Tryd.prog 30 #[.pointer (some ⟨g, 0, none⟩)] w fun e w' => e = .returned (.int .i64 (n : Nat)) ∧ w = w' := by
  have HC := Lib.hid (hb.cnt hl)
  clear hb hl
  go_enter Tryd.func30, Tryd.ntmps30
  go_wp2_with ((with_reducible refine at_load ?_); refine lo HC.out ?_ (hty := one_int))
  go_ret
  exact ⟨rfl, rfl⟩
set_option maxRecDepth 20000 in
set_option maxHeartbeats 4000000 in
theorem len_nil (w : World) : Calls Tryd.prog 30 #[.pointer none] w fun e w' => e = .returned (.int .i64 0) ∧ w = w' := by
  go_enter Tryd.func30, Tryd.ntmps30
  go_wp2_with fail
  go_ret
  exact ⟨rfl, rfl⟩
set_option maxRecDepth 20000 in
set_option maxHeartbeats 4000000 in
theorem add_nil (x : Nd) (w : World) : Calls Tryd.prog 33 #[.pointer none, .agg (ndC x)] w fun e w' => e = .returned (.int .i64 1) ∧ Below w.heap.size w w' := by
  have hM := Mem.start [] w
  go_enter Tryd.func33, Tryd.ntmps33
  go_wp2_with (first | ((first | with_reducible refine at_load ?_ | ((with_reducible refine at_load_g ?_ ?_); (· rfl))); first | refine ll hM ?_ | refine lc hM ?_ | refine lp hM ?_) | ((with_reducible refine at_store ?_); first | (refine lw hM ?_; clear hM; intro wx hM) | (refine ls hM ?_; clear hM; intro wx hM) | (refine lt hM ?_; clear hM; intro wx hM)) | ((with_reducible refine at_alloc ?_); refine lz hM ?_; clear hM; intro gx wx hM) | ((with_reducible refine at_box ?_); refine lb hM ?_; clear hM; intro gx wx hM))
  go_ret
  exact ⟨rfl, hM.below⟩
set_option maxRecDepth 20000 in
set_option maxHeartbeats 4000000 in
theorem add_full (g : Nat) (ns : List Nd) (x : Nd) (w : World) (hb : BldIn w g ns 1024) (hl : ns.length = 11) : Calls Tryd.prog 33 #[.pointer (some ⟨g, 0, none⟩), .agg (ndC x)] w fun e w' => e = .returned (.int .i64 9) ∧ Below w.heap.size w w' := by
  have hM := Mem.start [] w
  have HC := Lib.hid (fun w' (h : Below w.heap.size w w') => (hb.keep h).cnt hl)
  clear hb hl
  go_enter Tryd.func33, Tryd.ntmps33
  go_wp2_with (first | ((with_reducible refine at_load ?_); refine lo (HC.out _ hM.below) ?_ (hty := one_int)) | ((first | with_reducible refine at_load ?_ | ((with_reducible refine at_load_g ?_ ?_); (· rfl))); first | refine ll hM ?_ | refine lc hM ?_ | refine lp hM ?_) | ((with_reducible refine at_store ?_); first | (refine lw hM ?_; clear hM; intro wx hM) | (refine ls hM ?_; clear hM; intro wx hM) | (refine lt hM ?_; clear hM; intro wx hM)) | ((with_reducible refine at_alloc ?_); refine lz hM ?_; clear hM; intro gx wx hM) | ((with_reducible refine at_box ?_); refine lb hM ?_; clear hM; intro gx wx hM))
  go_ret
  exact ⟨rfl, hM.below⟩
set_option maxRecDepth 20000 in
set_option maxHeartbeats 4000000 in
theorem root_nil (w : World) : Calls Tryd.prog 29 #[.pointer none] w fun e w' => e = .returned (.tuple #[.agg (ndC nd0), .int .i64 1]) ∧ Below w.heap.size w w' := by
  have hM := Mem.start [] w
  go_enter Tryd.func29, Tryd.ntmps29
  go_wp2_with (first | ((with_reducible refine at_build ?_); refine wpList_build_zero rfl _ (by rfl) _ _ zero_nd arr_nd ?_) | ((first | with_reducible refine at_load ?_ | ((with_reducible refine at_load_g ?_ ?_); (· rfl))); first | refine ll hM ?_ | refine lc hM ?_ | refine lp hM ?_) | ((with_reducible refine at_store ?_); first | (refine lw hM ?_; clear hM; intro wx hM) | (refine ls hM ?_; clear hM; intro wx hM) | (refine lt hM ?_; clear hM; intro wx hM)) | ((with_reducible refine at_alloc ?_); refine lz hM ?_; clear hM; intro gx wx hM) | ((with_reducible refine at_box ?_); refine lb hM ?_; clear hM; intro gx wx hM))
  exact bodyPost_ret (results_mem_cell_tmp hM rfl (by rfl) (by repeat (first | exact List.Mem.head _ | apply List.Mem.tail)) (by first | exact row_nd | exact row_n | exact row_half | exact row_a32 | exact row_nd2 | exact row_n2 | exact row_two | exact row_claim | exact row_bld | exact row_bnds) (by rfl)) rfl ⟨rfl, hM.below⟩
set_option maxRecDepth 20000 in
set_option maxHeartbeats 4000000 in
theorem pend_nil (w : World) : Calls Tryd.prog 31 #[.pointer none] w fun e w' => e = .returned (.slice none 0 0) ∧ w = w' := by
  go_enter Tryd.func31, Tryd.ntmps31
  go_wp2_with fail
  go_loopw [4, 3] (fun i p wr => i = .int .i64 10 ∧ p = .slice none 0 0 ∧ wr = w) (fun _ _ _ => 0)
  case atStart => exact ⟨rfl, rfl, rfl⟩
  case round =>
    obtain ⟨rfl, rfl, rfl⟩ := hrel
    go_wp2_with fail
    go_ret
    exact ⟨rfl, rfl⟩
set_option maxRecDepth 20000 in
set_option maxHeartbeats 4000000 in
theorem bpend_any (g n : Nat) (ns : List Nd) (w : World) (hb : BldIn w g ns n) (hl : ns.length = 11) (hn : n ≤ 1024) :
    Calls Tryd.prog 31 #[.pointer (some ⟨g, 0, none⟩)] w fun e w' => ∃ A' c', e = .returned (.slice A' (pendL (fun k => ns.getD k nd0) n 11).length c') ∧ Becomes [] w (ndT (.slice A' (pendL (fun k => ns.getD k nd0) n 11).length c') (pendL (fun k => ns.getD k nd0) n 11)) w' := by
  have hM := Mem.start [] w
  have HC := Lib.hid (fun w' (h : Below w.heap.size w w') => (hb.keep h).cnt hl)
  have HND := Lib.hid (fun w' (h : Below w.heap.size w w') => (hb.keep h).nd hl)
  have HPS := Lib.hid (fun k m (h : m + k = 10) => show pendL (fun k => ns.getD k nd0) n (m + 1) = pendL (fun k => ns.getD k nd0) n m ++ (if n / 2 ^ k % 2 = 1 then [ns.getD k nd0] else []) by
    obtain rfl : k = 10 - m := by omega
    rfl)
  have HPL := Lib.hid (fun m => pendL_length (fun k => ns.getD k nd0) n m)
  obtain ⟨P, hP⟩ : ∃ P, pendL (fun k => ns.getD k nd0) n = P := ⟨_, rfl⟩
  have hP0 : P 0 = [] := by rw [← hP]; rfl
  simp only [hP] at HPS HPL ⊢
  have HP0 := Lib.hid hP0
  clear hb hl hP hP0
  go_enter Tryd.func31, Tryd.ntmps31
  go_wp2_with fail
  have M0 := Lib.hid (hM.newThing (nbecomes_zero none (KeptBut.refl _ _)))
  clear hM
  go_loopw [4, 3] (fun i p wr => ∃ (m : Nat) (z : Int) (E : Option Addr) (e2 : Nat), z + m = 10 ∧ m ≤ 11 ∧ i = .int .i64 z ∧ p = .slice E (P m).length e2 ∧ Mem [] w [] [ndT (.slice E (P m).length e2) (P m)] wr) (fun i _ _ => (intOf i + 1).toNat)
  case atStart => exact ⟨0, 10, none, 0, rfl, by omega, rfl, by rw [HP0.out]; rfl, by rw [HP0.out]; exact M0.out⟩
  case round =>
    clear M0
    obtain ⟨m, z, E, e2, hz, hm, rfl, rfl, hM⟩ := hrel
    by_cases hm10 : m ≤ 10
    · obtain ⟨k, rfl⟩ : ∃ k : Nat, z = (k : Int) := ⟨z.toNat, by omega⟩
      have hk : m + k = 10 := by omega
      have hs := HPS.out k m hk
      have hbl := bits_lev n k hn
      have hcl := HPL.out m
      have k0 : (0 : Int) ≤ (k : Int) := Int.natCast_nonneg _
      have k1 : (k : Int) < 11 := by omega
      have k2 : k < 11 := by omega
      have hw : IntKind.i64.wrap ((k : Int) - 1) = (k : Int) - 1 := IntWalk.i64_in _ ⟨by omega, by omega⟩
      have HR := Lib.hid (fun w' h => HND.out w' h k k2)
      generalize ns.getD k nd0 = Z at hs HR
      obtain ⟨cur, hcur⟩ : ∃ c, P m = c := ⟨_, rfl⟩
      rw [hcur] at hs hM hcl ⊢
      have h63 : cur.length + [Z].length ≤ 1000000000 := by simp; omega
      have HKK := Lib.hid hk
      clear hz hm hm10 hk hcur
      by_cases hbit : n / 2 ^ k % 2 = 1
      · rw [decide_eq_true hbit] at hbl
        rw [if_pos hbit] at hs
        have HS := Lib.hid hs
        clear hbit hs
        go_wp2_with (first | ((with_reducible refine at_load ?_); first | refine lo (HC.out _ hM.below) ?_ (hty := one_int) | refine lr (HR.out _ hM.below) ?_ (hty := row_nd)) | (refine lbn1 hM ?_; clear hM; intro g1 w5 hM) | ((with_reducible refine at_append ?_); refine lan (src_nd1 hM (List.Mem.head _)) hM h63 ?_; clear hM; intro A2 N2 c2 wx hN2 hM))
        obtain rfl : N2 = (cur ++ [Z]).length := hN2.out
        exact ⟨⟨m + 1, (k : Int) - 1, A2, c2, by have := HKK.out; omega, by have := HKK.out; omega, rfl, by rw [HS.out], by rw [HS.out]; exact hM.subL (List.sublist_cons_self _ _)⟩, by simp [intOf]⟩
      · rw [decide_eq_false hbit] at hbl
        rw [if_neg hbit, List.append_nil] at hs
        have HS := Lib.hid hs
        clear hbit hs
        go_wp2_with (first | ((with_reducible refine at_load ?_); refine lo (HC.out _ hM.below) ?_ (hty := one_int)))
        exact ⟨⟨m + 1, (k : Int) - 1, E, e2, by have := HKK.out; omega, by have := HKK.out; omega, rfl, by rw [HS.out], by rw [HS.out]; exact hM⟩, by simp [intOf]⟩
    · obtain rfl : m = 11 := by omega
      obtain rfl : z = -1 := by omega
      clear hz hm hm10
      go_wp2_with fail
      go_ret
      exact ⟨E, e2, rfl, hM.becomes (by exact List.Mem.head _)⟩
set_option maxRecDepth 20000 in
set_option maxHeartbeats 4000000 in
theorem root_bld (g : Nat) (lv ns : List Nd) (w : World) (hb : BldIn w g ns lv.length) (hB : BInv lv ns) (hn : lv.length ≤ 1024) (hDk : ∀ w', Below w.heap.size w w' → Dbj w') :
    Calls Tryd.prog 29 #[.pointer (some ⟨g, 0, none⟩)] w fun e w' => e = .returned (.tuple #[.agg (ndC (rootN lv)), .int .i64 (if chkE lv.length = 0 then 0 else 10)]) ∧ Below w.heap.size w w' := by
  have hM := Mem.start [] w
  have hl := hB.len
  have HC := Lib.hid (fun w' (h : Below w.heap.size w w') => (hb.keep h).cnt hl)
  have hw : IntKind.u64.wrap (lv.length : Int) = (lv.length : Int) := IntWalk.u64_in _ (by omega)
  have HO := Lib.hid (fun w' => ones_any lv.length w' hn)
  by_cases hc : chkE lv.length = 0
  · obtain ⟨h, hh, he, hlog⟩ := chkE_yes hc
    have hroot := hB.root hc
    have HZ := Lib.hid (fun w' (hd : Below w.heap.size w w') => zeros_any h w' hh (hDk w' hd))
    have HR := Lib.hid (fun w' (hd : Below w.heap.size w w') => (hb.keep hd).nd hl h (by omega))
    rw [hlog] at hroot
    rw [hroot] at HR
    rw [← he] at HZ
    rw [if_pos hc]
    rw [decide_eq_true hc] at HO
    generalize rootN lv = Z at HR ⊢
    generalize lv.length = n at HC hw HO HZ
    have k0 : (0 : Int) ≤ (h : Int) := Int.natCast_nonneg _
    have k1 : (h : Int) < 11 := by omega
    clear hb hB hn hDk hl hc he hlog hroot hh
    go_enter Tryd.func29, Tryd.ntmps29
    go_upto_region 5 with (first | ((with_reducible refine at_load ?_); refine lo (HC.out _ hM.below) ?_ (hty := one_int)) | ((with_reducible refine (HO.out _).mono ?_); rintro e w1 ⟨⟨z, rfl, hz⟩, rfl⟩; obtain rfl : z = 1 := by simpa using hz) | ((first | with_reducible refine at_load ?_ | ((with_reducible refine at_load_g ?_ ?_); (· rfl))); first | refine ll hM ?_ | refine lc hM ?_ | refine lp hM ?_) | ((with_reducible refine at_store ?_); first | (refine lw hM ?_; clear hM; intro wx hM) | (refine ls hM ?_; clear hM; intro wx hM) | (refine lt hM ?_; clear hM; intro wx hM)) | ((with_reducible refine at_alloc ?_); refine lz hM ?_; clear hM; intro gx wx hM) | ((with_reducible refine at_box ?_); refine lb hM ?_; clear hM; intro gx wx hM))
    refine wp_region_allHM hM (fun w' => Below w.heap.size w w') (by kernel_rfl) ?_
    clear hM
    intro wd hM
    have hS := hM.below
    refine wpAllH_takes [0, 1, 2, 3, 7, 8, 4, 5] (by kernel_rfl) (fun _ _ _ _ _ h => h) hS (by kernel_rfl) ?_
    simp only [pickOps, List.filterMap_cons, List.filterMap_nil, List.getElem?_cons_zero, List.getElem?_cons_succ]
    repeat ((with_reducible apply wpHeld_step); (· rfl); (· (intro w hSw; first | (go_simp; rfl) | (exact yields_load (C := fun _ => True) (qo (HC.out _ hSw) (hty := one_int)) rfl))); intro K hK; go_simp; (with_reducible refine hK _ ?_); clear hK K)
    refine wpHeld_nil ?_
    refine wpAllH_one 6 rfl (by kernel_rfl) ?_
    go_wp2_with fail
    refine (HZ.out _ hM.below).mono ?_
    rintro e w1 ⟨rfl, rfl⟩
    go_wp2_with fail
    refine then_normal ⟨hM.below, ?_⟩
    refine wpAllH_takes [9, 10] (by kernel_rfl) (fun _ _ _ _ _ h => h) hS (by kernel_rfl) ?_
    simp only [pickOps, List.filterMap_cons, List.filterMap_nil, List.getElem?_cons_zero, List.getElem?_cons_succ]
    repeat ((with_reducible apply wpHeld_step); (· rfl); (· (intro w hSw; first | (go_simp; rfl) | (exact yields_load (C := fun _ => True) (qr (HR.out _ hSw) (hty := row_nd)) rfl))); intro K hK; go_simp; (with_reducible refine hK _ ?_); clear hK K)
    refine wpHeld_nil ?_
    refine wpAllH_one 11 rfl (by kernel_rfl) ?_
    refine lw hM ?_
    clear hM hS
    intro wy hM
    have hS := hM.below
    refine wpList_then ⟨hS, ?_⟩
    refine wpAllH_takes [12] (by kernel_rfl) (fun _ _ _ _ _ h => h) hS (by kernel_rfl) ?_
    simp only [pickOps, List.filterMap_cons, List.filterMap_nil, List.getElem?_cons_zero, List.getElem?_cons_succ]
    repeat ((with_reducible apply wpHeld_step); (· rfl); (· (intro w hSw; first | (go_simp; rfl) | (fail))); intro K hK; go_simp; (with_reducible refine hK _ ?_); clear hK K)
    refine wpHeld_nil ?_
    refine wpAllH_done (by kernel_rfl) ?_
    go_wp2_with fail
    exact bodyPost_ret (results_mem_cell_tmp hM rfl (by rfl) (by repeat (first | exact List.Mem.head _ | apply List.Mem.tail)) (by first | exact row_nd | exact row_n | exact row_half | exact row_a32 | exact row_nd2 | exact row_n2 | exact row_two | exact row_claim | exact row_bld | exact row_bnds) (by rfl)) rfl ⟨rfl, hM.below⟩
  · have hroot : rootN lv = nd0 := by unfold rootN; rw [if_neg hc]
    rw [if_neg hc, hroot]
    rw [decide_eq_false hc] at HO
    generalize lv.length = n at HC hw HO
    clear hb hB hn hDk hl hc hroot
    go_enter Tryd.func29, Tryd.ntmps29
    go_wp2_with (first | ((with_reducible refine at_load ?_); refine lo (HC.out _ hM.below) ?_ (hty := one_int)) | ((with_reducible refine (HO.out _).mono ?_); rintro e w1 ⟨⟨z, rfl, hz⟩, rfl⟩; have hz2 : (z != 1) = true := by simpa using hz) | ((with_reducible refine at_build ?_); refine wpList_build_zero rfl _ (by rfl) _ _ zero_nd arr_nd ?_) | ((first | with_reducible refine at_load ?_ | ((with_reducible refine at_load_g ?_ ?_); (· rfl))); first | refine ll hM ?_ | refine lc hM ?_ | refine lp hM ?_) | ((with_reducible refine at_store ?_); first | (refine lw hM ?_; clear hM; intro wx hM) | (refine ls hM ?_; clear hM; intro wx hM) | (refine lt hM ?_; clear hM; intro wx hM)) | ((with_reducible refine at_alloc ?_); refine lz hM ?_; clear hM; intro gx wx hM) | ((with_reducible refine at_box ?_); refine lb hM ?_; clear hM; intro gx wx hM))
    exact bodyPost_ret (results_mem_cell_tmp hM rfl (by rfl) (by repeat (first | exact List.Mem.head _ | apply List.Mem.tail)) (by first | exact row_nd | exact row_n | exact row_half | exact row_a32 | exact row_nd2 | exact row_n2 | exact row_two | exact row_claim | exact row_bld | exact row_bnds) (by rfl)) rfl ⟨rfl, hM.below⟩
end Go.Proofs.YtcfojkecmchbdaaDoor
namespace Go.Lin
open Go
/-- What is left of the leaves after m levels. -/
structure PSt (leaves : List Nd) (m D N : Nat) (L : List Nd) : Prop where
  sum : D + N = leaves.length
  rest : L = leaves.drop D
  mul : ∃ q, D = q * 2 ^ (11 - m)
  lt : N < 2 ^ (11 - m)
theorem PSt.start (leaves : List Nd) (h : leaves.length ≤ 1024) : PSt leaves 0 0 leaves.length leaves :=
  ⟨by omega, by simp, ⟨0, by simp⟩, Nat.lt_of_le_of_lt h (by decide)⟩
theorem PSt.div {leaves : List Nd} {m k D N : Nat} {L : List Nd} (h : PSt leaves m D N L) (hk : m + k = 10) : ∃ q, D = 2 * q * 2 ^ k ∧ N < 2 * 2 ^ k ∧ leaves.length / 2 ^ k = 2 * q + N / 2 ^ k ∧ N / 2 ^ k < 2 := by
  have hp : 0 < 2 ^ k := Nat.pow_pos (by decide)
  have e : 2 ^ (11 - m) = 2 * 2 ^ k := by rw [show 11 - m = k + 1 by omega, Nat.pow_succ, Nat.mul_comm]
  obtain ⟨q, hq⟩ := h.mul
  have hl := h.lt
  rw [e] at hq hl
  refine ⟨q, by rw [hq, ← Nat.mul_assoc, Nat.mul_comm q 2], hl, ?_, (Nat.div_lt_iff_lt_mul hp).2 hl⟩
  rw [← h.sum, hq, ← Nat.mul_assoc, Nat.mul_comm (q * 2), Nat.mul_add_div hp, Nat.mul_comm q 2]
theorem PSt.yes {leaves : List Nd} {m k D N : Nat} {L : List Nd} (h : PSt leaves m D N L) (hk : m + k = 10) (hb : N / 2 ^ k % 2 = 1) :
    2 ^ k ≤ N ∧ PSt leaves (m + 1) (D + 2 ^ k) (N - 2 ^ k) (L.drop (2 ^ k)) ∧ leaves.length / 2 ^ k % 2 = 1 ∧ nodeN (L.take (2 ^ k)) k 0 = nodeN leaves k (leaves.length / 2 ^ k - 1) := by
  obtain ⟨q, h1, h2, h3, h4⟩ := h.div hk
  have hp : 0 < 2 ^ k := Nat.pow_pos (by decide)
  have h5 : N / 2 ^ k = 1 := by generalize N / 2 ^ k = z at hb h4; omega
  have h6 : 2 ^ k ≤ N := by
    have := Nat.div_mul_le_self N (2 ^ k)
    rw [h5, Nat.one_mul] at this
    exact this
  have e : 2 ^ (11 - (m + 1)) = 2 ^ k := by rw [show 11 - (m + 1) = k by omega]
  rw [h5] at h3
  refine ⟨h6, ⟨?_, ?_, ⟨2 * q + 1, ?_⟩, ?_⟩, by rw [h3]; omega, ?_⟩
  · have := h.sum; omega
  · rw [h.rest, List.drop_drop]
  · rw [e, h1, Nat.add_mul, Nat.one_mul]
  · rw [e]; omega
  · rw [h3, h.rest]
    exact nodeN_part leaves k _ D (by rw [h1, Nat.add_sub_cancel])
theorem PSt.no {leaves : List Nd} {m k D N : Nat} {L : List Nd} (h : PSt leaves m D N L) (hk : m + k = 10) (hb : N / 2 ^ k % 2 ≠ 1) : PSt leaves (m + 1) D N L ∧ leaves.length / 2 ^ k % 2 ≠ 1 := by
  obtain ⟨q, h1, h2, h3, h4⟩ := h.div hk
  have hp : 0 < 2 ^ k := Nat.pow_pos (by decide)
  have h5 : N / 2 ^ k = 0 := by generalize N / 2 ^ k = z at hb h4; omega
  have e : 2 ^ (11 - (m + 1)) = 2 ^ k := by rw [show 11 - (m + 1) = k by omega]
  rw [h5] at h3
  refine ⟨⟨h.sum, h.rest, ⟨2 * q, by rw [e, h1]⟩, ?_⟩, by rw [h3]; omega⟩
  rw [e]
  exact (Nat.div_eq_zero_iff_lt hp).1 h5
end Go.Lin
namespace Go.Proofs.YtcfojkecmchbdaaDoor
open Go Go.RowKit Go.Bul Go.Thg Go.Lin
theorem adv_0 (A : Option Addr) (c size : Nat) : advA A 0 c size = A := by
  unfold advA
  split
  · rfl
  · cases A with
    | none => rfl
    | some a => simp [Addr.add]
theorem ndCells_take : ∀ (l : List Nd) (k : Nat), ndCells (l.take k) = (ndCells l).take (k * 16)
  | [], k => by simp [ndCells]
  | x :: l, 0 => by simp [ndCells]
  | x :: l, k + 1 => by
    have h1 : (vals .u8 x.val).length = 16 := by rw [vals_length, x.len]
    have e : (vals .u8 x.val ++ ndCells l).take (16 + k * 16) = vals .u8 x.val ++ (ndCells l).take (k * 16) := by
      rw [List.take_append, h1, Nat.add_sub_cancel_left, List.take_of_length_le (i := 16 + k * 16) (l := vals .u8 x.val) (by omega)]
    rw [List.take_succ_cons, ndCells_cons, ndCells_cons, ndCells_take l k, show (k + 1) * 16 = 16 + k * 16 by omega, e]
theorem ndCells_dropk : ∀ (l : List Nd) (k : Nat), ndCells (l.drop k) = (ndCells l).drop (k * 16)
  | [], k => by simp [ndCells]
  | x :: l, 0 => by simp
  | x :: l, k + 1 => by
    have h1 : (vals .u8 x.val).length = 16 := by rw [vals_length, x.len]
    rw [List.drop_succ_cons, ndCells_cons, ndCells_dropk l k, show (k + 1) * 16 = 16 + k * 16 by omega, ← List.drop_drop, List.drop_left' h1]
theorem NIn.take {w : World} {A : Option Addr} {n : Nat} {l : List Nd} (h : NIn w A n l) (k : Nat) (hk : k ≤ n) : NIn w A k (l.take k) := by
  have hn := h.len
  refine ⟨by rw [ndCells_length, List.length_take]; omega, fun h0 => ?_⟩
  obtain ⟨g, off, h1, h2, h3⟩ := h.2 (by omega)
  refine ⟨g, off, h1, h2, fun j u hu => h3 j u ?_⟩
  rw [ndCells_take, List.getElem?_take] at hu
  split at hu
  · exact hu
  · cases hu
theorem NIn.drop {w : World} {A : Option Addr} {n c : Nat} {l : List Nd} (h : NIn w A n l) (k : Nat) (hk : k ≤ n) (hc : n ≤ c) : NIn w (advA A k c 16) (n - k) (l.drop k) := by
  have hn := h.len
  refine ⟨by rw [ndCells_length, List.length_drop]; omega, fun h0 => ?_⟩
  obtain ⟨g, off, rfl, h2, h3⟩ := h.2 (by omega)
  refine ⟨g, off + k * 16, ?_, h2, fun j u hu => ?_⟩
  · unfold advA
    rw [if_neg (by omega)]
    simp [Addr.add]
  · rw [ndCells_dropk, List.getElem?_drop] at hu
    have := h3 _ _ hu
    rwa [← Nat.add_assoc] at this
theorem size_n : (Tryd.prog.info? 24).map (·.size) = some 16 := by kernel_rfl
set_option maxRecDepth 20000 in
set_option maxHeartbeats 4000000 in
theorem rpend_any (A : Option Addr) (n c : Nat) (leaves : List Nd) (w : World) (hr : NIn w A n leaves) (hn : n ≤ 1024) (hc : n ≤ c) :
    Calls Tryd.prog 32 #[.slice A n c] w fun e w' => ∃ A' c', e = .returned (.slice A' (pendF leaves).length c') ∧ Becomes [] w (rnT (.slice A' (pendF leaves).length c') (pendF leaves)) w' := by
  have hM := Mem.start [] w
  have hl := hr.len
  subst hl
  have HR := Lib.hid hr
  unfold pendF
  have HPS := Lib.hid (fun k m (h : m + k = 10) => show pendL (fun k => nodeN leaves k (leaves.length / 2 ^ k - 1)) leaves.length (m + 1) = pendL (fun k => nodeN leaves k (leaves.length / 2 ^ k - 1)) leaves.length m ++ (if leaves.length / 2 ^ k % 2 = 1 then [nodeN leaves k (leaves.length / 2 ^ k - 1)] else []) by
    obtain rfl : k = 10 - m := by omega
    rfl)
  have HPL := Lib.hid (fun m => pendL_length (fun k => nodeN leaves k (leaves.length / 2 ^ k - 1)) leaves.length m)
  obtain ⟨P, hP⟩ : ∃ P, pendL (fun k => nodeN leaves k (leaves.length / 2 ^ k - 1)) leaves.length = P := ⟨_, rfl⟩
  have hP0 : P 0 = [] := by rw [← hP]; rfl
  simp only [hP] at HPS HPL ⊢
  have HP0 := Lib.hid hP0
  have HS := Lib.hid (PSt.start leaves hn)
  have HC := Lib.hid hc
  have HLN := Lib.hid hn
  obtain ⟨N0, hN0⟩ : ∃ N, leaves.length = N := ⟨_, rfl⟩
  rw [hN0] at HR HC HS ⊢
  clear hr hn hc hP hP0 hN0
  go_enter Tryd.func32, Tryd.ntmps32
  go_wp2_with fail
  have M0 := Lib.hid (hM.newThing (rbecomes_zero none (KeptBut.refl _ _)))
  clear hM
  go_loopw [4, 3, 0] (fun i p s wr => ∃ (m : Nat) (z : Int) (E : Option Addr) (e2 : Nat) (B : Option Addr) (D N d : Nat) (L : List Nd), z + m = 10 ∧ m ≤ 11 ∧ PSt leaves m D N L ∧ NIn w B N L ∧ N ≤ d ∧ N ≤ 1024 ∧ i = .int .i64 z ∧ p = .slice E (P m).length e2 ∧ s = .slice B N d ∧ Mem [] w [] [rnT (.slice E (P m).length e2) (P m)] wr) (fun i _ _ _ => (intOf i + 1).toNat)
  case atStart => exact ⟨0, 10, none, 0, A, 0, N0, c, leaves, rfl, by omega, HS.out, HR.out, HC.out, by have := HS.out.sum; have := HLN.out; omega, rfl, by rw [HP0.out]; rfl, rfl, by rw [HP0.out]; exact M0.out⟩
  case round =>
    clear M0
    obtain ⟨m, z, E, e2, B, D, N, d, L, hz, hm, hS, hN, hd, hNl, rfl, rfl, rfl, hM⟩ := hrel
    by_cases hm10 : m ≤ 10
    · obtain ⟨k, rfl⟩ : ∃ k : Nat, z = (k : Int) := ⟨z.toNat, by omega⟩
      have hk : m + k = 10 := by omega
      have hs := HPS.out k m hk
      have hcl := HPL.out m
      have k0 : (0 : Int) ≤ (k : Int) := Int.natCast_nonneg _
      have k1 : (k : Int) < 11 := by omega
      have hw : IntKind.i64.wrap ((k : Int) - 1) = (k : Int) - 1 := IntWalk.i64_in _ ⟨by omega, by omega⟩
      have HKK := Lib.hid hk
      have hp : (2 : Int) ^ k ≤ 1024 := by
        have h : (2 : Int) ^ k = ((2 ^ k : Nat) : Int) := by simp
        have h2 : 2 ^ k ≤ 2 ^ 10 := Nat.pow_le_pow_right (by decide) (by omega)
        omega
      have hp0 : (0 : Int) ≤ 2 ^ k := by
        have h : (2 : Int) ^ k = ((2 ^ k : Nat) : Int) := by simp
        rw [h]
        exact Int.natCast_nonneg _
      have c4 : wrap64 ((2 : Int) ^ k) = ((2 ^ k : Nat) : Int) := by rw [show ((2 ^ k : Nat) : Int) = (2 : Int) ^ k by simp]; unfold wrap64; omega
      have hdv : (N : Int) / 2 ^ k = ((N / 2 ^ k : Nat) : Int) := by simp
      obtain ⟨cur, hcur⟩ : ∃ c, P m = c := ⟨_, rfl⟩
      rw [hcur] at hs hM hcl ⊢
      by_cases hbit : N / 2 ^ k % 2 = 1
      · obtain ⟨h1, h2, h3, h4⟩ := hS.yes hk hbit
        rw [if_pos h3] at hs
        have HNN := Lib.hid (fun w' (hb : Below w.heap.size w w') => rnode_any B (2 ^ k) d (L.take (2 ^ k)) (by omega) k 0 w' ((hN.keep hb).take _ h1) (by omega) (by omega))
        rw [h4, show ((0 : Nat) : Int) = 0 from rfl] at HNN
        have HND := Lib.hid (hN.drop (2 ^ k) h1 hd)
        have HST := Lib.hid h2
        have r1 : ((((N / 2 ^ k : Nat)) : Int).tmod 2 == 1) = true := by rw [Int.tmod_eq_emod_of_nonneg (Int.natCast_nonneg _)]; generalize N / 2 ^ k = q at hbit; simp; omega
        have r2 : ((((N / 2 ^ k : Nat)) : Int) % 2 == 1) = true := by generalize N / 2 ^ k = q at hbit; simp; omega
        have r3 : (N / 2 ^ k % 2 == 1) = true := by simp [hbit]
        generalize nodeN leaves k (leaves.length / 2 ^ k - 1) = Z at hs HNN
        have HSS := Lib.hid hs
        have h63 : cur.length + [Z].length ≤ 1000000000 := by simp; omega
        have HD := Lib.hid hd
        have HL1 := Lib.hid h1
        have h1d : 2 ^ k ≤ d := by omega
        have HLD := Lib.hid h1d
        clear hz hm hm10 hk hcur hp hp0 hS hN hbit h2 h3 h4 hs hcl
        generalize N / 2 ^ k = q at hdv r1 r2 r3
        generalize 2 ^ k = pw at c4 h1 h1d HNN HND HST HL1 HLD
        clear h1 h1d
        go_wp2_with (first | ((with_reducible refine at_slice ?_); first | refine lsl_hi Tryd.underlying33 size_n HLD.out (adv_0 _ _ _) ?_ | refine lsl_lo Tryd.underlying33 size_n HL1.out HD.out ?_) | ((with_reducible refine (HNN.out _ hM.below).mono ?_); rintro e w1 ⟨rfl, hb⟩; replace hM := hM.step hb; clear hb) | (refine lbr1 hM ?_; clear hM; intro g1 w5 hM) | ((with_reducible refine at_append ?_); refine lar (src_rn1 hM (List.Mem.head _)) hM h63 ?_; clear hM; intro A2 N2 c2 wx hN2 hM))
        obtain rfl : N2 = (cur ++ [Z]).length := hN2.out
        exact ⟨⟨m + 1, (k : Int) - 1, A2, c2, _, _, _, _, _, by have := HKK.out; omega, by have := HKK.out; omega, HST.out, HND.out, by have := HD.out; omega, by omega, rfl, by rw [HSS.out], rfl, by rw [HSS.out]; exact hM.subL (List.sublist_cons_self _ _)⟩, by simp [intOf]⟩
      · obtain ⟨h2, h3⟩ := hS.no hk hbit
        rw [if_neg h3, List.append_nil] at hs
        have r1 : ((((N / 2 ^ k : Nat)) : Int).tmod 2 == 1) = false := by rw [Int.tmod_eq_emod_of_nonneg (Int.natCast_nonneg _)]; generalize N / 2 ^ k = q at hbit; simp; omega
        have r2 : ((((N / 2 ^ k : Nat)) : Int) % 2 == 1) = false := by generalize N / 2 ^ k = q at hbit; simp; omega
        have r3 : (N / 2 ^ k % 2 == 1) = false := by simp [hbit]
        have HSS := Lib.hid hs
        have HST := Lib.hid h2
        have HN := Lib.hid hN
        have HD := Lib.hid hd
        clear hz hm hm10 hk hcur hp hp0 hS hN hbit h2 h3 hs hcl hd
        generalize N / 2 ^ k = q at hdv r1 r2 r3
        go_wp2_with fail
        exact ⟨⟨m + 1, (k : Int) - 1, E, e2, _, _, _, _, _, by have := HKK.out; omega, by have := HKK.out; omega, HST.out, HN.out, HD.out, by omega, rfl, by rw [HSS.out], rfl, by rw [HSS.out]; exact hM⟩, by simp [intOf]⟩
    · obtain rfl : m = 11 := by omega
      obtain rfl : z = -1 := by omega
      clear hz hm hm10 hS hN hd hNl
      go_wp2_with fail
      go_ret
      exact ⟨E, e2, rfl, hM.becomes (by exact List.Mem.head _)⟩
end Go.Proofs.YtcfojkecmchbdaaDoor
