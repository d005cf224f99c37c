/- The reference: Leaves, Root. The reference: Half, Bytes, Author. Public and secret keys: equality, literals. -/
import Derived.Test.YtdnnjgjaffkdfaaDoorWl
import Derived.Test.YtdnnjgjaffkdfaaDoorWa
import Derived.Test.YtdnnjgjaffkdfaaDoorWh
import Derived.Test.YtdnnjgjaffkdfaaDoorVl
import Derived.Test.YtdnnjgjaffkdfaaDoorVp
import Derived.Test.YtdnnjgjaffkdfaaDoorWc
namespace Go.Proofs.YtdnnjgjaffkdfaaDoor
open Go Go.RowKit Go.Bul Go.Thg Go.Lin
theorem zero_rva : ZeroTy Tryd.prog 108 16 (ndC nd0) := ⟨⟨.agg _, by kernel_rfl, rfl, by rw [cellsOf_size]; rfl⟩⟩
theorem rvals15 (s : Sd) (k : Nat) (w : World) (hk : k ≤ 65535) :
    Calls Tryd.prog 63 #[.agg (cellsOf .u8 s.val), .int .i64 (k : Nat), .agg (cellsOf .i64 (List.replicate 35 15))] w fun e w' => e = .returned (.agg (cellsOf .u8 (valuesV s.val k fun _ => 15))) ∧ Below w.heap.size w w' := by
  have h := Once.values_any s.val (List.replicate 35 15) k (k : Nat) w s.len s.byt List.length_replicate (fun i => by rw [List.getD_eq_getElem?_getD, List.getElem?_replicate]; split <;> simp) hk rfl
  have e : (valuesV s.val k fun i => (List.replicate 35 15).getD i 0) = valuesV s.val k fun _ => 15 := pieces_congr 35 fun i hi => by
    show advV k i 0 ((List.replicate 35 15).getD i 0) _ = _
    rw [List.getD_eq_getElem?_getD, List.getElem?_replicate, if_pos hi]
    rfl
  rw [e] at h
  exact h
theorem rcomp15 (s : Sd) (k : Nat) (w : World) (hk : k ≤ 65535) :
    Calls Tryd.prog 78 #[.int .i64 (k : Nat), .agg (cellsOf .u8 (valuesV s.val k fun _ => 15))] w fun e w' => e = .returned (.agg (ndC (pvN s k))) ∧ Below w.heap.size w w' :=
  Once.rcompress_any _ k (k : Nat) w (valuesV_length _ _ _) (Once.bytes_valuesV _ _ _) hk rfl
set_option maxRecDepth 20000 in
set_option maxHeartbeats 2000000 in
theorem rleaves_any (s : Sd) (h : Nat) (w : World) (hh : h ≤ 8) :
    Calls Tryd.prog 60 #[.agg (cellsOf .u8 s.val), .int .i64 (h : Nat)] w fun e w' => ∃ A c, e = .returned (.slice A (2 ^ h) c) ∧ Becomes [] w (rnT (.slice A (2 ^ h) c) (lvsN s (2 ^ h))) w' := by
  have hM := Mem.start [] w
  have hp : 2 ^ h ≤ 2 ^ 8 := Nat.pow_le_pow_right (by decide) hh
  have hp2 : (2 : Int) ^ h = ((2 ^ h : Nat) : Int) := by simp
  have c4 : wrap64 ((2 : Int) ^ h) = ((2 ^ h : Nat) : Int) := by rw [hp2]; have := Int.natCast_nonneg (2 ^ h); unfold wrap64; omega
  have HS := Lib.hid (show (cellsOf .u8 s.val).size = 32 by rw [cellsOf_size, s.len])
  have HA := Lib.hid (fun w => Once.all_any 15 15 w rfl)
  have HV := Lib.hid (fun (k : Nat) (_ : k < 2 ^ h) w => rvals15 s k w (by omega))
  have HC := Lib.hid (fun (k : Nat) (_ : k < 2 ^ h) w => rcomp15 s k w (by omega))
  have HF := Lib.hid (fun (k : Nat) A n c w' (hr : Reads w' 1 A n (vals .u8 (pvN s k).val)) (hn : n ≤ 1000) => rleaf_any (k : Nat) A n c (pvN s k).val w' hr (pvN s k).byt hn)
  have HLS := Lib.hid (fun k => lvsN_succ s k)
  have HLL := Lib.hid (fun k => lvsN_length s k)
  have HL0 : Hid (lvsN s 0 = []) := Lib.hid rfl
  have HZ : Hid (∀ k, lfN s k = leafN (k : Nat) (pvN s k).val) := Lib.hid fun k => rfl
  have h0 : (0 : Int) ≤ (h : Int) := Int.natCast_nonneg _
  have h1 : (h : Int) ≤ 8 := by omega
  generalize (valuesV s.val · fun _ => 15) = VV at HV HC
  generalize pvN s = PV at HC HF HZ
  generalize lfN s = LF at HLS HZ
  generalize lvsN s = LV at HLS HLL HL0 ⊢
  generalize cellsOf .u8 s.val = SC at HS HV ⊢
  clear hh hp2
  generalize 2 ^ h = N at hp c4 HV HC ⊢
  go_enter Tryd.func60, Tryd.ntmps60
  go_wp2_with (first | ((with_reducible refine at_box ?_); refine slb hM ?_ (hty := row_a32) (hn := HS.out); clear hM; intro g2 w1 hM))
  obtain ⟨g2, hg2⟩ := hM.name1
  subst hg2
  have M0 := Lib.hid (hM.newThing (rbecomes_zero none (KeptBut.refl _ _)))
  clear hM
  go_loopw [6, 5] (fun i p wr => ∃ (k : Nat) (E : Option Addr) (e2 : Nat), k ≤ N ∧ i = .int .i64 (k : Nat) ∧ p = .slice E k e2 ∧ Mem [] w [⟨g2, 44, 32, SC⟩] [rnT (.slice E k e2) (LV k)] wr) (fun i _ _ => N - (intOf i).toNat)
  case atStart => exact ⟨0, none, 0, by omega, rfl, rfl, by rw [HL0.out]; exact M0.out⟩
  case round =>
    clear M0
    obtain ⟨k, E, e2, hk, rfl, rfl, hM⟩ := hrel
    by_cases hlt : k < N
    · have HVK := Lib.hid (HV.out k hlt)
      have HCK := Lib.hid (HC.out k hlt)
      have HFK := Lib.hid (HF.out k)
      have hs := HLS.out k
      have hl := HLL.out k
      rw [HZ.out k] at hs
      generalize leafN (k : Nat) (PV k).val = Z at HFK hs
      generalize PV k = Y at HCK HFK
      generalize VV k = V at HVK HCK
      generalize LV k = cur at hs hl hM
      have h63 : cur.length + [Z].length ≤ 1000000000 := by simp; omega
      have HSS := Lib.hid hs
      have HL := Lib.hid hl
      have q0 : (0 : Int) ≤ (k : Int) := Int.natCast_nonneg _
      have q1 : (k : Int) < (N : Int) := by omega
      clear hs hl
      go_upto_region 5 with fail
      refine wp_region_allHM hM (HeldM [⟨g2, 44, 32, SC⟩]) (by kernel_rfl) ?_
      clear hM
      intro wd hM
      have hS := HeldM.of (hM.subL (L' := [⟨g2, 44, 32, SC⟩]) (List.Sublist.refl _))
      refine wpAllH_takes [0, 2, 1] (by kernel_rfl) (fun _ _ _ _ _ h => h) hS (by kernel_rfl) ?_
      simp only [pickOps, List.filterMap_cons, List.filterMap_nil, List.getElem?_cons_zero, List.getElem?_cons_succ]
      repeat ((with_reducible apply wpHeld_step); (· rfl); (· (intro w hSw; first | (go_simp; rfl) | ((obtain ⟨_, _, _, hM'⟩ := hSw; exact yields_load (C := fun _ => True) (sql hM' (hty := row_a32)) rfl)))); intro K hK; go_simp; (with_reducible refine hK _ ?_); clear hK K)
      refine wpHeld_nil ?_
      refine wpAllH_two 3 6 rfl rfl (by kernel_rfl) ?_ ?_
      · go_wp2_with fail
        refine (HA.out _).mono ?_
        rintro e w1 ⟨rfl, hb⟩
        replace hM := hM.step hb
        clear hb hS
        have hS := HeldM.of (hM.subL (L' := [⟨g2, 44, 32, SC⟩]) (List.Sublist.refl _))
        go_wp2_with fail
        refine then_normal ⟨hS, ?_⟩
        refine wpAllH_two 4 6 rfl rfl (by kernel_rfl) ?_ ?_
        · go_wp2_with fail
          refine (HVK.out _).mono ?_
          rintro e w1 ⟨rfl, hb⟩
          replace hM := hM.step hb
          clear hb hS
          have hS := HeldM.of (hM.subL (L' := [⟨g2, 44, 32, SC⟩]) (List.Sublist.refl _))
          go_wp2_with fail
          refine then_normal ⟨hS, ?_⟩
          refine wpAllH_two 5 6 rfl rfl (by kernel_rfl) ?_ ?_
          · go_wp2_with fail
            refine (HCK.out _).mono ?_
            rintro e w1 ⟨rfl, hb⟩
            replace hM := hM.step hb
            clear hb hS
            have hS := HeldM.of (hM.subL (L' := [⟨g2, 44, 32, SC⟩]) (List.Sublist.refl _))
            go_wp2_with fail
            refine then_normal ⟨hS, ?_⟩
            refine wpAllH_one 6 rfl (by kernel_rfl) ?_
            refine slz hM ?_ (hz := zero_rva)
            clear hM hS
            intro g7 wy hM
            have hS := HeldM.of (hM.subL (L' := [⟨g2, 44, 32, SC⟩]) (List.sublist_cons_self _ _))
            refine wpList_then ⟨hS, ?_⟩
            refine wpAllH_one 7 rfl (by kernel_rfl) ?_
            refine slw hM ?_ (hs := ndC_size _) (hty := row_rva)
            clear hM hS
            intro wz hM
            have hS := HeldM.of (hM.subL (L' := [⟨g2, 44, 32, SC⟩]) (List.sublist_cons_self _ _))
            refine wpList_then ⟨hS, ?_⟩
            refine wpAllH_done (by kernel_rfl) ?_
            go_wp2_with (first | ((with_reducible refine (HFK.out _ _ _ _ (nd_reads hM (List.Mem.head _)) (by decide)).mono ?_); rintro e w1 ⟨rfl, hb⟩; replace hM := hM.step hb; clear hb) | (refine lbr1 hM ?_; clear hM; intro g1 w5 hM) | ((with_reducible refine at_append ?_); refine lar (src_rn1 hM (List.Mem.head _)) hM h63 ?_; clear hM; intro A2 N2 c2 wx hN2 hM))
            obtain rfl : N2 = k + 1 := by have := hN2.out; have := HL.out; simp at *; omega
            exact ⟨⟨k + 1, A2, c2, by omega, by go_num, rfl, by rw [HSS.out]; exact hM.subL (List.Sublist.cons _ (List.sublist_cons_self _ _))⟩, by simp [intOf]; omega⟩
          · refine slz hM ?_ (hz := zero_rva)
            clear hM hS
            intro g7 wy hM
            have hS := HeldM.of (hM.subL (L' := [⟨g2, 44, 32, SC⟩]) (List.sublist_cons_self _ _))
            refine wpList_then ⟨hS, ?_⟩
            refine wpAllH_one 5 rfl (by kernel_rfl) ?_
            go_wp2_with fail
            refine (HCK.out _).mono ?_
            rintro e w1 ⟨rfl, hb⟩
            replace hM := hM.step hb
            clear hb hS
            have hS := HeldM.of (hM.subL (L' := [⟨g2, 44, 32, SC⟩]) (List.sublist_cons_self _ _))
            go_wp2_with fail
            refine then_normal ⟨hS, ?_⟩
            refine wpAllH_one 7 rfl (by kernel_rfl) ?_
            refine slw hM ?_ (hs := ndC_size _) (hty := row_rva)
            clear hM hS
            intro wz hM
            have hS := HeldM.of (hM.subL (L' := [⟨g2, 44, 32, SC⟩]) (List.sublist_cons_self _ _))
            refine wpList_then ⟨hS, ?_⟩
            refine wpAllH_done (by kernel_rfl) ?_
            go_wp2_with (first | ((with_reducible refine (HFK.out _ _ _ _ (nd_reads hM (List.Mem.head _)) (by decide)).mono ?_); rintro e w1 ⟨rfl, hb⟩; replace hM := hM.step hb; clear hb) | (refine lbr1 hM ?_; clear hM; intro g1 w5 hM) | ((with_reducible refine at_append ?_); refine lar (src_rn1 hM (List.Mem.head _)) hM h63 ?_; clear hM; intro A2 N2 c2 wx hN2 hM))
            obtain rfl : N2 = k + 1 := by have := hN2.out; have := HL.out; simp at *; omega
            exact ⟨⟨k + 1, A2, c2, by omega, by go_num, rfl, by rw [HSS.out]; exact hM.subL (List.Sublist.cons _ (List.sublist_cons_self _ _))⟩, by simp [intOf]; omega⟩
        · refine slz hM ?_ (hz := zero_rva)
          clear hM hS
          intro g7 wy hM
          have hS := HeldM.of (hM.subL (L' := [⟨g2, 44, 32, SC⟩]) (List.sublist_cons_self _ _))
          refine wpList_then ⟨hS, ?_⟩
          refine wpAllH_one 4 rfl (by kernel_rfl) ?_
          go_wp2_with fail
          refine (HVK.out _).mono ?_
          rintro e w1 ⟨rfl, hb⟩
          replace hM := hM.step hb
          clear hb hS
          have hS := HeldM.of (hM.subL (L' := [⟨g2, 44, 32, SC⟩]) (List.sublist_cons_self _ _))
          go_wp2_with fail
          refine then_normal ⟨hS, ?_⟩
          refine wpAllH_one 5 rfl (by kernel_rfl) ?_
          go_wp2_with fail
          refine (HCK.out _).mono ?_
          rintro e w1 ⟨rfl, hb⟩
          replace hM := hM.step hb
          clear hb hS
          have hS := HeldM.of (hM.subL (L' := [⟨g2, 44, 32, SC⟩]) (List.sublist_cons_self _ _))
          go_wp2_with fail
          refine then_normal ⟨hS, ?_⟩
          refine wpAllH_one 7 rfl (by kernel_rfl) ?_
          refine slw hM ?_ (hs := ndC_size _) (hty := row_rva)
          clear hM hS
          intro wz hM
          have hS := HeldM.of (hM.subL (L' := [⟨g2, 44, 32, SC⟩]) (List.sublist_cons_self _ _))
          refine wpList_then ⟨hS, ?_⟩
          refine wpAllH_done (by kernel_rfl) ?_
          go_wp2_with (first | ((with_reducible refine (HFK.out _ _ _ _ (nd_reads hM (List.Mem.head _)) (by decide)).mono ?_); rintro e w1 ⟨rfl, hb⟩; replace hM := hM.step hb; clear hb) | (refine lbr1 hM ?_; clear hM; intro g1 w5 hM) | ((with_reducible refine at_append ?_); refine lar (src_rn1 hM (List.Mem.head _)) hM h63 ?_; clear hM; intro A2 N2 c2 wx hN2 hM))
          obtain rfl : N2 = k + 1 := by have := hN2.out; have := HL.out; simp at *; omega
          exact ⟨⟨k + 1, A2, c2, by omega, by go_num, rfl, by rw [HSS.out]; exact hM.subL (List.Sublist.cons _ (List.sublist_cons_self _ _))⟩, by simp [intOf]; omega⟩
      · refine slz hM ?_ (hz := zero_rva)
        clear hM hS
        intro g7 wy hM
        have hS := HeldM.of (hM.subL (L' := [⟨g2, 44, 32, SC⟩]) (List.sublist_cons_self _ _))
        refine wpList_then ⟨hS, ?_⟩
        refine wpAllH_one 3 rfl (by kernel_rfl) ?_
        go_wp2_with fail
        refine (HA.out _).mono ?_
        rintro e w1 ⟨rfl, hb⟩
        replace hM := hM.step hb
        clear hb hS
        have hS := HeldM.of (hM.subL (L' := [⟨g2, 44, 32, SC⟩]) (List.sublist_cons_self _ _))
        go_wp2_with fail
        refine then_normal ⟨hS, ?_⟩
        refine wpAllH_one 4 rfl (by kernel_rfl) ?_
        go_wp2_with fail
        refine (HVK.out _).mono ?_
        rintro e w1 ⟨rfl, hb⟩
        replace hM := hM.step hb
        clear hb hS
        have hS := HeldM.of (hM.subL (L' := [⟨g2, 44, 32, SC⟩]) (List.sublist_cons_self _ _))
        go_wp2_with fail
        refine then_normal ⟨hS, ?_⟩
        refine wpAllH_one 5 rfl (by kernel_rfl) ?_
        go_wp2_with fail
        refine (HCK.out _).mono ?_
        rintro e w1 ⟨rfl, hb⟩
        replace hM := hM.step hb
        clear hb hS
        have hS := HeldM.of (hM.subL (L' := [⟨g2, 44, 32, SC⟩]) (List.sublist_cons_self _ _))
        go_wp2_with fail
        refine then_normal ⟨hS, ?_⟩
        refine wpAllH_one 7 rfl (by kernel_rfl) ?_
        refine slw hM ?_ (hs := ndC_size _) (hty := row_rva)
        clear hM hS
        intro wz hM
        have hS := HeldM.of (hM.subL (L' := [⟨g2, 44, 32, SC⟩]) (List.sublist_cons_self _ _))
        refine wpList_then ⟨hS, ?_⟩
        refine wpAllH_done (by kernel_rfl) ?_
        go_wp2_with (first | ((with_reducible refine (HFK.out _ _ _ _ (nd_reads hM (List.Mem.head _)) (by decide)).mono ?_); rintro e w1 ⟨rfl, hb⟩; replace hM := hM.step hb; clear hb) | (refine lbr1 hM ?_; clear hM; intro g1 w5 hM) | ((with_reducible refine at_append ?_); refine lar (src_rn1 hM (List.Mem.head _)) hM h63 ?_; clear hM; intro A2 N2 c2 wx hN2 hM))
        obtain rfl : N2 = k + 1 := by have := hN2.out; have := HL.out; simp at *; omega
        exact ⟨⟨k + 1, A2, c2, by omega, by go_num, rfl, by rw [HSS.out]; exact hM.subL (List.Sublist.cons _ (List.sublist_cons_self _ _))⟩, by simp [intOf]; omega⟩
    · obtain rfl : k = N := by omega
      clear hlt hk
      go_wp2_with fail
      go_ret
      exact ⟨E, e2, rfl, (hM.subL (List.nil_sublist _)).becomes (by exact List.Mem.head _)⟩
set_option maxRecDepth 20000 in
set_option maxHeartbeats 2000000 in
theorem rrt_any (s : Sd) (h : Nat) (w : World) (hh : h ≤ 8) :
    Calls Tryd.prog 24 #[.agg (cellsOf .u8 s.val), .int .i64 (h : Nat)] w fun e w' => e = .returned (.agg (ndC (rtN s h))) ∧ Below w.heap.size w w' := by
  have hM := Mem.start [] w
  have HS := Lib.hid (show (cellsOf .u8 s.val).size = 32 by rw [cellsOf_size, s.len])
  have HL := Lib.hid (fun w => rleaves_any s h w hh)
  have hp : 2 ^ h ≤ 2 ^ 8 := Nat.pow_le_pow_right (by decide) hh
  have HR := Lib.hid (fun A c w' (hr : NIn w' A (2 ^ h) (lvsN s (2 ^ h))) => rroot_any A (2 ^ h) c (lvsN s (2 ^ h)) w' hr (by omega))
  have e : rootN (lvsN s (2 ^ h)) = rtN s h := rfl
  rw [e] at HR
  generalize rtN s h = Z at HR ⊢
  generalize lvsN s (2 ^ h) = LV at HL HR
  generalize 2 ^ h = N at HL HR
  generalize cellsOf .u8 s.val = SC at HS HL ⊢
  clear hh hp e
  go_enter Tryd.func24, Tryd.ntmps24
  go_wp2_with (first | ((with_reducible refine at_box ?_); refine slb hM ?_ (hty := row_a32) (hn := HS.out); clear hM; intro g2 w1 hM) | ((with_reducible refine at_alloc ?_); refine slz hM ?_ (hz := zero_a16); clear hM; intro g9 w1 hM) | ((with_reducible refine at_load ?_); refine sll hM ?_ (hty := row_a32)) | ((with_reducible refine (HL.out _).mono ?_); rintro e w1 ⟨A, c, rfl, hb⟩; replace hM := hM.newThing hb; clear hb) | ((with_reducible refine (HR.out _ _ _ (rnT_in (hM.thing _ (List.Mem.head _)))).mono ?_); rintro e w1 ⟨rfl, hb⟩; replace hM := hM.step hb; clear hb) | ((with_reducible refine at_alloc ?_); refine slz hM ?_ (hz := zero_n); clear hM; intro g9 w1 hM) | ((with_reducible refine at_load ?_); refine sll hM ?_ (hty := row_n)) | ((with_reducible refine at_store ?_); first | (refine slw hM ?_ (hs := ndC_size _) (hty := row_n); clear hM; intro wx hM) | (refine slw hM ?_ (hs := ndC_size _) (hty := row_a16); clear hM; intro wx hM)))
  exact bodyPost_ret (results_mem_cell hM rfl (by rfl) (by repeat (first | exact List.Mem.head _ | apply List.Mem.tail)) row_a16) rfl ⟨rfl, hM.below⟩
end Go.Proofs.YtdnnjgjaffkdfaaDoor
namespace Go.Proofs.YtdnnjgjaffkdfaaDoor
section
open Go Go.RowKit Go.Bul
end
open Go Go.RowKit Go.Bul Go.Thg Go.Lin
theorem low_any (x : Nat) (w : World) (hx : x < 256) : Calls Tryd.prog 21 #[.int .u8 (x : Nat)] w fun e w' => e = .returned (.int .i64 ((1 + x % 3 : Nat) : Nat)) ∧ w = w' := by
  go_enter Tryd.func21, Tryd.ntmps21
  have e2 : ((1 + x % 3 : Nat) : Int) = 1 + (x : Int) % 3 := by omega
  have h0 : (0 : Int) ≤ (x : Int) := by omega
  rw [e2]
  go_wp2
  go_ret
  exact ⟨by go_num, rfl⟩
end Go.Proofs.YtdnnjgjaffkdfaaDoor
namespace Go.Bul
open Go Go.RowKit Go.Thg
theorem run_part_one {P : Program} {ty : TypeId} (hty : OneTy P ty) {cs : Array Value} {v : Value} {off : Nat} (hv : cs[off]? = some v) (w : World) : (part ty cs off).run P w = .ok v w := by
  obtain ⟨d, hu, hd, _⟩ := hty.ex
  simp only [part, Sem.run_bind, run_isAgg_no hu hd, Result.andThen_ok, Bool.false_eq_true, if_false, hv, Sem.run_pure]
theorem run_part_row {P : Program} {ty : TypeId} {m : Nat} (hty : RowTy P ty m) {cs X : Array Value} {off : Nat} (hX : cs.extract off (off + m) = X) (w : World) : (part ty cs off).run P w = .ok (.agg X) w := by
  obtain ⟨d, hu, hd, hi⟩ := hty.ex
  simp only [part, Sem.run_bind, run_isAgg hu hd, run_sizeOf hi, Result.andThen_ok, if_true, hX, Sem.run_pure]
end Go.Bul
namespace Go.Proofs.YtdnnjgjaffkdfaaDoor
open Go Go.RowKit Go.Bul Go.Thg Go.Lin
theorem run_sec (s : Sd) (h : Int) (w : World) : (Instr.build 48 #[(0, .agg (cellsOf .u8 s.val)), (1, .int .i64 h)]).run Tryd.prog w = .ok (.agg (secC s h)) w := by
  refine run_build_struct (places := #[(0, 32), (32, 1)]) (show Tryd.prog.underlying 48 = some (.struct (Tryd.prog.fieldsOf 48)) by kernel_rfl) (show (Tryd.prog.info? 48).map (·.zero) = some (some (.agg (secC sd0 0))) by kernel_rfl) (fun w => by kernel_rfl) ?_ w
  have e0 := sd_len sd0
  have e1 := sd_len s
  show Instr.fill _ (secC sd0 0) [(0, .agg (cellsOf .u8 s.val)), (1, .int .i64 h)] = _
  rw [fill_cons (size := 32) rfl (by simp [Value.cells, s.len]) (by rw [secC_size]; omega)]
  have e2 : (splice (secC sd0 0).toList 0 (Value.cells (.agg (cellsOf .u8 s.val))).toList).toArray = secC s 0 := by
    have h := splice_at [] (vals .u8 sd0.val) [Value.int .i64 0] (vals .u8 s.val) (by rw [e0, e1])
    simp only [List.nil_append, List.length_nil] at h
    exact congrArg List.toArray h
  rw [e2, fill_cons (size := 1) rfl rfl (by rw [secC_size]; omega)]
  have e3 : (splice (secC s 0).toList 32 (Value.cells (.int .i64 h)).toList).toArray = secC s h := by
    have h := splice_at (vals .u8 s.val) [Value.int .i64 0] [] [Value.int .i64 h] rfl
    simp only [e1, List.append_nil] at h
    exact congrArg List.toArray h
  rw [e3]
  rfl
section
variable {w : World} {ops : Array Oper} {rest : List Oper} {o : Oper} {a : Act} {Q : Exit → Act → World → Prop} {x0 x1 : Operand} {h : Int} {s : Sd}
theorem lbsec (hk : wpList Tryd.prog ops Q rest (a.put o.dst (.agg (secC s h))) w) (hgd : o.guard = none := by rfl) (ho : o.op = .build 48 #[(0, x0), (1, x1)] := by rfl) (h0 : a.eval x0 = .agg (cellsOf .u8 s.val) := by rfl) (hx : a.eval x1 = .int .i64 h := by rfl) : wpList Tryd.prog ops Q (o :: rest) a w :=
  wpList_build_run hgd _ _ ho _ (by simp only [List.map_toArray, List.map_cons, List.map_nil, h0, hx]) _ (run_sec s h w) hk
end
end Go.Proofs.YtdnnjgjaffkdfaaDoor
