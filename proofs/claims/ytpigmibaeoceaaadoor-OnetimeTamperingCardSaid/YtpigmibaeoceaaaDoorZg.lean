/- Contracts of the reference's rotate (at ten counts) and constants. Condition of rotate: the word is below 2^32. Contract of the reference's padded. Condition: fewer than 2^40 bytes. -/
import Derived.Test.YtpigmibaeoceaaaDoorZd
namespace Go.Proofs.YtpigmibaeoceaaaDoor
open Go Go.RowKit Go.Bul
theorem rot_math' (x n : Nat) (hx : x < 4294967296) (a b : Int) (ha : a = ((x / 2 ^ n : Nat) : Int)) (hb : b = ((x * 2 ^ (32 - n) % 4294967296 : Nat) : Int)) : bits .or .u32 a b = ((Bul.rotr x n : Nat) : Int) := by
  rw [ha, hb, u32_or_nat _ _ (Nat.lt_of_le_of_lt (Nat.div_le_self _ _) hx) (Nat.mod_lt _ (by decide)), Bul.rotr, Nat.shiftRight_eq_div_pow, Nat.shiftLeft_eq]
set_option maxRecDepth 20000 in
set_option maxHeartbeats 1000000 in
theorem ref_rot (x n : Nat) (w : World) (hx : x < 4294967296) (hn : IsRot n) (y : Int) (hy : y = (n : Int)) :
    Calls Tryd.prog 45 #[.int .u32 x, .int .i64 y] w fun e w' => e = .returned (.int .u32 (Bul.rotr x n : Nat)) ∧ ∃ m, w' = w.drewN m := by
  subst hy
  rcases hn with rfl | rfl | rfl | rfl | rfl | rfl | rfl | rfl | rfl | rfl
  all_goals
    go_enter Tryd.func45, Tryd.ntmps45
    go_wp2_with fail
    go_quiet (fail)
    go_wp2_with fail
    go_ret
    exact ⟨ret_u32 (rot_math' x _ hx _ _ (by simp) (by simp)), _, rfl⟩
theorem zero_w64 : (Tryd.prog.info? 83).map (·.zero) = some (some (.agg (cellsOf .u32 (List.replicate 64 0)))) := by kernel_rfl
theorem size_w64 : (Tryd.prog.info? 83).map (·.size) = some 64 := by kernel_rfl
set_option maxRecDepth 20000 in
set_option maxHeartbeats 2000000 in
theorem ref_const (w : World) : Calls Tryd.prog 42 #[] w fun e w' => e = .returned (.agg (cellsOf .u32 Bul.ks)) ∧ Below w.heap.size w w' := by
  go_enter Tryd.func42, Tryd.ntmps42
  go_wp2_with (first
    | (with_reducible refine wpList_alloc_zero rfl 83 rfl _ zero_w64 ?_)
    | (refine wpList_store_blk rfl 83 (.tmp 0) (.tmp 1) rfl w.heap.size rfl (cellsOf .u32 Bul.ks) rfl 83 (cellsOf .u32 (List.replicate 64 0)) 64 (Blk.new w _ _) size_w64 rfl (by simp) (vals_one _ _) rfl ?_; intro w5 hw5; have HW5 := Lib.hid hw5; clear hw5))
  exact bodyPost_ret (results_cell_row rfl _ _ w.heap.size _ _ _ _ rfl (by rw [HW5.out]; exact (Blk.new w _ _).row _) Tryd.underlying83 rfl (by rw [size_w64]; rfl)) rfl ⟨rfl, by rw [HW5.out]; exact below_setRow ((Below.refl _ _).alloc (Nat.le_refl _) _) (Nat.le_refl _) _⟩
end Go.Proofs.YtpigmibaeoceaaaDoor
namespace Go.Proofs.YtpigmibaeoceaaaDoor
open Go Go.RowKit Go.Bul
theorem zeros_on (bs : List Nat) (z : Nat) : (bs ++ 128 :: List.replicate z 0) ++ [0] = bs ++ 128 :: List.replicate (z + 1) 0 := by rw [List.append_assoc, zeros_more]
theorem be_on (bs : List Nat) (z q k : Nat) (hk : k < 8) : (bs ++ 128 :: (List.replicate z 0 ++ (be64 q).take k)) ++ [(be64 q).getD k 0] = bs ++ 128 :: (List.replicate z 0 ++ (be64 q).take (k + 1)) := by rw [List.append_assoc, be_more z q k hk]
set_option maxRecDepth 20000 in
set_option maxHeartbeats 1000000 in
theorem ref_padded (bs : List Nat) (A : Option Addr) (n c : Nat) (ok : Nat → Prop) (w : World) (hr : Rd w ok A n bs) (hn : n ≤ 1099511627776) :
    Calls Tryd.prog 43 #[.slice A n c] w fun e w' => (∃ A' N c', e = .returned (.slice A' N c') ∧ N = (padded bs).length ∧ N ≤ c' ∧ OwnB w' w.heap.size (.slice A' N c') (padded bs)) ∧ Below w.heap.size w w' := by
  have HR := Lib.hid hr
  have hlen := hr.len
  have hP : (bs ++ [128]).length = n + 1 := by simp [hlen]
  have HB := Lib.hid hr.bytes
  clear hr
  go_enter Tryd.func43, Tryd.ntmps43
  go_wp2_with (first
    | (refine wpList_append_bytes rfl (.tmp 6) (.tmp 7) 67 rfl Tryd.underlying67 w.heap.size _ [] rfl (OwnB.of_block (xs := []) (Blk.new w 5 (cellsOf .u8 [])) (Nat.le_refl _) (Nat.zero_le _)) ok A n c bs rfl (HR.out.kept ((Below.refl _ _).alloc (Nat.le_refl _) _)) bs rfl n hlen (by omega) (by simp) ?_; intro A1 c1 w1 hown1 hc1 hgrow1 hwhere1; have HG1 := Lib.hid hgrow1; have HO1 := Lib.hid hown1; clear hgrow1 hwhere1 hown1)
    | (refine wpList_append_bytes rfl (.tmp 8) (.tmp 9) 67 rfl Tryd.underlying67 w.heap.size _ bs rfl (HO1.out.alloc _) (fun _ => True) _ 1 1 [128] rfl (Rd.one w1 _ _ 128 128 rfl (by omega) trivial) (bs ++ [128]) rfl (n + 1) hP (by omega) (by have := HG1.out.size; simp at this ⊢; omega) ?_; intro A2 c2 w2 hown2 hc2 hgrow2 hwhere2; have HG2 := Lib.hid hgrow2; have HO2 := Lib.hid hown2; clear hgrow2 hwhere2 hown2))
  have B1 : Below w.heap.size w w1 := ((Below.refl _ _).alloc (Nat.le_refl _) _).grown HG1.out (by simp) (fun k hk => (OwnB.block_ge (OwnB.of_block (base := w.heap.size) (xs := []) (Blk.new w 5 (cellsOf .u8 [])) (Nat.le_refl _) (Nat.zero_le _)) hk).1)
  have B2 : Below w.heap.size w w2 := (B1.alloc B1.size _).grown HG2.out (by have := B1.size; simp; omega) (fun k hk => (HO1.out.block_ge hk).1)
  go_loopw [3] (fun v wr => ∃ (z N : Nat) (A : Option Addr) (c : Nat), N = n + 1 + z ∧ z ≤ (119 - n % 64) % 64 ∧ v = .slice A N c ∧ OwnB wr w.heap.size v (bs ++ 128 :: List.replicate z 0) ∧ Below w.heap.size w wr)
    (fun v _ => n + 100 - lenOf v)
  case atStart => exact ⟨0, n + 1, A2, c2, rfl, by omega, rfl, HO2.out, B2⟩
  case round =>
    clear B1 B2
    obtain ⟨z, N, A', c', hN, hz, rfl, hown, hold⟩ := hrel
    have hsz := hold.size
    have hL : (bs ++ 128 :: List.replicate z 0).length = N := by simp [hlen]; omega
    by_cases hlt : z < (119 - n % 64) % 64
    · have ht : ((N : Int) % 64 != 56) = true := by simp; omega
      have hN2 : N + 1 ≤ 140737488355328 := by omega
      have hL2 : (bs ++ 128 :: List.replicate (z + 1) 0).length = N + 1 := by simp [hlen]; omega
      have H := Lib.hid hN
      clear hN hL
      go_wp2_with (refine wpList_append_bytes rfl (.tmp 15) (.tmp 16) 67 rfl Tryd.underlying67 w.heap.size _ (bs ++ 128 :: List.replicate z 0) rfl (hown.alloc _) (fun _ => True) _ 1 1 [0] rfl (Rd.one wr _ _ 0 0 rfl (by omega) trivial) _ (zeros_on bs z) (N + 1) hL2 hN2 (by simp; omega) ?_; intro A3 c3 w3 hown3 hc3 hgrow3 hwhere3; have HG3 := Lib.hid hgrow3; have HO3 := Lib.hid hown3; clear hgrow3 hwhere3 hown3)
      have hN := H.out
      refine ⟨⟨z + 1, N + 1, A3, c3, by omega, by omega, rfl, HO3.out, (hold.alloc hsz _).grown HG3.out (by simp; omega) (fun k hk => (hown.block_ge hk).1)⟩, ?_⟩
      simp only [lenOf]; omega
    · have hz' : z = (119 - n % 64) % 64 := by omega
      have ht : ((N : Int) % 64 != 56) = false := by simp; omega
      have hzz : z < 64 := by omega
      obtain ⟨q, hq⟩ : ∃ q, q = 8 * n := ⟨_, rfl⟩
      have e8 : (n : Int) * (8 : Int) = (q : Int) := by omega
      have hq2 : q ≤ 8796093022208 := by omega
      have HZ := Lib.hid (And.intro hz' (And.intro hq hN))
      clear hz' hz hlt hq hN
      go_wp2_with fail
      obtain ⟨N0, hN0⟩ : ∃ N0, N0 = N := ⟨_, rfl⟩
      have hN2 : N ≤ 1099511628000 := by have := HZ.out.2.2; omega
      go_loopw [3, 5] (fun v i w2 => ∃ (k M : Nat) (A : Option Addr) (c : Nat), k ≤ 8 ∧ M = N + k ∧ i = .int .i64 ((7 : Int) - (k : Int)) ∧ v = .slice A M c ∧ OwnB w2 w.heap.size v (bs ++ 128 :: (List.replicate z 0 ++ (be64 q).take k)) ∧ Below w.heap.size w w2)
        (fun _ i _ => (intOf i + 1).toNat)
      case atStart => exact ⟨0, N, A', c', by omega, rfl, rfl, rfl, by simpa using hown, hold⟩
      case round =>
        clear hown hold hsz
        obtain ⟨k, M, A, c, hk, hM, rfl, rfl, hown, hold⟩ := hrel
        have hsz := hold.size
        by_cases hlt8 : k < 8
        · obtain ⟨x, hx⟩ : ∃ x, x = (be64 q).getD k 0 := ⟨_, rfl⟩
          obtain ⟨L, hLd⟩ : ∃ L, L = bs ++ 128 :: (List.replicate z 0 ++ (be64 q).take k) := ⟨_, rfl⟩
          obtain ⟨L2, hL2⟩ : ∃ L, L = bs ++ 128 :: (List.replicate z 0 ++ (be64 q).take (k + 1)) := ⟨_, rfl⟩
          have hmore : L ++ [x] = L2 := by rw [hLd, hL2, hx]; exact be_on bs z q k hlt8
          have hlen2 : L2.length = M + 1 := by
            have h0 := HZ.out.2.2
            rw [hL2]
            have : ((be64 q).take (k + 1)).length = k + 1 := by rw [List.length_take]; simp [be64]; omega
            simp only [List.length_cons, List.length_append, List.length_replicate, this, hlen]
            omega
          have hx2 : x < 256 := by
            rcases (show k = 0 ∨ k = 1 ∨ k = 2 ∨ k = 3 ∨ k = 4 ∨ k = 5 ∨ k = 6 ∨ k = 7 by omega) with rfl | rfl | rfl | rfl | rfl | rfl | rfl | rfl <;> simp [hx, be64] <;> omega
          have hM2 : M + 1 ≤ 140737488355328 := by omega
          rw [← hLd] at hown
          obtain ⟨k1, hk1⟩ : ∃ k1, k1 = k + 1 := ⟨_, rfl⟩
          rw [← hk1] at hL2
          have G := Lib.hid (And.intro hM (And.intro hLd hL2))
          clear hM hLd hL2
          rcases (show k = 0 ∨ k = 1 ∨ k = 2 ∨ k = 3 ∨ k = 4 ∨ k = 5 ∨ k = 6 ∨ k = 7 by omega) with rfl | rfl | rfl | rfl | rfl | rfl | rfl | rfl
          all_goals
            have HX := Lib.hid hx
            clear hx
            go_wp2_with (refine wpList_append_bytes rfl (.tmp 26) (.tmp 32) 67 rfl Tryd.underlying67 w.heap.size _ L rfl (hown.alloc _) (fun _ => True) _ 1 1 [x] rfl (Rd.one wr _ _ x _ (by rw [HX.out]; simp [be64] <;> omega) hx2 trivial) L2 hmore (M + 1) hlen2 hM2 (by simp; omega) ?_; intro A' c' w' hown' hc' hgrow hwhere; have hgrow' := Lib.hid hgrow; have hown2 := Lib.hid hown'; clear hgrow hwhere hown')
            obtain ⟨hM, hLd, hL2⟩ := G.out
            refine ⟨⟨k1, M + 1, A', c', by omega, by omega, by rw [hk1]; rfl, rfl, by rw [← hL2]; exact hown2.out, (hold.alloc hsz _).grown hgrow'.out (by simp; omega) (fun k hk => (hown.block_ge hk).1)⟩, by simp [intOf]⟩
        · obtain rfl : k = 8 := by omega
          obtain ⟨hz, hq, hN⟩ := HZ.out
          have hp : bs ++ 128 :: (List.replicate z 0 ++ (be64 q).take 8) = padded bs := by
            rw [padded, hlen, pad_length n z hz, ← hq]
          rw [hp] at hown
          have hML : M = (padded bs).length := by
            rw [← hp, hM, hN]
            have : ((be64 q).take 8).length = 8 := by simp [be64]
            simp only [List.length_cons, List.length_append, List.length_replicate, this, hlen]
            omega
          have HM := Lib.hid hML
          obtain ⟨_, _, he, hc, _⟩ := own_form hown
          injection he with _ he6 he7
          have HO := Lib.hid hown
          clear hz hq hN hp hML hown hM hlt8 hk
          go_wp2_with fail
          go_ret
          exact ⟨⟨A, M, c, rfl, HM.out, by omega, HO.out⟩, hold⟩
end Go.Proofs.YtpigmibaeoceaaaDoor
