/- Contracts of (*sha256.Hash).Sum, New. Conditions: fewer than 2^40 bytes; the table of constants lies in its variable. Contracts of sha256.Sum, SumHalf. -/
import Derived.Test.YtpigmibaeoceaaaDoorApp
import Derived.Test.YtpigmibaeoceaaaDoorWrite
import Derived.Laws.Cover3
namespace Go.Proofs.YtpigmibaeoceaaaDoor
open Go Go.RowKit Go.Bul
theorem zero_hash : (Tryd.prog.info? 99).map (·.zero) = some (some (.agg (hashc ⟨0, 0, 0, 0, 0, 0, 0, 0⟩ (List.replicate 64 0) 0))) := by kernel_rfl
theorem tab_lt {w : World} (h : Tab w) : 0 < w.heap.size := by
  rcases Nat.lt_or_ge 0 w.heap.size with h' | h'
  · exact h'
  · have h0 := h 0 (by omega)
    simp [World.cell?, Array.getElem?_eq_none h'] at h0
theorem HashAt.fresh (w : World) : HashAt (w.alloc (.cells (hashc ⟨0, 0, 0, 0, 0, 0, 0, 0⟩ (List.replicate 64 0) 0) 99)) w.heap.size [] :=
  ⟨Bytes.nil, by simp, _, _, Blk.new _ _ _, by simp, bytes_rep _, by simp [rest], fun h => absurd rfl h⟩
theorem new_any (w : World) : Calls Tryd.prog 47 #[] w fun e w' => e = .returned (.pointer (some ⟨w.heap.size, 0, none⟩)) ∧ HashAt w' w.heap.size [] ∧ Below w.heap.size w w' := by
  go_enter Tryd.func47, Tryd.ntmps47
  go_wp2_with (with_reducible refine wpList_alloc_zero rfl 99 rfl _ zero_hash ?_)
  go_ret
  exact ⟨rfl, HashAt.fresh w, (Below.refl _ _).alloc (Nat.le_refl _) _⟩
theorem zeros_more (z : Nat) : 128 :: List.replicate (z + 1) 0 = (128 :: List.replicate z 0) ++ [0] := by rw [List.replicate_succ']; rfl
theorem be_more (z c k : Nat) (hk : k < 8) : (128 :: (List.replicate z 0 ++ (be64 c).take k)) ++ [(be64 c).getD k 0] = 128 :: (List.replicate z 0 ++ (be64 c).take (k + 1)) := by
  rcases (show k = 0 ∨ k = 1 ∨ k = 2 ∨ k = 3 ∨ k = 4 ∨ k = 5 ∨ k = 6 ∨ k = 7 by omega) with rfl | rfl | rfl | rfl | rfl | rfl | rfl | rfl <;> simp [be64]
theorem pad_length (n z : Nat) (hz : z = (119 - n % 64) % 64) : padding n = 128 :: (List.replicate z 0 ++ (be64 (8 * n)).take 8) := by
  rw [padding, hz]
  congr 2
set_option maxRecDepth 20000 in
set_option maxHeartbeats 1000000 in
theorem sumh_any (g : Nat) (l : List Nat) (w : World) (hh : HashAt w g l) (hl : l.length ≤ 1099511627776) (hT : Tab w) :
    Calls Tryd.prog 49 #[.pointer (some ⟨g, 0, none⟩)] w fun e w' => e = .returned (.agg (cellsOf .u8 (sha l))) ∧ Below w.heap.size w w' := by
  obtain ⟨st, blk, hB, hblk, hbb, htk, hst⟩ := hh.ex
  have hlen := hashc_len st blk l.length hblk
  rw [← hB.cell] at hlen
  obtain ⟨n, hn⟩ : ∃ n, n = l.length := ⟨_, rfl⟩
  rw [← hn] at hlen hB hl
  have hlt := hB.lt
  have HT := Lib.hid hT
  have HH := Lib.hid hh
  have H := Lib.hid (And.intro hn (And.intro hst (And.intro htk hblk)))
  clear hT hh hn hst htk hblk
  go_enter Tryd.func49, Tryd.ntmps49
  go_wp2_with (first
    | (with_reducible refine wpList_alloc_zero rfl 88 rfl _ zero_dig ?_))
  go_loopw [3] (fun v wr => ∃ (z : Nat) (A : Option Addr) (c : Nat), z ≤ (119 - n % 64) % 64 ∧ v = .slice A (z + 1) c ∧ OwnB wr (w.heap.size + 1) v (128 :: List.replicate z 0) ∧ Blk wr w.heap.size 88 (cellsOf .u8 (List.replicate 32 0)) ∧ Below w.heap.size w wr)
    (fun v _ => 100 - lenOf v)
  case atStart =>
    refine ⟨0, _, _, by omega, rfl, ?_, ?_, ?_⟩
    · have := OwnB.of_block (base := w.heap.size + 1) (xs := [128]) (Blk.new' (w.alloc (.cells (cellsOf .u8 (List.replicate 32 0)) 88)) 5 _ (w.heap.size + 1) (by simp)) (Nat.le_refl _) (by unfold maxLen; simp)
      exact this
    · exact (Blk.new w _ _).alloc _
    · exact ((Below.refl _ _).alloc (Nat.le_refl _) _).alloc (by simp) _
  case round =>
    obtain ⟨z, A, c, hz, rfl, hown, hres, hold⟩ := hrel
    have c72 : wr.cell? ⟨g, 72, none⟩ = some (.int .i64 (n : Nat)) := by rw [hold.cell (p := ⟨g, 72, none⟩) hlt]; exact hlen
    have hsz := hold.size
    have hrl := hres.lt
    by_cases hlt : z < (119 - n % 64) % 64
    · have ht : (((n : Int) + ((z : Int) + 1)) % 64 != 56) = true := by simp; omega
      go_wp2_with (refine wpList_append_bytes rfl (.tmp 20) (.tmp 21) 67 rfl Tryd.underlying67 (w.heap.size + 1) _ (128 :: List.replicate z 0) rfl (hown.alloc _) (fun _ => True) _ 1 1 [0] rfl (Rd.one wr _ _ 0 0 rfl (by omega) trivial) _ (zeros_more z).symm (z + 1 + 1) (by simp) (by omega) (by simp; omega) ?_; intro A' c' w' hown' hc' hgrow hwhere; have hgrow' := Lib.hid hgrow; have hown2 := Lib.hid hown'; clear hgrow hwhere hown')
      go_roundw
      case measure => simp only [lenOf]; omega
      case rel =>
        refine ⟨z + 1, A', c', by omega, rfl, hown2.out, ?_, ?_⟩
        · refine (hgrow'.out.block _ (by simp; omega) ?_).trans (hres.alloc _)
          intro he
          have := hown.block_ge he.symm
          omega
        · refine (hold.alloc hsz _).grown hgrow'.out (by simp; omega) (fun k hk => ?_)
          have := hown.block_ge hk
          omega
    · have hz' : z = (119 - n % 64) % 64 := by omega
      have ht : (((n : Int) + ((z : Int) + 1)) % 64 != 56) = false := by simp; omega
      have hzz : z < 64 := by omega
      have HZ := Lib.hid hz'
      clear hz' hz hlt
      have hn8 : ((8 : Int) * (n : Int)) % 18446744073709551616 = ((8 * n : Nat) : Int) := by omega
      go_wp2_with fail
      obtain ⟨q, hq⟩ : ∃ q, q = 8 * n := ⟨_, rfl⟩
      have e8 : (8 : Int) * (n : Int) = (q : Int) := by omega
      rw [e8]
      have hq2 : q ≤ 8796093022208 := by omega
      have HQ := Lib.hid hq
      clear hq e8 ht c72 hn8
      go_loopw [3, 29] (fun v i w2 => ∃ (k : Nat) (A : Option Addr) (c : Nat), k ≤ 8 ∧ i = .int .i64 (k : Nat) ∧ v = .slice A (z + 1 + k) c ∧ OwnB w2 (w.heap.size + 1) v (128 :: (List.replicate z 0 ++ (be64 q).take k)) ∧ Blk w2 w.heap.size 88 (cellsOf .u8 (List.replicate 32 0)) ∧ Below w.heap.size w w2)
        (fun _ i _ => 8 - (intOf i).toNat)
      case atStart => exact ⟨0, A, c, by omega, rfl, rfl, by simpa using hown, hres, hold⟩
      case round =>
        clear hown hres hold hsz hrl
        obtain ⟨k, A, c, hk, rfl, rfl, hown, hres, hold⟩ := hrel
        have hsz := hold.size
        have hrl := hres.lt
        by_cases hlt8 : k < 8
        · obtain ⟨x, hx⟩ : ∃ x, x = (be64 q).getD k 0 := ⟨_, rfl⟩
          obtain ⟨N, hN⟩ : ∃ N, N = z + 1 + k := ⟨_, rfl⟩
          obtain ⟨L, hL⟩ : ∃ L, L = 128 :: (List.replicate z 0 ++ (be64 q).take k) := ⟨_, rfl⟩
          obtain ⟨L2, hL2⟩ : ∃ L, L = 128 :: (List.replicate z 0 ++ (be64 q).take (k + 1)) := ⟨_, rfl⟩
          have hmore : L ++ [x] = L2 := by rw [hL, hL2, hx]; exact be_more z q k hlt8
          have hlen2 : L2.length = N + 1 := by
            rw [hL2, hN]
            have : ((be64 q).take (k + 1)).length = k + 1 := by rw [List.length_take]; simp [be64]; omega
            simp only [List.length_cons, List.length_append, List.length_replicate, this]
            omega
          have hx2 : x < 256 := by
            rcases (show k = 0 ∨ k = 1 ∨ k = 2 ∨ k = 3 ∨ k = 4 ∨ k = 5 ∨ k = 6 ∨ k = 7 by omega) with rfl | rfl | rfl | rfl | rfl | rfl | rfl | rfl <;> simp [hx, be64] <;> omega
          have hN2 : N < 1000 := by omega
          rw [← hN] at hown ⊢
          rw [← hL] at hown
          obtain ⟨k1, hk1⟩ : ∃ k1, k1 = k + 1 := ⟨_, rfl⟩
          rw [← hk1] at hL2
          have G := Lib.hid (And.intro hN (And.intro hL hL2))
          clear hN hL hL2
          rcases (show k = 0 ∨ k = 1 ∨ k = 2 ∨ k = 3 ∨ k = 4 ∨ k = 5 ∨ k = 6 ∨ k = 7 by omega) with rfl | rfl | rfl | rfl | rfl | rfl | rfl | rfl
          all_goals
            have HX := Lib.hid hx
            clear hx
            go_wp2_with (refine wpList_append_bytes rfl (.tmp 32) (.tmp 39) 67 rfl Tryd.underlying67 (w.heap.size + 1) _ L rfl (hown.alloc _) (fun _ => True) _ 1 1 [x] rfl (Rd.one wr _ _ x _ (by rw [HX.out]; simp [be64] <;> omega) hx2 trivial) L2 hmore (N + 1) hlen2 (by omega) (by simp; omega) ?_; intro A' c' w' hown' hc' hgrow hwhere; have hgrow' := Lib.hid hgrow; have hown2 := Lib.hid hown'; clear hgrow hwhere hown')
            obtain ⟨hN, hL, hL2⟩ := G.out
            refine ⟨⟨k1, A', c', ?_, by rw [hk1]; rfl, ?_, by rw [← hL2]; exact hown2.out, ?_, ?_⟩, ?_⟩
            · omega
            · rw [hN, hk1]
            · refine (hgrow'.out.block _ (by simp; omega) ?_).trans (hres.alloc _)
              intro he
              have := hown.block_ge he.symm
              omega
            · refine (hold.alloc hsz _).grown hgrow'.out (by simp; omega) (fun k hk => ?_)
              have := hown.block_ge hk
              omega
            · simp [intOf]
        · obtain rfl : k = 8 := by omega
          obtain ⟨hn, hst, htk, hblk⟩ := H.out
          have hQ := HQ.out
          have hZ := HZ.out
          obtain ⟨L, hL⟩ : ∃ L, L = padding n := ⟨_, rfl⟩
          have hpad := pad_length n z hZ
          rw [← hQ, ← hL] at hpad
          rw [← hpad] at hown
          obtain ⟨N, hN⟩ : ∃ N, N = z + 1 + 8 := ⟨_, rfl⟩
          have hBr := hB.below hold hlt
          have hsz73 := hashc_size st blk n hblk
          rw [← hN] at hown ⊢
          clear hlt8 hk
          have hLl : N = L.length := by
            rw [hpad, hN]
            have : ((be64 q).take 8).length = 8 := by simp [be64]
            simp only [List.length_cons, List.length_append, List.length_replicate, this]
          have hN2 : N < 100 := by omega
          have hLb : Bytes L := by rw [hL]; exact bytes_padding n
          have G := Lib.hid (And.intro hL (And.intro hLl (And.intro hblk (And.intro hn (And.intro hst htk)))))
          clear hn hst htk hblk hQ hZ hpad hN hL hLl HQ HZ
          go_wp2_with (first
            | (with_reducible refine wpList_alloc_zero rfl 99 rfl _ zero_hash ?_)
            | (refine wpList_load_blk rfl 99 (.tmp 43) rfl g rfl 99 (hashc st blk n) 73 _ hBr Tryd.underlying99 rfl size_hash hsz73 ?_)
            | (refine wpList_store_blk rfl 99 (.tmp 6) (.tmp 44) rfl wr.heap.size rfl (hashc st blk n) rfl 99 (hashc ⟨0, 0, 0, 0, 0, 0, 0, 0⟩ (List.replicate 64 0) 0) 73 (Blk.new wr _ _) size_hash hsz73 (hashc_size _ _ _ (by simp)) (hashc_one _ _ _) rfl ?_; intro w2 hw2; have HW := Lib.hid hw2; clear hw2))
          obtain ⟨hL, hLl, hblk, hn, hst, htk⟩ := G.out
          obtain ⟨hrd, hNc⟩ := hown.rd hLl hLb
          have hw2 := HW.out
          have kB : Below w.heap.size w w2 := by rw [hw2]; exact below_setRow (hold.alloc hsz _) hsz _
          have kB2 : Below wr.heap.size wr w2 := by rw [hw2]; exact below_setRow ((Below.refl _ _).alloc (Nat.le_refl _) _) (Nat.le_refl _) _
          have kR : Rd w2 (· ≠ wr.heap.size) A N L := (hrd.imp (ok' := (· ≠ wr.heap.size)) (fun b hb _ => by omega)).kept kB2
          have kH : HashAt w2 wr.heap.size l := ⟨HH.out.bytes, HH.out.size, st, blk, by rw [← hn, hw2]; exact (Blk.new wr _ _).row _, hblk, hbb, htk, hst⟩
          have hlL : (l ++ L) = padded l := by rw [hL, hn]; rfl
          have kT : Tab w2 := HT.out.keep kB
          have hg0 := tab_lt HT.out
          (with_reducible refine (write_any wr.heap.size l L A N c w2 kH kR hNc (by omega) kT (by omega)).mono ?_)
          rintro e w3 ⟨rfl, hH3, hO3⟩
          rw [hlL] at hH3
          obtain ⟨st3, blk3, hB3, hblk3, _, _, hst3⟩ := hH3.ex
          have hst3 := hst3 (by rw [← hlL]; intro h0; have := congrArg List.length h0; simp at this; rw [hL] at this; simp [padding] at this)
          subst hst3
          have hres3 : Blk w3 w.heap.size 88 (cellsOf .u8 (List.replicate 32 0)) := (hres.kept kB2).only hO3 (by omega)
          have kB3 : Below w.heap.size w w3 := kB.trans (hO3.to_below' hsz (by rw [hw2]; simp; omega))
          have hOk := after_ok (padded l)
          have hsd := sha_after l
          obtain ⟨M, hM⟩ : ∃ M, M = (padded l).length := ⟨_, rfl⟩
          obtain ⟨S, hS⟩ : ∃ S, S = after (padded l) := ⟨_, rfl⟩
          rw [← hM] at hB3
          rw [← hS] at hB3 hOk hsd
          have HSD := Lib.hid hsd
          have hsz3 := hashc_size S blk3 M hblk3
          clear hL hLl hblk hn hst htk hblk3 hM hS hlL hsd hst3 hH3
          go_wp2_with (first
            | (refine wpList_load_part rfl 96 (.tmp 47) rfl wr.heap.size 0 rfl 99 (hashc S blk3 M) 8 _ hB3 Tryd.underlying96 rfl size_words (by rw [hsz3]; omega) _ (hashc_state8 _ _ _) ?_))
          have hdg := digest_any S w3 hOk
          rw [show stv S = .agg (stc S) from rfl] at hdg
          (with_reducible refine hdg.mono ?_)
          rintro e w4 ⟨rfl, hb4⟩
          have hres4 := hres3.kept hb4
          have kB4 : Below w.heap.size w w4 := Below.step kB3 hb4
          go_wp2_with (first
            | (refine wpList_store_blk rfl 88 (.tmp 2) (.tmp 49) rfl w.heap.size rfl (cellsOf .u8 S.out) rfl 88 (cellsOf .u8 (List.replicate 32 0)) 32 hres4 size_dig (by simp [Bul.out_length]) (by simp) (vals_one _ _) rfl ?_; intro w5 hw5; have HW5 := Lib.hid hw5; clear hw5))
          exact bodyPost_ret (results_cell_row rfl _ _ w.heap.size _ _ _ _ rfl (by rw [HW5.out]; exact hres4.row _) Tryd.underlying88 rfl (by rw [size_dig]; simp [Bul.out_length])) rfl ⟨by rw [HSD.out], by rw [HW5.out]; exact below_setRow kB4 (Nat.le_refl _) _⟩
end Go.Proofs.YtpigmibaeoceaaaDoor
namespace Go.Proofs.YtpigmibaeoceaaaDoor
open Go Go.RowKit Go.Bul
theorem Tab.lt {w : World} (h : Tab w) : 0 < w.heap.size := by
  rcases Nat.lt_or_ge 0 w.heap.size with h' | h'
  · exact h'
  · have h0 := h 0 (by omega)
    simp [World.cell?, Array.getElem?_eq_none h'] at h0
theorem sum_any (bs : List Nat) (A : Option Addr) (n c : Nat) (ok : Nat → Prop) (w : World) (hr : Rd w ok A n bs) (hn : n ≤ c) (hl : n ≤ 1099511627776) (hT : Tab w) :
    Calls Tryd.prog 46 #[.slice A n c] w fun e w' => e = .returned (.agg (cellsOf .u8 (sha bs))) ∧ Below w.heap.size w w' := by
  have hw := hT.lt
  have HR := Lib.hid hr
  have HT := Lib.hid hT
  clear hr hT
  go_enter Tryd.func46, Tryd.ntmps46
  go_wp2_with (first
    | (with_reducible refine wpList_alloc_zero rfl 88 rfl _ zero_dig ?_))
  (with_reducible refine (new_any _).mono ?_)
  rintro e w1 ⟨rfl, hh1, hb1⟩
  have hsz1 := hb1.size
  rw [World.size_alloc] at hh1
  rw [World.size_alloc] at hsz1
  have k1 : Below w.heap.size w w1 := Below.trans ((Below.refl _ _).alloc (Nat.le_refl _) _) (hb1.mono (by simp))
  have r1 : Rd w1 (· ≠ w.heap.size + 1) A n bs := (HR.out.imp (ok' := (· ≠ w.heap.size + 1)) (fun b hb _ => by omega)).kept k1
  have d1 : Blk w1 w.heap.size 88 (cellsOf .u8 (List.replicate 32 0)) := (Blk.new w _ _).kept hb1
  go_wp2_with fail
  (with_reducible refine (write_any (w.heap.size + 1) [] bs A n c w1 hh1 r1 hn (by simp; omega) (HT.out.keep k1) (by omega)).mono ?_)
  rintro e w2 ⟨rfl, hh2, ho2⟩
  rw [List.nil_append] at hh2
  have hsz2 := ho2.size
  have k2 : Below w.heap.size w w2 := k1.trans (ho2.to_below' (by omega) (by omega))
  have d2 : Blk w2 w.heap.size 88 (cellsOf .u8 (List.replicate 32 0)) := d1.only ho2 (by omega)
  go_wp2_with fail
  (with_reducible refine (sumh_any (w.heap.size + 1) bs w2 hh2 (by rw [HR.out.len]; exact hl) (HT.out.keep k2)).mono ?_)
  rintro e w3 ⟨rfl, hb3⟩
  have d3 := d2.kept hb3
  have k3 : Below w.heap.size w w3 := Below.step k2 hb3
  go_wp2_with (first
    | (refine wpList_store_blk rfl 88 (.tmp 2) (.tmp 9) rfl w.heap.size rfl (cellsOf .u8 (sha bs)) rfl 88 (cellsOf .u8 (List.replicate 32 0)) 32 d3 size_dig (by simp [sha_length]) (by simp) (vals_one _ _) rfl ?_; intro w5 hw5; have HW5 := Lib.hid hw5; clear hw5))
  exact bodyPost_ret (results_cell_row rfl _ _ w.heap.size _ _ _ _ rfl (by rw [HW5.out]; exact d3.row _) Tryd.underlying88 rfl (by rw [size_dig]; simp [sha_length])) rfl ⟨rfl, by rw [HW5.out]; exact below_setRow k3 (Nat.le_refl _) _⟩
theorem zero_half : (Tryd.prog.info? 79).map (·.zero) = some (some (.agg (cellsOf .u8 (List.replicate 16 0)))) := by kernel_rfl
theorem size_half : (Tryd.prog.info? 79).map (·.size) = some 16 := by kernel_rfl
theorem half_any (bs : List Nat) (A : Option Addr) (n c : Nat) (ok : Nat → Prop) (w : World) (hr : Rd w ok A n bs) (hn : n ≤ c) (hl : n ≤ 1099511627776) (hT : Tab w) :
    Calls Tryd.prog 41 #[.slice A n c] w fun e w' => e = .returned (.agg (cellsOf .u8 (half bs))) ∧ Below w.heap.size w w' := by
  have hw := hT.lt
  have HR := Lib.hid hr
  have HT := Lib.hid hT
  clear hr hT
  go_enter Tryd.func41, Tryd.ntmps41
  go_wp2_with (first
    | (with_reducible refine wpList_alloc_zero rfl 79 rfl _ zero_half ?_))
  (with_reducible refine (sum_any bs A n c ok _ (HR.out.kept ((Below.refl _ _).alloc (Nat.le_refl _) _)) hn hl (HT.out.keep ((Below.refl _ _).alloc (Nat.le_refl _) _))).mono ?_)
  rintro e w1 ⟨rfl, hb1⟩
  have hsz1 := hb1.size
  rw [World.size_alloc] at hsz1
  have k1 : Below w.heap.size w w1 := Below.trans ((Below.refl _ _).alloc (Nat.le_refl _) _) (hb1.mono (by simp))
  have d1 : Blk w1 w.heap.size 79 (cellsOf .u8 (List.replicate 16 0)) := (Blk.new w _ _).kept hb1
  have ha := fun W => run_arrayAt (P := Tryd.prog) W 79 5 16 (some ⟨w1.heap.size, 0, none⟩) 16 32 Tryd.underlying79 (by omega)
  go_wp2_with (first
    | (with_reducible refine wpList_alloc_zero rfl 88 rfl _ zero_dig ?_)
    | (refine wpList_load_part rfl 79 (.tmp 7) rfl w1.heap.size 0 rfl 88 (cellsOf .u8 (sha bs)) 16 _ (by rw [HW2.out]; exact (Blk.new w1 _ _).row _) Tryd.underlying79 rfl size_half (by simp [sha_length]) (cellsOf .u8 (half bs)) (by simp [cellsOf, vals, half]) ?_)
    | (refine wpList_store_blk rfl 79 (.tmp 2) (.tmp 8) rfl w.heap.size rfl (cellsOf .u8 (half bs)) rfl 79 (cellsOf .u8 (List.replicate 16 0)) 16 (by rw [HW2.out]; exact (d1.alloc _).rowFar (by omega) _) size_half (by simp [half_length]) (by simp) (vals_one _ _) rfl ?_; intro w5 hw5; have HW5 := Lib.hid hw5; clear hw5)
    | (refine wpList_store_blk rfl 88 (.tmp 3) (.tmp 5) rfl w1.heap.size rfl (cellsOf .u8 (sha bs)) rfl 88 (cellsOf .u8 (List.replicate 32 0)) 32 (Blk.new w1 _ _) size_dig (by simp [sha_length]) (by simp) (vals_one _ _) rfl ?_; intro w2 hw2; have HW2 := Lib.hid hw2; clear hw2))
  have d2 : Blk w2 w.heap.size 79 (cellsOf .u8 (List.replicate 16 0)) := by rw [HW2.out]; exact (d1.alloc _).rowFar (by omega) _
  have k2 : Below w.heap.size w w2 := by rw [HW2.out]; exact below_setRow (k1.alloc (by omega) _) (by omega) _
  exact bodyPost_ret (results_cell_row rfl _ _ w.heap.size _ _ _ _ rfl (by rw [HW5.out]; exact d2.row _) Tryd.underlying79 rfl (by rw [size_half]; simp [half_length])) rfl ⟨rfl, by rw [HW5.out]; exact below_setRow k2 (Nat.le_refl _) _⟩
end Go.Proofs.YtpigmibaeoceaaaDoor
