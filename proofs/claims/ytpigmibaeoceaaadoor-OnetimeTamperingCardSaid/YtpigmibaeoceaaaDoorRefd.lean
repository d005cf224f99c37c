/- Contract of the reference's Sum. Condition: fewer than 2^40 bytes. -/
import Derived.Test.YtpigmibaeoceaaaDoorRefc
namespace Go.Proofs.YtpigmibaeoceaaaDoor
open Go Go.RowKit Go.Bul
theorem size_w8' : (Tryd.prog.info? 82).map (·.size) = some 8 := by kernel_rfl
theorem zero_w8' : (Tryd.prog.info? 82).map (·.zero) = some (some (.agg (cellsOf .u32 (List.replicate 8 0)))) := by kernel_rfl
theorem zero_b32 : (Tryd.prog.info? 41).map (·.zero) = some (some (.agg (cellsOf .u8 (List.replicate 32 0)))) := by kernel_rfl
theorem size_b32 : (Tryd.prog.info? 41).map (·.size) = some 32 := by kernel_rfl
theorem set8_size (w : World) (g : Nat) (v : Bul.St) : w.heap.size ≤ (set8 w g v).heap.size :=
  (set8_below (B := 0) v (Below.refl 0 w) (Nat.zero_le _)).size
theorem set8_other (w : World) (g b : Nat) (v : Bul.St) (h : b ≠ g) : (set8 w g v).heap[b]? = w.heap[b]? := by
  unfold set8
  repeat rw [Below.heap_setCell _ _ _ _ (by exact h)]
/-- What the reference's variables hold between the blocks. -/
structure RefInv (w : World) (at0 : World) (P : List Nat) (N : Nat) (A : Option Addr) (b : Nat) (h : Bul.St) (wr : World) : Prop where
  hh : Blk wr (w.heap.size + 1) 82 (stc h)
  kk : Blk wr at0.heap.size 83 (cellsOf .u32 Bul.ks)
  pp : Rd wr (fun g => w.heap.size ≤ g) A N P
  old : Below w.heap.size w wr
theorem after_block (P : List Nat) (b : Nat) (h : 64 * b + 64 ≤ P.length) : after (P.take (64 * (b + 1))) = compress (after (P.take (64 * b))) (word ((P.drop (64 * b)).take 64)) := by
  have h1 : (P.take (64 * b)).length = 64 * b := by rw [List.length_take]; omega
  have h2 : ((P.drop (64 * b)).take 64).length = 64 := by rw [List.length_take, List.length_drop]; omega
  have h3 : rest (P.take (64 * b)) = [] := List.eq_nil_of_length_eq_zero (by rw [rest_length, h1]; omega)
  have h4 := (after_full (l := P.take (64 * b)) (b := (P.drop (64 * b)).take 64) (by rw [h1, h2]; omega)).1
  rw [h3, List.nil_append, ← take_more] at h4
  rw [show 64 * (b + 1) = 64 * b + 64 by omega]
  exact h4
/-- Between the rounds of a block. -/
structure InnerInv (w : World) (G4 G7 G8 B2 : Nat) (K0 WL z P : List Nat) (ad : Addr) (N : Nat) (h0 : Bul.St) (m : Nat → Nat) (t : Nat) (wr : World) : Prop where
  v : Blk wr G8 82 (stc (Bul.stAt m h0 t))
  h : Blk wr (w.heap.size + 1) 82 (stc h0)
  k : Blk wr G4 83 (cellsOf .u32 K0)
  wl : Blk wr G7 83 (cellsOf .u32 WL)
  p : Rd wr (fun g => B2 ≤ g ∧ g < G7) (some ad) N P
  r : Blk wr w.heap.size 41 (cellsOf .u8 z)
  old : Below w.heap.size w wr
theorem InnerInv.next {w : World} {G4 G7 G8 B2 : Nat} {K0 WL z P : List Nat} {ad : Addr} {N : Nat} {h0 : Bul.St} {m : Nat → Nat} {t : Nat} {wr w8 : World} (hI : InnerInv w G4 G7 G8 B2 K0 WL z P ad N h0 m t wr) (hb : Below wr.heap.size wr w8)
    (h1 : w.heap.size + 1 < G8) (h4 : G4 < G8) (h7 : G7 < G8) (a b c d e f g h : Nat) (hv : (⟨a, b, c, d, e, f, g, h⟩ : Bul.St) = Bul.stAt m h0 (t + 1)) :
    InnerInv w G4 G7 G8 B2 K0 WL z P ad N h0 m (t + 1) ((((((((w8.setCell ⟨G8, 0, none⟩ (.int .u32 (a : Nat))).setCell ⟨G8, 1, none⟩ (.int .u32 (b : Nat))).setCell ⟨G8, 2, none⟩ (.int .u32 (c : Nat))).setCell ⟨G8, 3, none⟩ (.int .u32 (d : Nat))).setCell ⟨G8, 4, none⟩ (.int .u32 (e : Nat))).setCell ⟨G8, 5, none⟩ (.int .u32 (f : Nat))).setCell ⟨G8, 6, none⟩ (.int .u32 (g : Nat))).setCell ⟨G8, 7, none⟩ (.int .u32 (h : Nat))) := by
  have key : InnerInv w G4 G7 G8 B2 K0 WL z P ad N h0 m (t + 1) (set8 w8 G8 ⟨a, b, c, d, e, f, g, h⟩) := by
    refine ⟨?_, set8_far _ (hI.h.kept hb) (by omega), set8_far _ (hI.k.kept hb) (by omega), set8_far _ (hI.wl.kept hb) (by omega), ?_, set8_far _ (hI.r.kept hb) (by omega), set8_below _ (Below.step hI.old hb) (by omega)⟩
    · have := set8_blk (⟨a, b, c, d, e, f, g, h⟩ : Bul.St) (hI.v.kept hb) rfl
      rwa [hv] at this ⊢
    · exact (hI.p.kept hb).keep (set8_size _ _ _) (fun g h1 _ => set8_other _ _ _ _ (by omega))
  exact key
/-- Between the sums of the words of two states. -/
structure AddInv (w : World) (G4 G8 B2 G7 : Nat) (K0 z P : List Nat) (ad : Addr) (N : Nat) (h0 v : Bul.St) (j : Nat) (wr : World) : Prop where
  h : ∃ l : List Nat, l.length = 8 ∧ (∀ k, k < 8 → l.getD k 0 = if k < j then add32 (h0.list.getD k 0) (v.list.getD k 0) else h0.list.getD k 0) ∧ Blk wr (w.heap.size + 1) 82 (cellsOf .u32 l)
  v : Blk wr G8 82 (stc v)
  k : Blk wr G4 83 (cellsOf .u32 K0)
  p : Rd wr (fun g => B2 ≤ g ∧ g < G7) (some ad) N P
  r : Blk wr w.heap.size 41 (cellsOf .u8 z)
  old : Below w.heap.size w wr
theorem AddInv.next {w : World} {G4 G8 B2 G7 : Nat} {K0 z P : List Nat} {ad : Addr} {N : Nat} {h0 v : Bul.St} {j : Nat} {wr : World} (h : AddInv w G4 G8 B2 G7 K0 z P ad N h0 v j wr) (hj : j < 8)
    (h4 : w.heap.size + 1 ≠ G4) (h8 : w.heap.size + 1 ≠ G8) (h2 : w.heap.size + 1 < B2) :
    AddInv w G4 G8 B2 G7 K0 z P ad N h0 v (j + 1) (wr.setCell ⟨w.heap.size + 1, j, none⟩ (.int .u32 (add32 (h0.list.getD j 0) (v.list.getD j 0) : Nat))).drew := by
  obtain ⟨⟨l, hl, hlk, hB⟩, hv, hk, hp, hr, hold⟩ := h
  refine ⟨⟨l.set j (add32 (h0.list.getD j 0) (v.list.getD j 0)), by simp [hl], fun k hk => ?_, ?_⟩, (hv.far (by dsimp only; omega) _).drew, (hk.far (by dsimp only; omega) _).drew, ?_, (hr.far (by dsimp only; omega) _).drew, (hold.setCell (by simp) _).drew⟩
  · rw [getD_set _ _ _ _ (by omega)]
    split
    · rename_i he; subst he; rw [if_pos (by omega)]
    · rename_i he; rw [hlk k hk]; simp only [show k < j + 1 ↔ k < j by omega]
  · rw [← cellsOf_set]
    exact (hB.set _ _).drew
  · exact hp.keep (by simp [World.setCell]) fun b hb _ => Below.heap_setCell _ _ _ _ (by dsimp only; omega)
theorem AddInv.done {w : World} {G4 G8 B2 G7 : Nat} {K0 z P : List Nat} {ad : Addr} {N : Nat} {h0 v : Bul.St} {wr : World} (h : AddInv w G4 G8 B2 G7 K0 z P ad N h0 v 8 wr) :
    Blk wr (w.heap.size + 1) 82 (stc (plus h0 v)) := by
  obtain ⟨⟨l, hl, hlk, hB⟩, _⟩ := h
  have : l = (plus h0 v).list := by
    refine List.ext_getElem (by rw [hl]; rfl) (fun i h1 h2 => ?_)
    have h3 := hlk i (by omega)
    rw [if_pos (by omega)] at h3
    simp only [List.getD, List.getElem?_eq_getElem h1, Option.getD_some] at h3
    rw [h3]
    rw [hl] at h1
    rcases (show i = 0 ∨ i = 1 ∨ i = 2 ∨ i = 3 ∨ i = 4 ∨ i = 5 ∨ i = 6 ∨ i = 7 by omega) with rfl | rfl | rfl | rfl | rfl | rfl | rfl | rfl <;> rfl
  rw [this] at hB
  exact hB
/-- While the bytes are written out. -/
structure OutInv (w : World) (S : Bul.St) (G : Nat) (z : List Nat) (i : Nat) (wr : World) : Prop where
  h : Blk wr (w.heap.size + 1) 82 (stc S)
  o : ∃ l : List Nat, l.length = 32 ∧ (∀ j, j < i → l.getD j 0 = S.out.getD j 0) ∧ Blk wr G 41 (cellsOf .u8 l)
  r : Blk wr w.heap.size 41 (cellsOf .u8 z)
  old : Below w.heap.size w wr
theorem OutInv.next {w : World} {S : Bul.St} {G : Nat} {z : List Nat} {i : Nat} {wr : World} (h : OutInv w S G z i wr) (hi : i < 32) (hG : w.heap.size + 1 < G) (y : Int) (hy : y = (S.out.getD i 0 : Nat)) :
    OutInv w S G z (i + 1) (wr.setCell ⟨G, i, none⟩ (.int .u8 y)) := by
  subst hy
  obtain ⟨hh, ⟨l, hl, hlk, hB⟩, hr, hold⟩ := h
  refine ⟨hh.far (by dsimp only; omega) _, ⟨l.set i (S.out.getD i 0), by simp [hl], fun j hj => ?_, ?_⟩, hr.far (by dsimp only; omega) _, hold.setCell (by dsimp only; omega) _⟩
  · rw [getD_set _ _ _ _ (by omega)]
    split
    · rename_i he; rw [he]
    · rename_i he; exact hlk j (by omega)
  · rw [← cellsOf_set]
    exact hB.set _ _
theorem OutInv.done {w : World} {S : Bul.St} {G : Nat} {z : List Nat} {wr : World} (h : OutInv w S G z 32 wr) : Blk wr G 41 (cellsOf .u8 S.out) := by
  obtain ⟨_, ⟨l, hl, hlk, hB⟩, _⟩ := h
  have : l = S.out := by
    refine List.ext_getElem (by rw [hl, Bul.out_length]) (fun i h1 h2 => ?_)
    have := hlk i (by omega)
    simpa [h1, h2] using this
  rwa [this] at hB
theorem list_lt {v : Bul.St} (hv : v.Ok) (k : Nat) : v.list.getD k 0 < 4294967296 := by
  obtain ⟨h1, h2, h3, h4, h5, h6, h7, h8⟩ := hv
  by_cases hk : k < 8
  · rcases (show k = 0 ∨ k = 1 ∨ k = 2 ∨ k = 3 ∨ k = 4 ∨ k = 5 ∨ k = 6 ∨ k = 7 by omega) with rfl | rfl | rfl | rfl | rfl | rfl | rfl | rfl <;> assumption
  · rw [List.getD_eq_getElem?_getD, List.getElem?_eq_none (by rw [stl_length]; omega)]
    simp
set_option maxRecDepth 20000 in
set_option maxHeartbeats 8000000 in
theorem ref_sum (bs : List Nat) (A : Option Addr) (n c : Nat) (ok : Nat → Prop) (w : World) (hr : Rd w ok A n bs) (hn : n ≤ 1099511627776) :
    Calls Tryd.prog 39 #[.slice A n c] w fun e w' => e = .returned (.agg (cellsOf .u8 (sha bs))) ∧ Below w.heap.size w w' := by
  have HR := Lib.hid hr
  clear hr
  have hz := zero_b32
  obtain ⟨z, hzz⟩ : ∃ z, z = List.replicate 32 0 := ⟨_, rfl⟩
  rw [← hzz] at hz
  have hzl : z.length = 32 := by rw [hzz]; simp
  have HZ := Lib.hid hzz
  clear hzz
  obtain ⟨K0, hK0⟩ : ∃ K, K = Bul.ks := ⟨_, rfl⟩
  have hKl : K0.length = 64 := by rw [hK0]; rfl
  have RC := ref_const
  rw [← hK0] at RC
  have HK := Lib.hid hK0
  clear hK0
  have hz64 := zero_w64
  obtain ⟨z64, hzz64⟩ : ∃ z, z = List.replicate 64 0 := ⟨_, rfl⟩
  rw [← hzz64] at hz64
  have hz64l : z64.length = 64 := by rw [hzz64]; simp
  clear hzz64
  have hz8 := zero_w8'
  obtain ⟨z8, hzz8⟩ : ∃ z, z = List.replicate 8 0 := ⟨_, rfl⟩
  rw [← hzz8] at hz8
  have hz8l : (cellsOf .u32 z8).size = 8 := by rw [hzz8]; simp
  clear hzz8
  go_enter Tryd.func39, Tryd.ntmps39
  go_wp2_with (first
    | (with_reducible refine wpList_alloc_zero rfl 41 rfl _ hz ?_)
    | (with_reducible refine wpList_alloc_zero rfl 82 rfl _ hz8 ?_))
  rw [eight_set hz8l]
  (with_reducible refine (RC _).mono ?_)
  rintro e w1 ⟨rfl, hb1⟩
  have hH1 : Blk w1 (w.heap.size + 1) 82 (stc Bul.ini) := (Blk.new' (w.alloc (.cells (cellsOf .u8 z) 41)) 82 (stc Bul.ini) (w.heap.size + 1) (by simp)).kept hb1
  have hr1 : Blk w1 w.heap.size 41 (cellsOf .u8 z) := ((Blk.new w _ _).alloc _).kept hb1
  have k1 : Below w.heap.size w w1 := Below.step (((Below.refl _ _).alloc (Nat.le_refl _) _).alloc (by simp) _) hb1
  have hsz1 := hH1.lt
  clear hb1
  go_wp2_with (first
    | (with_reducible refine wpList_alloc_zero rfl 83 rfl _ hz64 ?_)
    | (refine wpList_store_blk rfl 83 (.tmp 4) (.tmp 16) rfl w1.heap.size rfl (cellsOf .u32 K0) rfl 83 (cellsOf .u32 z64) 64 (Blk.new w1 _ _) size_w64 (by simp [hKl]) (by simp [hz64l]) (vals_one _ _) rfl ?_; intro w2 hw2; have HW2 := Lib.hid hw2; clear hw2))
  have hK2 : Blk w2 w1.heap.size 83 (cellsOf .u32 K0) := by rw [HW2.out]; exact (Blk.new w1 _ _).row _
  have hH2 : Blk w2 (w.heap.size + 1) 82 (stc Bul.ini) := by rw [HW2.out]; exact (hH1.alloc _).rowFar (by omega) _
  have hr2 : Blk w2 w.heap.size 41 (cellsOf .u8 z) := by rw [HW2.out]; exact (hr1.alloc _).rowFar (by omega) _
  have k2 : Below w.heap.size w w2 := by rw [HW2.out]; exact below_setRow (k1.alloc (by omega) _) (by omega) _
  clear hH1 hr1 k1
  (with_reducible refine (ref_padded bs A n c ok w2 (HR.out.kept k2) hn).mono ?_)
  rintro e w3 ⟨⟨A3, N, c3, rfl, hN, hNc, hO⟩, hb3⟩
  have hK3 := hK2.kept hb3
  have hH3 := hH2.kept hb3
  have hr3 := hr2.kept hb3
  have k3 : Below w.heap.size w w3 := Below.step k2 hb3
  have hP := (hO.rd hN (HR.out.bytes.append (bytes_padding _))).1
  obtain ⟨P, hPd⟩ : ∃ P, P = padded bs := ⟨_, rfl⟩
  rw [← hPd] at hP hN
  have HP := Lib.hid hPd
  have HN := Lib.hid hN
  have hPL : (padded bs).length = bs.length + (9 + (119 - bs.length % 64) % 64) := by rw [padded, List.length_append, padding_length]
  have hbl := HR.out.len
  have hN2 : N ≤ 1099511628000 := by rw [hN, hPd, hPL]; omega
  have hN64 : N % 64 = 0 := by rw [hN, hPd, hPL]; omega
  have hN0 : 64 ≤ N := by rw [hN, hPd, hPL]; omega
  obtain ⟨ad, rfl, _⟩ := hP.at_ (by omega)
  have hsz2 := hK2.lt
  obtain ⟨G4, hG4⟩ : ∃ G, G = w1.heap.size := ⟨_, rfl⟩
  rw [← hG4] at hK3 hsz1 hsz2 ⊢
  have hlt4 := hK3.lt
  clear hPd hN hO hK2 hH2 hr2 k2 hPL hbl hG4
  go_wp2_with fail
  go_loopw [6] (fun i wr => ∃ b : Nat, 64 * b ≤ N ∧ i = .int .i64 ((64 * b : Nat) : Int) ∧ Blk wr (w.heap.size + 1) 82 (stc (after (P.take (64 * b)))) ∧ Blk wr G4 83 (cellsOf .u32 K0) ∧ Rd wr (fun g => w2.heap.size ≤ g) (some ad) N P ∧ Blk wr w.heap.size 41 (cellsOf .u8 z) ∧ Below w.heap.size w wr)
    (fun i _ => N - (intOf i).toNat)
  case atStart => exact ⟨0, by omega, rfl, by rw [show after (P.take (64 * 0)) = Bul.ini by simp [after_nil]]; exact hH3, hK3, hP, hr3, k3⟩
  case round =>
    clear hH3 hK3 hP hr3 k3
    obtain ⟨b, hb, rfl, hH, hK, hP, hres, hold⟩ := hrel
    by_cases hlt : 64 * b < N
    · obtain ⟨ad', had', hge, hadlt, hcell⟩ := hP.at_ (by omega)
      obtain rfl : ad = ad' := by injection had'
      obtain ⟨o, ho⟩ : ∃ o, o = 64 * b := ⟨_, rfl⟩
      have hob : o + 64 ≤ N := by omega
      have ht : (decide ((o : Int) < (N : Int))) = true := by simp; omega
      have hc3 : ¬ (c3 = o) := by omega
      have hoc : (o : Int) + 64 ≤ (c3 : Int) := by omega
      have hrs : Rd wr (fun g => w2.heap.size ≤ g) (some (ad.add o)) 64 ((P.drop o).take 64) := by
        refine ⟨by rw [List.length_take, List.length_drop, hP.len]; omega, (hP.bytes.drop _).take _, fun _ => ⟨_, rfl, by rw [block_of_add]; exact hge, by rw [block_of_add]; exact hadlt, fun j hj => ?_⟩⟩
        rw [add_of_add, hcell (o + j) (by omega)]
        congr 2
        simp [List.getD, hj]
      have HOb := Lib.hid ho
      rw [← ho] at hH ⊢
      clear ho hcell had' hlt
      go_wp2_with fail
      (with_reducible refine (ref_schedule _ (some (ad.add o)) (c3 - o) _ wr hrs).mono ?_)
      rintro e w4 ⟨rfl, hb4⟩
      obtain ⟨h0, hh0⟩ : ∃ h, h = after (P.take o) := ⟨_, rfl⟩
      obtain ⟨m, hm⟩ : ∃ m, m = word ((P.drop o).take 64) := ⟨_, rfl⟩
      obtain ⟨WL, hWL⟩ : ∃ l, l = (List.range 64).map (W m) := ⟨_, rfl⟩
      have hWl : WL.length = 64 := by rw [hWL]; simp
      have hok : h0.Ok := by rw [hh0]; exact after_ok _
      have hmb : ∀ j, m j < 4294967296 := fun j => by rw [hm]; exact word_lt hrs.bytes j
      rw [← hm, ← hWL]
      rw [← hh0] at hH
      have HH0 := Lib.hid (And.intro hh0 (And.intro hm hWL))
      clear hh0 hm hWL hrs
      have hH4 := hH.kept hb4
      have hK4 := hK.kept hb4
      have hP4 := hP.kept hb4
      have hr4 := hres.kept hb4
      have k4 := Below.step hold hb4
      have hsz4 := k4.size
      have hlt4' := hK4.lt
      clear hH hK hP hres hold hb4
      go_wp2_with (first
        | (with_reducible refine wpList_alloc_zero rfl 83 rfl _ hz64 ?_)
        | (with_reducible refine wpList_alloc_zero rfl 82 rfl _ hz8 ?_)
        | (refine wpList_store_blk rfl 83 (.tmp 7) (.tmp 30) rfl w4.heap.size rfl (cellsOf .u32 WL) rfl 83 (cellsOf .u32 z64) 64 (Blk.new w4 _ _) size_w64 (by simp [hWl]) (by simp [hz64l]) (vals_one _ _) rfl ?_; intro w5 hw5; have HW5 := Lib.hid hw5; clear hw5)
        | (refine wpList_load_blk rfl 82 (.tmp 3) rfl (w.heap.size + 1) rfl 82 (stc h0) 8 _ (by rw [HW5.out]; exact (hH4.alloc _).rowFar (by omega) _) Tryd.underlying82 rfl size_w8' rfl ?_)
        | (refine wpList_store_blk rfl 82 (.tmp 8) (.tmp 31) rfl w5.heap.size rfl (stc h0) rfl 82 (cellsOf .u32 z8) 8 (Blk.new w5 _ _) size_w8' rfl hz8l (vals_one _ _) rfl ?_; intro w6 hw6; have HW6 := Lib.hid hw6; clear hw6))
      have hb6 : Below w4.heap.size w4 w6 := by
        rw [HW6.out]
        have h5 : Below w4.heap.size w4 w5 := by rw [HW5.out]; exact below_setRow ((Below.refl _ _).alloc (Nat.le_refl _) _) (Nat.le_refl _) _
        exact below_setRow (h5.alloc h5.size _) h5.size _
      have h45 : w4.heap.size < w5.heap.size := by rw [HW5.out]; simp
      have hW6 : Blk w6 w4.heap.size 83 (cellsOf .u32 WL) := by
        have h5 : Blk w5 w4.heap.size 83 (cellsOf .u32 WL) := by rw [HW5.out]; exact (Blk.new w4 _ _).row _
        rw [HW6.out]; exact (h5.alloc _).rowFar (by omega) _
      have hV6 : Blk w6 w5.heap.size 82 (stc h0) := by rw [HW6.out]; exact (Blk.new w5 _ _).row _
      have hH6 := hH4.kept hb6
      have hK6 := hK4.kept hb6
      have hP6 := (hP4.imp (ok' := fun g => w2.heap.size ≤ g ∧ g < w4.heap.size) (fun g h1 h2 => ⟨h2, h1⟩)).kept hb6
      have hr6 := hr4.kept hb6
      have k6 := Below.step k4 hb6
      obtain ⟨G7, hG7⟩ : ∃ G, G = w4.heap.size := ⟨_, rfl⟩
      obtain ⟨G8, hG8⟩ : ∃ G, G = w5.heap.size := ⟨_, rfl⟩
      rw [← hG7] at hW6 h45 hsz4 hlt4' hP6 ⊢
      rw [← hG8] at hV6 h45 ⊢
      clear hH4 hK4 hP4 hr4 k4 hb6 hG7 hG8
      go_loopw [9] (fun i wr => ∃ t : Nat, t ≤ 64 ∧ i = .int .i64 (t : Nat) ∧ InnerInv w G4 G7 G8 w2.heap.size K0 WL z P ad N h0 m t wr)
        (fun i _ => 64 - (intOf i).toNat)
      case atStart => exact ⟨0, by omega, rfl, hV6, hH6, hK6, hW6, hP6, hr6, k6⟩
      case round =>
        clear hV6 hH6 hK6 hW6 hP6 hr6 k6
        obtain ⟨t, ht64, rfl, hI⟩ := hrel
        obtain ⟨hV, hH, hK, hW, hP, hres, hold⟩ := id hI
        by_cases hlt : t < 64
        · obtain ⟨s, hs⟩ : ∃ s, s = Bul.stAt m h0 t := ⟨_, rfl⟩
          have hs_ok : s.Ok := by rw [hs]; exact Bul.stAt_ok hok t
          obtain ⟨q, hq⟩ : ∃ q, q = Bul.W m t := ⟨_, rfl⟩
          obtain ⟨kt, hkt⟩ : ∃ k, k = Bul.K t := ⟨_, rfl⟩
          rw [← hs] at hV
          have gK : WL.getD t 0 = q := by rw [HH0.out.2.2, range_map_getD _ _ _ hlt, hq]
          have gW : K0.getD t 0 = kt := by rw [HK.out, hkt]; rfl
          have bt : (t : Int) < 64 := by omega
          have HS := Lib.hid (And.intro hs (And.intro hq hkt))
          clear hs hq hkt
          have W32 : ∀ a b : Nat, IntKind.u32.wrap (↑a + ↑b) = ((Bul.add32 a b : Nat) : Int) := fun a b => by rw [IntKind.wrap_u32]; simp [Bul.add32]
          have E1 := S1_int s.e hs_ok.e
          have E2 := S0_int s.a hs_ok.a
          have E3 := ch_int s.e s.f s.g hs_ok.e hs_ok.g hs_ok.f
          have E4 := maj_int s.a s.b s.c hs_ok.a hs_ok.b hs_ok.c
          go_wp2_with fail
          have F : Hid (∀ w' : World, Below wr.heap.size wr w' → w'.cell? ⟨G4, t, none⟩ = some (.int .u32 (kt : Nat)) ∧ w'.cell? ⟨G7, t, none⟩ = some (.int .u32 (q : Nat)) ∧ (∀ i, w'.cell? ⟨G8, i, none⟩ = (stc s)[i]?)) := fun w' hb => by
            refine ⟨?_, ?_, fun i => ?_⟩
            · rw [(hK.kept hb).num (by omega), gW]
            · rw [(hW.kept hb).num (by omega), gK]
            · rw [(hV.kept hb).cell i]
          refine Go.Bul.wp_region_class_tail (fun w' => Below wr.heap.size wr w') 35 (by kernel_rfl) (by kernel_rfl) (Below.drew (Below.refl _ _)) ?_
          simp only [List.take_succ_cons, List.take_zero, List.drop_succ_cons, List.drop_zero]
          refine wpQuiet_step (fun K hK => ?_)
          refine Go.Bul.quiet_some rfl ?_
          apply Exists.intro
          refine ⟨fun w' hw' => ?_, ?_⟩
          · skip
            go_simp
            rfl
          go_simp
          refine hK _ ?_
          clear hK K
          refine wpQuiet_step (fun K hK => ?_)
          refine Go.Bul.quiet_some rfl ?_
          apply Exists.intro
          refine ⟨fun w' hw' => ?_, ?_⟩
          · have f := (F.out w' hw').2.2 7; simp only [stc_eq] at f
            go_simp
            rfl
          go_simp
          refine hK _ ?_
          clear hK K
          refine wpQuiet_step (fun K hK => ?_)
          refine Go.Bul.quiet_some rfl ?_
          apply Exists.intro
          refine ⟨fun w' hw' => ?_, ?_⟩
          · skip
            go_simp
            rfl
          go_simp
          refine hK _ ?_
          clear hK K
          refine wpQuiet_step (fun K hK => ?_)
          refine Go.Bul.quiet_some rfl ?_
          apply Exists.intro
          refine ⟨fun w' hw' => ?_, ?_⟩
          · have f := (F.out w' hw').2.2 4; simp only [stc_eq] at f
            go_simp
            rfl
          go_simp
          refine hK _ ?_
          clear hK K
          refine wpQuiet_step (fun K hK => ?_)
          refine Go.Bul.quiet_some rfl ?_
          apply Exists.intro
          refine ⟨fun w' hw' => ?_, ?_⟩
          · go_simp
            exact Go.Bul.quiet_call hw' (ref_rotb s.e 6 w' hs_ok.e (by simp [IsRot]) 6 rfl)
          go_simp
          refine hK _ ?_
          clear hK K
          refine wpQuiet_step (fun K hK => ?_)
          refine Go.Bul.quiet_some rfl ?_
          apply Exists.intro
          refine ⟨fun w' hw' => ?_, ?_⟩
          · skip
            go_simp
            rfl
          go_simp
          refine hK _ ?_
          clear hK K
          refine wpQuiet_step (fun K hK => ?_)
          refine Go.Bul.quiet_some rfl ?_
          apply Exists.intro
          refine ⟨fun w' hw' => ?_, ?_⟩
          · have f := (F.out w' hw').2.2 4; simp only [stc_eq] at f
            go_simp
            rfl
          go_simp
          refine hK _ ?_
          clear hK K
          refine wpQuiet_step (fun K hK => ?_)
          refine Go.Bul.quiet_some rfl ?_
          apply Exists.intro
          refine ⟨fun w' hw' => ?_, ?_⟩
          · go_simp
            exact Go.Bul.quiet_call hw' (ref_rotb s.e 11 w' hs_ok.e (by simp [IsRot]) 11 rfl)
          go_simp
          refine hK _ ?_
          clear hK K
          refine wpQuiet_step (fun K hK => ?_)
          refine Go.Bul.quiet_some rfl ?_
          apply Exists.intro
          refine ⟨fun w' hw' => ?_, ?_⟩
          · skip
            go_simp
            rfl
          go_simp
          refine hK _ ?_
          clear hK K
          refine wpQuiet_step (fun K hK => ?_)
          refine Go.Bul.quiet_some rfl ?_
          apply Exists.intro
          refine ⟨fun w' hw' => ?_, ?_⟩
          · skip
            go_simp
            rfl
          go_simp
          refine hK _ ?_
          clear hK K
          refine wpQuiet_step (fun K hK => ?_)
          refine Go.Bul.quiet_some rfl ?_
          apply Exists.intro
          refine ⟨fun w' hw' => ?_, ?_⟩
          · have f := (F.out w' hw').2.2 4; simp only [stc_eq] at f
            go_simp
            rfl
          go_simp
          refine hK _ ?_
          clear hK K
          refine wpQuiet_step (fun K hK => ?_)
          refine Go.Bul.quiet_some rfl ?_
          apply Exists.intro
          refine ⟨fun w' hw' => ?_, ?_⟩
          · go_simp
            exact Go.Bul.quiet_call hw' (ref_rotb s.e 25 w' hs_ok.e (by simp [IsRot]) 25 rfl)
          go_simp
          refine hK _ ?_
          clear hK K
          refine wpQuiet_step (fun K hK => ?_)
          refine Go.Bul.quiet_some rfl ?_
          apply Exists.intro
          refine ⟨fun w' hw' => ?_, ?_⟩
          · skip
            go_simp
            rfl
          go_simp
          refine hK _ ?_
          clear hK K
          refine wpQuiet_step (fun K hK => ?_)
          refine Go.Bul.quiet_some rfl ?_
          apply Exists.intro
          refine ⟨fun w' hw' => ?_, ?_⟩
          · skip
            go_simp
            rfl
          go_simp
          refine hK _ ?_
          clear hK K
          refine wpQuiet_step (fun K hK => ?_)
          refine Go.Bul.quiet_some rfl ?_
          apply Exists.intro
          refine ⟨fun w' hw' => ?_, ?_⟩
          · skip
            go_simp
            rfl
          go_simp
          refine hK _ ?_
          clear hK K
          refine wpQuiet_step (fun K hK => ?_)
          refine Go.Bul.quiet_some rfl ?_
          apply Exists.intro
          refine ⟨fun w' hw' => ?_, ?_⟩
          · have f := (F.out w' hw').2.2 4; simp only [stc_eq] at f
            go_simp
            rfl
          go_simp
          refine hK _ ?_
          clear hK K
          refine wpQuiet_step (fun K hK => ?_)
          refine Go.Bul.quiet_some rfl ?_
          apply Exists.intro
          refine ⟨fun w' hw' => ?_, ?_⟩
          · skip
            go_simp
            rfl
          go_simp
          refine hK _ ?_
          clear hK K
          refine wpQuiet_step (fun K hK => ?_)
          refine Go.Bul.quiet_some rfl ?_
          apply Exists.intro
          refine ⟨fun w' hw' => ?_, ?_⟩
          · have f := (F.out w' hw').2.2 5; simp only [stc_eq] at f
            go_simp
            rfl
          go_simp
          refine hK _ ?_
          clear hK K
          refine wpQuiet_step (fun K hK => ?_)
          refine Go.Bul.quiet_some rfl ?_
          apply Exists.intro
          refine ⟨fun w' hw' => ?_, ?_⟩
          · skip
            go_simp
            rfl
          go_simp
          refine hK _ ?_
          clear hK K
          refine wpQuiet_step (fun K hK => ?_)
          refine Go.Bul.quiet_some rfl ?_
          apply Exists.intro
          refine ⟨fun w' hw' => ?_, ?_⟩
          · skip
            go_simp
            rfl
          go_simp
          refine hK _ ?_
          clear hK K
          refine wpQuiet_step (fun K hK => ?_)
          refine Go.Bul.quiet_some rfl ?_
          apply Exists.intro
          refine ⟨fun w' hw' => ?_, ?_⟩
          · have f := (F.out w' hw').2.2 4; simp only [stc_eq] at f
            go_simp
            rfl
          go_simp
          refine hK _ ?_
          clear hK K
          refine wpQuiet_step (fun K hK => ?_)
          refine Go.Bul.quiet_some rfl ?_
          apply Exists.intro
          refine ⟨fun w' hw' => ?_, ?_⟩
          · skip
            go_simp
            rfl
          go_simp
          refine hK _ ?_
          clear hK K
          refine wpQuiet_step (fun K hK => ?_)
          refine Go.Bul.quiet_some rfl ?_
          apply Exists.intro
          refine ⟨fun w' hw' => ?_, ?_⟩
          · skip
            go_simp
            rfl
          go_simp
          refine hK _ ?_
          clear hK K
          refine wpQuiet_step (fun K hK => ?_)
          refine Go.Bul.quiet_some rfl ?_
          apply Exists.intro
          refine ⟨fun w' hw' => ?_, ?_⟩
          · have f := (F.out w' hw').2.2 6; simp only [stc_eq] at f
            go_simp
            rfl
          go_simp
          refine hK _ ?_
          clear hK K
          refine wpQuiet_step (fun K hK => ?_)
          refine Go.Bul.quiet_some rfl ?_
          apply Exists.intro
          refine ⟨fun w' hw' => ?_, ?_⟩
          · skip
            go_simp
            rfl
          go_simp
          refine hK _ ?_
          clear hK K
          refine wpQuiet_step (fun K hK => ?_)
          refine Go.Bul.quiet_some rfl ?_
          apply Exists.intro
          refine ⟨fun w' hw' => ?_, ?_⟩
          · skip
            go_simp
            rfl
          go_simp
          refine hK _ ?_
          clear hK K
          refine wpQuiet_step (fun K hK => ?_)
          refine Go.Bul.quiet_some rfl ?_
          apply Exists.intro
          refine ⟨fun w' hw' => ?_, ?_⟩
          · skip
            go_simp
            rfl
          go_simp
          refine hK _ ?_
          clear hK K
          refine wpQuiet_step (fun K hK => ?_)
          refine Go.Bul.quiet_some rfl ?_
          apply Exists.intro
          refine ⟨fun w' hw' => ?_, ?_⟩
          · skip
            go_simp
            rfl
          go_simp
          refine hK _ ?_
          clear hK K
          refine wpQuiet_step (fun K hK => ?_)
          refine Go.Bul.quiet_some rfl ?_
          apply Exists.intro
          refine ⟨fun w' hw' => ?_, ?_⟩
          · skip
            go_simp
            rfl
          go_simp
          refine hK _ ?_
          clear hK K
          refine wpQuiet_step (fun K hK => ?_)
          refine Go.Bul.quiet_some rfl ?_
          apply Exists.intro
          refine ⟨fun w' hw' => ?_, ?_⟩
          · have f := (F.out w' hw').1
            go_simp
            rfl
          go_simp
          refine hK _ ?_
          clear hK K
          refine wpQuiet_step (fun K hK => ?_)
          refine Go.Bul.quiet_some rfl ?_
          apply Exists.intro
          refine ⟨fun w' hw' => ?_, ?_⟩
          · skip
            go_simp
            rfl
          go_simp
          refine hK _ ?_
          clear hK K
          refine wpQuiet_step (fun K hK => ?_)
          refine Go.Bul.quiet_some rfl ?_
          apply Exists.intro
          refine ⟨fun w' hw' => ?_, ?_⟩
          · skip
            go_simp
            rfl
          go_simp
          refine hK _ ?_
          clear hK K
          refine wpQuiet_step (fun K hK => ?_)
          refine Go.Bul.quiet_some rfl ?_
          apply Exists.intro
          refine ⟨fun w' hw' => ?_, ?_⟩
          · skip
            go_simp
            rfl
          go_simp
          refine hK _ ?_
          clear hK K
          refine wpQuiet_step (fun K hK => ?_)
          refine Go.Bul.quiet_some rfl ?_
          apply Exists.intro
          refine ⟨fun w' hw' => ?_, ?_⟩
          · have f := (F.out w' hw').2.1
            go_simp
            rfl
          go_simp
          refine hK _ ?_
          clear hK K
          refine wpQuiet_step (fun K hK => ?_)
          refine Go.Bul.quiet_some rfl ?_
          apply Exists.intro
          refine ⟨fun w' hw' => ?_, ?_⟩
          · skip
            go_simp
            rfl
          go_simp
          refine hK _ ?_
          clear hK K
          refine wpQuiet_nil ?_
          intro w7 hb7
          go_wp2_with fail
          obtain ⟨one, hone⟩ : ∃ x, x = add32 (add32 (add32 (add32 s.h (S1 s.e)) (chf s.e s.f s.g)) kt) q := ⟨_, rfl⟩
          rw [← hone]
          have HONE := Lib.hid hone
          clear hone
          have F2 : Hid (∀ w' : World, Below w7.heap.size w7 w' → True ∧ True ∧ (∀ i, w'.cell? ⟨G8, i, none⟩ = (stc s)[i]?)) := fun w' hb => ⟨trivial, trivial, fun i => by rw [((hV.kept hb7).kept hb).cell i]⟩
          refine Go.Bul.wp_region_class_tail (fun w' => Below w7.heap.size w7 w') 29 (by kernel_rfl) (by kernel_rfl) (Below.drew (Below.refl _ _)) ?_
          simp only [List.take_succ_cons, List.take_zero, List.drop_succ_cons, List.drop_zero]
          refine wpQuiet_step (fun K hK => ?_)
          refine Go.Bul.quiet_some rfl ?_
          apply Exists.intro
          refine ⟨fun w' hw' => ?_, ?_⟩
          · skip
            go_simp
            rfl
          go_simp
          refine hK _ ?_
          clear hK K
          refine wpQuiet_step (fun K hK => ?_)
          refine Go.Bul.quiet_some rfl ?_
          apply Exists.intro
          refine ⟨fun w' hw' => ?_, ?_⟩
          · have f := (F2.out w' hw').2.2 0; simp only [stc_eq] at f
            go_simp
            rfl
          go_simp
          refine hK _ ?_
          clear hK K
          refine wpQuiet_step (fun K hK => ?_)
          refine Go.Bul.quiet_some rfl ?_
          apply Exists.intro
          refine ⟨fun w' hw' => ?_, ?_⟩
          · go_simp
            exact Go.Bul.quiet_call hw' (ref_rotb s.a 2 w' hs_ok.a (by simp [IsRot]) 2 rfl)
          go_simp
          refine hK _ ?_
          clear hK K
          refine wpQuiet_step (fun K hK => ?_)
          refine Go.Bul.quiet_some rfl ?_
          apply Exists.intro
          refine ⟨fun w' hw' => ?_, ?_⟩
          · skip
            go_simp
            rfl
          go_simp
          refine hK _ ?_
          clear hK K
          refine wpQuiet_step (fun K hK => ?_)
          refine Go.Bul.quiet_some rfl ?_
          apply Exists.intro
          refine ⟨fun w' hw' => ?_, ?_⟩
          · have f := (F2.out w' hw').2.2 0; simp only [stc_eq] at f
            go_simp
            rfl
          go_simp
          refine hK _ ?_
          clear hK K
          refine wpQuiet_step (fun K hK => ?_)
          refine Go.Bul.quiet_some rfl ?_
          apply Exists.intro
          refine ⟨fun w' hw' => ?_, ?_⟩
          · go_simp
            exact Go.Bul.quiet_call hw' (ref_rotb s.a 13 w' hs_ok.a (by simp [IsRot]) 13 rfl)
          go_simp
          refine hK _ ?_
          clear hK K
          refine wpQuiet_step (fun K hK => ?_)
          refine Go.Bul.quiet_some rfl ?_
          apply Exists.intro
          refine ⟨fun w' hw' => ?_, ?_⟩
          · skip
            go_simp
            rfl
          go_simp
          refine hK _ ?_
          clear hK K
          refine wpQuiet_step (fun K hK => ?_)
          refine Go.Bul.quiet_some rfl ?_
          apply Exists.intro
          refine ⟨fun w' hw' => ?_, ?_⟩
          · skip
            go_simp
            rfl
          go_simp
          refine hK _ ?_
          clear hK K
          refine wpQuiet_step (fun K hK => ?_)
          refine Go.Bul.quiet_some rfl ?_
          apply Exists.intro
          refine ⟨fun w' hw' => ?_, ?_⟩
          · have f := (F2.out w' hw').2.2 0; simp only [stc_eq] at f
            go_simp
            rfl
          go_simp
          refine hK _ ?_
          clear hK K
          refine wpQuiet_step (fun K hK => ?_)
          refine Go.Bul.quiet_some rfl ?_
          apply Exists.intro
          refine ⟨fun w' hw' => ?_, ?_⟩
          · go_simp
            exact Go.Bul.quiet_call hw' (ref_rotb s.a 22 w' hs_ok.a (by simp [IsRot]) 22 rfl)
          go_simp
          refine hK _ ?_
          clear hK K
          refine wpQuiet_step (fun K hK => ?_)
          refine Go.Bul.quiet_some rfl ?_
          apply Exists.intro
          refine ⟨fun w' hw' => ?_, ?_⟩
          · skip
            go_simp
            rfl
          go_simp
          refine hK _ ?_
          clear hK K
          refine wpQuiet_step (fun K hK => ?_)
          refine Go.Bul.quiet_some rfl ?_
          apply Exists.intro
          refine ⟨fun w' hw' => ?_, ?_⟩
          · skip
            go_simp
            rfl
          go_simp
          refine hK _ ?_
          clear hK K
          refine wpQuiet_step (fun K hK => ?_)
          refine Go.Bul.quiet_some rfl ?_
          apply Exists.intro
          refine ⟨fun w' hw' => ?_, ?_⟩
          · have f := (F2.out w' hw').2.2 0; simp only [stc_eq] at f
            go_simp
            rfl
          go_simp
          refine hK _ ?_
          clear hK K
          refine wpQuiet_step (fun K hK => ?_)
          refine Go.Bul.quiet_some rfl ?_
          apply Exists.intro
          refine ⟨fun w' hw' => ?_, ?_⟩
          · skip
            go_simp
            rfl
          go_simp
          refine hK _ ?_
          clear hK K
          refine wpQuiet_step (fun K hK => ?_)
          refine Go.Bul.quiet_some rfl ?_
          apply Exists.intro
          refine ⟨fun w' hw' => ?_, ?_⟩
          · have f := (F2.out w' hw').2.2 1; simp only [stc_eq] at f
            go_simp
            rfl
          go_simp
          refine hK _ ?_
          clear hK K
          refine wpQuiet_step (fun K hK => ?_)
          refine Go.Bul.quiet_some rfl ?_
          apply Exists.intro
          refine ⟨fun w' hw' => ?_, ?_⟩
          · skip
            go_simp
            rfl
          go_simp
          refine hK _ ?_
          clear hK K
          refine wpQuiet_step (fun K hK => ?_)
          refine Go.Bul.quiet_some rfl ?_
          apply Exists.intro
          refine ⟨fun w' hw' => ?_, ?_⟩
          · skip
            go_simp
            rfl
          go_simp
          refine hK _ ?_
          clear hK K
          refine wpQuiet_step (fun K hK => ?_)
          refine Go.Bul.quiet_some rfl ?_
          apply Exists.intro
          refine ⟨fun w' hw' => ?_, ?_⟩
          · have f := (F2.out w' hw').2.2 0; simp only [stc_eq] at f
            go_simp
            rfl
          go_simp
          refine hK _ ?_
          clear hK K
          refine wpQuiet_step (fun K hK => ?_)
          refine Go.Bul.quiet_some rfl ?_
          apply Exists.intro
          refine ⟨fun w' hw' => ?_, ?_⟩
          · skip
            go_simp
            rfl
          go_simp
          refine hK _ ?_
          clear hK K
          refine wpQuiet_step (fun K hK => ?_)
          refine Go.Bul.quiet_some rfl ?_
          apply Exists.intro
          refine ⟨fun w' hw' => ?_, ?_⟩
          · have f := (F2.out w' hw').2.2 2; simp only [stc_eq] at f
            go_simp
            rfl
          go_simp
          refine hK _ ?_
          clear hK K
          refine wpQuiet_step (fun K hK => ?_)
          refine Go.Bul.quiet_some rfl ?_
          apply Exists.intro
          refine ⟨fun w' hw' => ?_, ?_⟩
          · skip
            go_simp
            rfl
          go_simp
          refine hK _ ?_
          clear hK K
          refine wpQuiet_step (fun K hK => ?_)
          refine Go.Bul.quiet_some rfl ?_
          apply Exists.intro
          refine ⟨fun w' hw' => ?_, ?_⟩
          · skip
            go_simp
            rfl
          go_simp
          refine hK _ ?_
          clear hK K
          refine wpQuiet_step (fun K hK => ?_)
          refine Go.Bul.quiet_some rfl ?_
          apply Exists.intro
          refine ⟨fun w' hw' => ?_, ?_⟩
          · skip
            go_simp
            rfl
          go_simp
          refine hK _ ?_
          clear hK K
          refine wpQuiet_step (fun K hK => ?_)
          refine Go.Bul.quiet_some rfl ?_
          apply Exists.intro
          refine ⟨fun w' hw' => ?_, ?_⟩
          · have f := (F2.out w' hw').2.2 1; simp only [stc_eq] at f
            go_simp
            rfl
          go_simp
          refine hK _ ?_
          clear hK K
          refine wpQuiet_step (fun K hK => ?_)
          refine Go.Bul.quiet_some rfl ?_
          apply Exists.intro
          refine ⟨fun w' hw' => ?_, ?_⟩
          · skip
            go_simp
            rfl
          go_simp
          refine hK _ ?_
          clear hK K
          refine wpQuiet_step (fun K hK => ?_)
          refine Go.Bul.quiet_some rfl ?_
          apply Exists.intro
          refine ⟨fun w' hw' => ?_, ?_⟩
          · have f := (F2.out w' hw').2.2 2; simp only [stc_eq] at f
            go_simp
            rfl
          go_simp
          refine hK _ ?_
          clear hK K
          refine wpQuiet_step (fun K hK => ?_)
          refine Go.Bul.quiet_some rfl ?_
          apply Exists.intro
          refine ⟨fun w' hw' => ?_, ?_⟩
          · skip
            go_simp
            rfl
          go_simp
          refine hK _ ?_
          clear hK K
          refine wpQuiet_step (fun K hK => ?_)
          refine Go.Bul.quiet_some rfl ?_
          apply Exists.intro
          refine ⟨fun w' hw' => ?_, ?_⟩
          · skip
            go_simp
            rfl
          go_simp
          refine hK _ ?_
          clear hK K
          refine wpQuiet_step (fun K hK => ?_)
          refine Go.Bul.quiet_some rfl ?_
          apply Exists.intro
          refine ⟨fun w' hw' => ?_, ?_⟩
          · skip
            go_simp
            rfl
          go_simp
          refine hK _ ?_
          clear hK K
          refine wpQuiet_nil ?_
          intro w8 hb8
          obtain ⟨two, htwo⟩ : ∃ x, x = add32 (S0 s.a) (maj s.a s.b s.c) := ⟨_, rfl⟩
          have hb78 : Below wr.heap.size wr w8 := Below.step hb7 hb8
          have hV8 := hV.kept hb78
          have c8 : ∀ i, w8.cell? ⟨G8, i, none⟩ = (stc s)[i]? := fun i => hV8.cell i
          have f8 : ∀ i, w8.frozen? ⟨G8, i, none⟩ = false := fun i => hV8.free i
          simp only [stc_eq] at c8
          go_wp2_with fail
          obtain ⟨hs, hq, hkt⟩ := HS.out
          have hnx : (⟨add32 one (add32 (S0 s.a) (maj s.a s.b s.c)), s.a, s.b, s.c, add32 s.d one, s.e, s.f, s.g⟩ : Bul.St) = Bul.stAt m h0 (t + 1) := by
            rw [Bul.stAt, ← hs, ← hq, ← hkt, HONE.out]
            rfl
          have hnext := hI.next (w8 := w8) hb78 (by omega) (by omega) (by omega) _ _ _ _ _ _ _ _ hnx
          exact ⟨⟨t + 1, by omega, by go_num, hnext⟩, by simp [intOf]; omega⟩
        · clear hI
          obtain rfl : t = 64 := by omega
          obtain ⟨v, hv⟩ : ∃ v, v = Bul.stAt m h0 64 := ⟨_, rfl⟩
          rw [← hv] at hV
          have HV := Lib.hid hv
          have hszr := hold.size
          have hG8r := hV.lt
          clear hv hlt ht64 hW
          obtain ⟨B2, hB2⟩ : ∃ B, B = w2.heap.size := ⟨_, rfl⟩
          rw [← hB2] at hP
          have hB2' : w.heap.size + 1 < B2 := by rw [hB2]; omega
          have HB2 := Lib.hid hB2
          clear hB2
          rw [show ((64 : Nat) : Int) = 64 from rfl]
          go_wp2_with fail
          go_loopw [12] (fun i w3 => ∃ j : Nat, j ≤ 8 ∧ i = .int .i64 (j : Nat) ∧ AddInv w G4 G8 B2 G7 K0 z P ad N h0 v j w3) (fun i _ => 8 - (intOf i).toNat)
          case atStart => exact ⟨0, by omega, rfl, ⟨h0.list, rfl, fun k hk => by rw [if_neg (by omega)], hH⟩, hV, hK, hP, hres, hold⟩
          case round =>
            clear hV hH hK hP hres hold
            obtain ⟨j, hj8, rfl, hA⟩ := hrel
            by_cases hlt : j < 8
            · obtain ⟨l, hl, hlk, hB⟩ := hA.h
              obtain ⟨x, hx⟩ : ∃ x, x = h0.list.getD j 0 := ⟨_, rfl⟩
              obtain ⟨y, hy⟩ : ∃ y, y = v.list.getD j 0 := ⟨_, rfl⟩
              have c1 : wr.drew.cell? ⟨w.heap.size + 1, j, none⟩ = some (.int .u32 (x : Nat)) := by rw [hB.drew.num (by omega), hlk j hlt, if_neg (by omega), hx]
              have c2 : wr.drew.cell? ⟨G8, j, none⟩ = some (.int .u32 (y : Nat)) := by rw [(show Blk wr.drew G8 82 (cellsOf .u32 v.list) from hA.v.drew).num (by rw [stl_length]; exact hlt), hy]
              have f1 : wr.drew.frozen? ⟨w.heap.size + 1, j, none⟩ = false := hB.drew.free _
              have bj : (j : Int) < 8 := by omega
              have W32 : ∀ a b : Nat, IntKind.u32.wrap (↑a + ↑b) = ((Bul.add32 a b : Nat) : Int) := fun a b => by rw [IntKind.wrap_u32]; simp [Bul.add32]
              have H := Lib.hid (And.intro hx hy)
              clear hx hy hl hlk hB
              go_wp2_with fail
              refine Go.Bul.wp_region_class_tail (fun w' => w' = Go.World.drew _) 9 (by kernel_rfl) (by kernel_rfl) rfl ?_
              simp only [List.take_succ_cons, List.take_zero, List.drop_succ_cons, List.drop_zero]
              repeat (quiet_step (fail))
              refine wpQuiet_nil ?_
              rintro w' rfl
              go_wp2_with fail
              obtain ⟨hx, hy⟩ := H.out
              rw [hx, hy]
              exact ⟨⟨j + 1, by omega, by go_num, hA.next hlt (by omega) (by omega) (by omega)⟩, by simp [intOf]; omega⟩
            · obtain rfl : j = 8 := by omega
              go_wp2_with fail
              have hob' := HOb.out
              obtain ⟨hh0, hm, _⟩ := HH0.out
              have hab := after_block P b (by rw [hA.p.len]; omega)
              rw [← hob', ← hh0, ← hm, compress, ← HV.out] at hab
              refine ⟨⟨b + 1, by omega, by rw [hob']; go_num, by rw [hab]; exact hA.done, hA.k, ?_, hA.r, hA.old⟩, by simp [intOf]; omega⟩
              rw [← HB2.out]
              exact hA.p.imp (fun g _ h => h.1)
    · have hPl := hP.len
      have hbN : 64 * b = N := by omega
      rw [hbN] at hH ⊢
      rw [List.take_of_length_le (by omega)] at hH
      obtain ⟨S, hS⟩ : ∃ S, S = after P := ⟨_, rfl⟩
      have hSo : S.Ok := by rw [hS]; exact after_ok _
      have hsha : S.out = sha bs := by rw [sha_after, hS, HP.out]
      rw [← hS] at hH
      have HSD := Lib.hid hsha
      have hszr := hold.size
      have hGr := hH.lt
      clear hS hsha hPl hbN hlt hP hK
      go_wp2_with (first
        | (with_reducible refine wpList_alloc_zero rfl 41 rfl _ hz ?_))
      obtain ⟨G, hG⟩ : ∃ G, G = wr.heap.size := ⟨_, rfl⟩
      rw [← hG]
      go_loopw [14] (fun i w3 => ∃ j : Nat, j ≤ 32 ∧ i = .int .i64 (j : Nat) ∧ OutInv w S G z j w3) (fun i _ => 32 - (intOf i).toNat)
      case atStart => exact ⟨0, by omega, rfl, hH.alloc _, ⟨z, hzl, fun j hj => by omega, hG ▸ Blk.new wr _ _⟩, hres.alloc _, hold.alloc hszr _⟩
      case round =>
        have hG1 : w.heap.size + 1 < G := by omega
        clear hH hres hold hG hGr hszr
        obtain ⟨i, hi, rfl, hO⟩ := hrel
        by_cases hlt : i < 32
        · obtain ⟨q, r, hqr, hr4⟩ : ∃ q r, i = 4 * q + r ∧ r < 4 := ⟨i / 4, i % 4, by omega, by omega⟩
          obtain ⟨l, hl, hlk, hB⟩ := hO.o
          obtain ⟨x, hx⟩ : ∃ x, x = S.list.getD q 0 := ⟨_, rfl⟩
          have c1 : wr.cell? ⟨w.heap.size + 1, q, none⟩ = some (.int .u32 (x : Nat)) := by rw [(show Blk wr (w.heap.size + 1) 82 (cellsOf .u32 S.list) from hO.h).num (by rw [stl_length]; omega), hx]
          have c2 : wr.cell? ⟨G, i, none⟩ = some (.int .u8 (l.getD i 0 : Nat)) := hB.num (by omega)
          have f2 : wr.frozen? ⟨G, i, none⟩ = false := hB.free _
          have bx : x < 4294967296 := by rw [hx]; exact list_lt hSo q
          have bi : (i : Int) < 32 := by omega
          have bq : (q : Int) < 8 := by omega
          have eq4 : (i : Int) / 4 = (q : Int) := by omega
          have er4 : (i : Int) % 4 = (r : Int) := by omega
          have ho := out_getD S q (by omega)
          rw [← hx] at ho
          have H := Lib.hid (And.intro ho hqr)
          clear ho hqr hx hl hlk hB
          rcases (show r = 0 ∨ r = 1 ∨ r = 2 ∨ r = 3 by omega) with rfl | rfl | rfl | rfl
          · go_wp2_with fail
            obtain ⟨ho, hqr⟩ := H.out
            exact ⟨⟨i + 1, by omega, by go_num, hO.next hlt hG1 _ (by rw [show i = 4 * q by omega, ho.1]; omega)⟩, by simp [intOf]; omega⟩
          · go_wp2_with fail
            obtain ⟨ho, hqr⟩ := H.out
            exact ⟨⟨i + 1, by omega, by go_num, hO.next hlt hG1 _ (by rw [show i = 4 * q + 1 by omega, ho.2.1]; omega)⟩, by simp [intOf]; omega⟩
          · go_wp2_with fail
            obtain ⟨ho, hqr⟩ := H.out
            exact ⟨⟨i + 1, by omega, by go_num, hO.next hlt hG1 _ (by rw [show i = 4 * q + 2 by omega, ho.2.2.1]; omega)⟩, by simp [intOf]; omega⟩
          · go_wp2_with fail
            obtain ⟨ho, hqr⟩ := H.out
            exact ⟨⟨i + 1, by omega, by go_num, hO.next hlt hG1 _ (by rw [show i = 4 * q + 3 by omega, ho.2.2.2]; omega)⟩, by simp [intOf]; omega⟩
        · obtain rfl : i = 32 := by omega
          have hout := hO.done
          rw [HSD.out] at hout
          have hr2 := hO.r
          have hold2 := hO.old
          clear hO
          go_wp2_with (first
            | (refine wpList_load_blk rfl 41 (.tmp 13) rfl G rfl 41 (cellsOf .u8 (sha bs)) 32 _ hout Tryd.underlying41 rfl size_b32 (by simp [sha_length]) ?_)
            | (refine wpList_store_blk rfl 41 (.tmp 2) (.tmp 149) rfl w.heap.size rfl (cellsOf .u8 (sha bs)) rfl 41 (cellsOf .u8 z) 32 hr2 size_b32 (by simp [sha_length]) (by simp [hzl]) (vals_one _ _) rfl ?_; intro w5 hw5; have HW5 := Lib.hid hw5; clear hw5))
          exact bodyPost_ret (results_cell_row rfl _ _ w.heap.size _ _ _ _ rfl (by rw [HW5.out]; exact hr2.row _) Tryd.underlying41 rfl (by rw [size_b32]; simp [sha_length])) rfl ⟨rfl, by rw [HW5.out]; exact below_setRow hold2 (Nat.le_refl _) _⟩
end Go.Proofs.YtpigmibaeoceaaaDoor
