/- Contract of the reference's schedule. Condition: the slice reads as 64 bytes. -/
import Derived.Test.YtpigmibaeoceaaaDoorZg
namespace Go.Proofs.YtpigmibaeoceaaaDoor
open Go Go.RowKit Go.Bul
theorem or_word (a b c d : Nat) (ha : a < 256) (hb : b < 256) (hc : c < 256) (hd : d < 256) (p q r : Int) (hp : p = ((a * 16777216 : Nat) : Int)) (hq : q = ((b * 65536 : Nat) : Int)) (hr : r = ((c * 256 : Nat) : Int)) :
    bits .or .u32 (bits .or .u32 (bits .or .u32 p q) r) (d : Int) = ((((a * 256 + b) * 256 + c) * 256 + d : Nat) : Int) := by
  subst hp hq hr
  have h1 : a * 16777216 ||| b * 65536 = a * 16777216 + b * 65536 := by
    have := Nat.two_pow_add_eq_or_of_lt (i := 24) (b := b * 65536) (by omega) a
    rw [Nat.mul_comm a, show (16777216 : Nat) = 2 ^ 24 by decide, ← this]
  have h2 : (a * 16777216 + b * 65536) ||| c * 256 = a * 16777216 + b * 65536 + c * 256 := by
    have := Nat.two_pow_add_eq_or_of_lt (i := 16) (b := c * 256) (by omega) (a * 256 + b)
    rw [show a * 16777216 + b * 65536 = 2 ^ 16 * (a * 256 + b) by omega, ← this]
  have h3 : (a * 16777216 + b * 65536 + c * 256) ||| d = a * 16777216 + b * 65536 + c * 256 + d := by
    have := Nat.two_pow_add_eq_or_of_lt (i := 8) (b := d) (by omega) (a * 65536 + b * 256 + c)
    rw [show a * 16777216 + b * 65536 + c * 256 = 2 ^ 8 * (a * 65536 + b * 256 + c) by omega, ← this]
  rw [u32_or_nat _ _ (by omega) (by omega), h1, u32_or_nat _ _ (by omega) (by omega), h2, u32_or_nat _ _ (by omega) (by omega), h3]
  rw [show a * 16777216 + b * 65536 + c * 256 + d = ((a * 256 + b) * 256 + c) * 256 + d by omega]
structure SchInv (w : World) (m : Nat → Nat) (t : Nat) (wr : World) : Prop where
  res : Blk wr w.heap.size 83 (cellsOf .u32 (List.replicate 64 0))
  ex : ∃ l : List Nat, l.length = 64 ∧ (∀ i, i < t → l.getD i 0 = W m i) ∧ Blk wr (w.heap.size + 1) 83 (cellsOf .u32 l)
  old : Below w.heap.size w wr
theorem SchInv.next {w wr : World} {m : Nat → Nat} {k : Nat} (h : SchInv w m k wr) (hk : k < 64) : SchInv w m (k + 1) (wr.setCell ⟨w.heap.size + 1, k, none⟩ (.int .u32 (W m k : Nat))).drew := by
  obtain ⟨hres, ⟨l, hl, hlk, hB⟩, hold⟩ := h
  refine ⟨(hres.far (by dsimp only; omega) _).drew, ⟨l.set k (W m k), by simp [hl], fun i hi => ?_, ?_⟩, (hold.setCell (by simp) _).drew⟩
  · rw [getD_set _ _ _ _ (by omega)]
    split
    · rename_i he; rw [he]
    · rename_i he; exact hlk i (by omega)
  · rw [← cellsOf_set]
    exact (hB.set _ _).drew
theorem SchInv.next' {w wr : World} {m : Nat → Nat} {k : Nat} (h : SchInv w m k wr) (hk : k < 64) : SchInv w m (k + 1) (wr.setCell ⟨w.heap.size + 1, k, none⟩ (.int .u32 (W m k : Nat))) := by
  obtain ⟨hres, ⟨l, hl, hlk, hB⟩, hold⟩ := h
  refine ⟨hres.far (by dsimp only; omega) _, ⟨l.set k (W m k), by simp [hl], fun i hi => ?_, ?_⟩, hold.setCell (by simp) _⟩
  · rw [getD_set _ _ _ _ (by omega)]
    split
    · rename_i he; rw [he]
    · rename_i he; exact hlk i (by omega)
  · rw [← cellsOf_set]
    exact hB.set _ _
theorem ref_rotb (x n : Nat) (w : World) (hx : x < 4294967296) (hn : IsRot n) (y : Int) (hy : y = (n : Int)) :
    Calls Tryd.prog 45 #[.int .u32 x, .int .i64 y] w fun e w' => e = .returned (.int .u32 (Bul.rotr x n : Nat)) ∧ Below w.heap.size w w' :=
  (ref_rot x n w hx hn y hy).mono fun e w' ⟨h1, m, h2⟩ => ⟨h1, by rw [h2]; exact below_drewN (Below.refl _ _) _⟩
set_option maxRecDepth 20000 in
set_option maxHeartbeats 2000000 in
theorem ref_schedule (bs : List Nat) (A : Option Addr) (c : Nat) (ok : Nat → Prop) (w : World) (hr : Rd w ok A 64 bs) :
    Calls Tryd.prog 44 #[.slice A 64 c] w fun e w' => e = .returned (.agg (cellsOf .u32 ((List.range 64).map (W (word bs))))) ∧ Below w.heap.size w w' := by
  obtain ⟨ad, rfl, _, hadlt, hcells⟩ := hr.at_ (by omega)
  have HR := Lib.hid hr
  have HC := Lib.hid hcells
  have hz := zero_w64
  obtain ⟨z, hzz⟩ : ∃ z, z = List.replicate 64 0 := ⟨_, rfl⟩
  rw [← hzz] at hz
  have hzl : z.length = 64 := by rw [hzz]; simp
  have HZ := Lib.hid hzz
  clear hr hcells hzz
  go_enter Tryd.func44, Tryd.ntmps44
  go_wp2_with (first
    | (with_reducible refine wpList_alloc_zero rfl 83 rfl _ hz ?_))
  go_loopw [4] (fun i wr => ∃ k : Nat, k ≤ 64 ∧ i = .int .i64 (k : Nat) ∧ SchInv w (word bs) k wr) (fun i _ => 64 - (intOf i).toNat)
  case atStart =>
    refine ⟨0, by omega, rfl, ?_, ⟨z, hzl, fun i hi => by omega, Blk.new' _ _ _ _ (by simp)⟩, ?_⟩
    · rw [← HZ.out]; exact (Blk.new w _ _).alloc _
    · exact ((Below.refl _ _).alloc (Nat.le_refl _) _).alloc (by simp) _
  case round =>
    obtain ⟨k, hk, rfl, hI⟩ := hrel
    obtain ⟨hres, ⟨l, hl, hlk, hB⟩, hold⟩ := hI
    by_cases hlt : k < 64
    · by_cases hlo : k < 16
      · have hcw : ∀ i, i < 64 → wr.drew.cell? (ad.add i) = some (.int .u8 (bs.getD i 0 : Nat)) := fun i hi => by
          have h0 := HC.out i hi
          rw [← hold.cell (by rw [block_of_add]; exact hadlt)] at h0
          exact h0
        obtain ⟨x0, hx0⟩ : ∃ x, x = bs.getD (4 * k) 0 := ⟨_, rfl⟩
        obtain ⟨x1, hx1⟩ : ∃ x, x = bs.getD (4 * k + 1) 0 := ⟨_, rfl⟩
        obtain ⟨x2, hx2⟩ : ∃ x, x = bs.getD (4 * k + 2) 0 := ⟨_, rfl⟩
        obtain ⟨x3, hx3⟩ : ∃ x, x = bs.getD (4 * k + 3) 0 := ⟨_, rfl⟩
        obtain ⟨j0, hj0⟩ : ∃ x, x = 4 * k := ⟨_, rfl⟩
        obtain ⟨j1, hj1⟩ : ∃ x, x = 4 * k + 1 := ⟨_, rfl⟩
        obtain ⟨j2, hj2⟩ : ∃ x, x = 4 * k + 2 := ⟨_, rfl⟩
        obtain ⟨j3, hj3⟩ : ∃ x, x = 4 * k + 3 := ⟨_, rfl⟩
        have c0 := hcw (4 * k) (by omega)
        have c1 := hcw (4 * k + 1) (by omega)
        have c2 := hcw (4 * k + 2) (by omega)
        have c3 := hcw (4 * k + 3) (by omega)
        have e0 : IntKind.i64.wrap (4 * (k : Int)) = (j0 : Int) := by rw [IntWalk.i64_in _ (by omega)]; omega
        have e1 : IntKind.i64.wrap ((j0 : Int) + 1) = (j1 : Int) := by rw [IntWalk.i64_in _ (by omega)]; omega
        have e2 : IntKind.i64.wrap ((j0 : Int) + 2) = (j2 : Int) := by rw [IntWalk.i64_in _ (by omega)]; omega
        have e3 : IntKind.i64.wrap ((j0 : Int) + 3) = (j3 : Int) := by rw [IntWalk.i64_in _ (by omega)]; omega
        have i0 : (j0 : Int) < 64 := by omega
        have i1 : (j1 : Int) < 64 := by omega
        have i2 : (j2 : Int) < 64 := by omega
        have i3 : (j3 : Int) < 64 := by omega
        rw [← hx0] at c0
        rw [← hx1] at c1
        rw [← hx2] at c2
        rw [← hx3] at c3
        have l0 : x0 < 256 := by rw [hx0]; exact HR.out.bytes.getD _
        have l1 : x1 < 256 := by rw [hx1]; exact HR.out.bytes.getD _
        have l2 : x2 < 256 := by rw [hx2]; exact HR.out.bytes.getD _
        have l3 : x3 < 256 := by rw [hx3]; exact HR.out.bytes.getD _
        obtain ⟨p0, hp0⟩ : ∃ x, x = x0 * 16777216 := ⟨_, rfl⟩
        obtain ⟨p1, hp1⟩ : ∃ x, x = x1 * 65536 := ⟨_, rfl⟩
        obtain ⟨p2, hp2⟩ : ∃ x, x = x2 * 256 := ⟨_, rfl⟩
        have hor := or_word x0 x1 x2 x3 l0 l1 l2 l3 p0 p1 p2 (by rw [hp0]) (by rw [hp1]) (by rw [hp2])
        obtain ⟨y, hy⟩ : ∃ y, y = ((x0 * 256 + x1) * 256 + x2) * 256 + x3 := ⟨_, rfl⟩
        rw [← hy] at hor
        have u0 : IntKind.u32.wrap (x0 : Int) = (x0 : Int) := by rw [IntKind.wrap_u32]; omega
        have u1 : IntKind.u32.wrap (x1 : Int) = (x1 : Int) := by rw [IntKind.wrap_u32]; omega
        have u2 : IntKind.u32.wrap (x2 : Int) = (x2 : Int) := by rw [IntKind.wrap_u32]; omega
        have u3 : IntKind.u32.wrap (x3 : Int) = (x3 : Int) := by rw [IntKind.wrap_u32]; omega
        have v0 : IntKind.u32.wrap ((x0 : Int) * 16777216) = (p0 : Int) := by rw [IntKind.wrap_u32]; omega
        have v1 : IntKind.u32.wrap ((x1 : Int) * 65536) = (p1 : Int) := by rw [IntKind.wrap_u32]; omega
        have v2 : IntKind.u32.wrap ((x2 : Int) * 256) = (p2 : Int) := by rw [IntKind.wrap_u32]; omega
        have H := Lib.hid (And.intro hx0 (And.intro hx1 (And.intro hx2 (And.intro hx3 hy))))
        have ck : wr.drew.cell? ⟨w.heap.size + 1, k, none⟩ = some (.int .u32 (l.getD k 0 : Nat)) := hB.drew.num (by omega)
        have kI : (k : Int) < 64 := by omega
        have kJ : (k : Int) < 16 := by omega
        have f0 : wr.drew.frozen? ⟨w.heap.size + 1, k, none⟩ = false := hB.free _
        rw [← hj0] at c0
        rw [← hj1] at c1
        rw [← hj2] at c2
        rw [← hj3] at c3
        clear hj0 hj1 hj2 hj3
        clear hx0 hx1 hx2 hx3 hcw hp0 hp1 hp2 hy
        go_wp2_with fail
        refine Go.Bul.wp_region_class_tail (fun w' => w' = Go.World.drew _) 35 (by kernel_rfl) (by kernel_rfl) rfl ?_
        simp only [List.take_succ_cons, List.take_zero, List.drop_succ_cons, List.drop_zero]
        repeat (quiet_step (fail))
        refine wpQuiet_nil ?_
        rintro w' rfl
        go_wp2_with fail
        obtain ⟨hx0, hx1, hx2, hx3, hy⟩ := H.out
        have hyW : y = W (word bs) k := by rw [W_lo _ hlo, word, hy, hx0, hx1, hx2, hx3]
        rw [hyW]
        exact ⟨⟨k + 1, by omega, by go_num, (SchInv.mk hres ⟨l, hl, hlk, hB⟩ hold).next hlt⟩, by simp [intOf]; omega⟩
      · obtain ⟨x, hx⟩ : ∃ x, x = W (word bs) (k - 2) := ⟨_, rfl⟩
        obtain ⟨y, hy⟩ : ∃ y, y = W (word bs) (k - 15) := ⟨_, rfl⟩
        obtain ⟨u, hu⟩ : ∃ u, u = W (word bs) (k - 7) := ⟨_, rfl⟩
        obtain ⟨z, hz⟩ : ∃ z, z = W (word bs) (k - 16) := ⟨_, rfl⟩
        obtain ⟨j2, hj2⟩ : ∃ j, j = k - 2 := ⟨_, rfl⟩
        obtain ⟨j15, hj15⟩ : ∃ j, j = k - 15 := ⟨_, rfl⟩
        obtain ⟨j7, hj7⟩ : ∃ j, j = k - 7 := ⟨_, rfl⟩
        obtain ⟨j16, hj16⟩ : ∃ j, j = k - 16 := ⟨_, rfl⟩
        have e2 : IntKind.i64.wrap ((k : Int) - 2) = (j2 : Int) := by rw [IntWalk.i64_in _ (by omega)]; omega
        have e15 : IntKind.i64.wrap ((k : Int) - 15) = (j15 : Int) := by rw [IntWalk.i64_in _ (by omega)]; omega
        have e7 : IntKind.i64.wrap ((k : Int) - 7) = (j7 : Int) := by rw [IntWalk.i64_in _ (by omega)]; omega
        have e16 : IntKind.i64.wrap ((k : Int) - 16) = (j16 : Int) := by rw [IntWalk.i64_in _ (by omega)]; omega
        have b2 : (j2 : Int) < 64 := by omega
        have b15 : (j15 : Int) < 64 := by omega
        have b7 : (j7 : Int) < 64 := by omega
        have b16 : (j16 : Int) < 64 := by omega
        have hWlt : ∀ i, W (word bs) i < 4294967296 := fun i => W_lt (fun j _ => word_lt HR.out.bytes j) i
        have bx : x < 4294967296 := by rw [hx]; exact hWlt _
        have by_ : y < 4294967296 := by rw [hy]; exact hWlt _
        have c2 : wr.cell? ⟨w.heap.size + 1, j2, none⟩ = some (.int .u32 (x : Nat)) := by rw [hB.num (by omega), hlk _ (by omega), hj2, hx]
        have c15 : wr.cell? ⟨w.heap.size + 1, j15, none⟩ = some (.int .u32 (y : Nat)) := by rw [hB.num (by omega), hlk _ (by omega), hj15, hy]
        have c7 : wr.cell? ⟨w.heap.size + 1, j7, none⟩ = some (.int .u32 (u : Nat)) := by rw [hB.num (by omega), hlk _ (by omega), hj7, hu]
        have c16 : wr.cell? ⟨w.heap.size + 1, j16, none⟩ = some (.int .u32 (z : Nat)) := by rw [hB.num (by omega), hlk _ (by omega), hj16, hz]
        have kI : (k : Int) < 64 := by omega
        have kJ : (decide ((k : Int) < 16)) = false := by simp; omega
        have E0 : bits .xor .u32 (bits .xor .u32 ↑(rotr y 7) ↑(rotr y 18)) (↑y / 8) = ((Bul.s0 y : Nat) : Int) := s0_int y by_
        have E1 : bits .xor .u32 (bits .xor .u32 ↑(rotr x 17) ↑(rotr x 19)) (↑x / 1024) = ((Bul.s1 x : Nat) : Int) := s1_int x bx
        have W32 : ∀ a b : Nat, IntKind.u32.wrap (↑a + ↑b) = ((Bul.add32 a b : Nat) : Int) := fun a b => by rw [IntKind.wrap_u32]; simp [Bul.add32]
        have H := Lib.hid (And.intro hx (And.intro hy (And.intro hu hz)))
        have HJ := Lib.hid (And.intro hj2 (And.intro hj15 (And.intro hj7 hj16)))
        clear hx hy hu hz hj2 hj15 hj7 hj16
        have hsz := hold.size
        go_wp2_with fail
        go_quiet (fail)
        go_wp2_with fail
        refine wp_named (fun wb hwb => ?_)
        have hbw : Below wr.heap.size wr wb := by rw [hwb]; exact below_drewN (Below.refl _ _) _
        have kB := hB.kept hbw
        have kR := hres.kept hbw
        have kO := Below.step hold hbw
        have F : Hid (∀ w' : World, Below wb.heap.size wb w' → w'.cell? ⟨w.heap.size + 1, j7, none⟩ = some (.int .u32 (u : Nat)) ∧ w'.cell? ⟨w.heap.size + 1, j16, none⟩ = some (.int .u32 (z : Nat))) := fun w' hb => by
          constructor
          · rw [(kB.kept hb).cell, ← hB.cell]; exact c7
          · rw [(kB.kept hb).cell, ← hB.cell]; exact c16
        clear c2 c15 c7 c16 hwb
        refine Go.Bul.wp_region_class_tail (fun w' => Below wb.heap.size wb w') 29 (by kernel_rfl) (by kernel_rfl) (Below.drew (Below.refl _ _)) ?_
        simp only [List.take_succ_cons, List.take_zero, List.drop_succ_cons, List.drop_zero]
        refine wpQuiet_step (fun K hK => ?_)
        refine Go.Bul.quiet_some rfl ?_
        apply Exists.intro
        refine ⟨fun w' hw' => ?_, ?_⟩
        · skip
          go_simp
          rfl
        go_simp
        refine hK _ ?_
        clear hK K
        refine wpQuiet_step (fun K hK => ?_)
        refine Go.Bul.quiet_some rfl ?_
        apply Exists.intro
        refine ⟨fun w' hw' => ?_, ?_⟩
        · skip
          go_simp
          rfl
        go_simp
        refine hK _ ?_
        clear hK K
        refine wpQuiet_step (fun K hK => ?_)
        refine Go.Bul.quiet_some rfl ?_
        apply Exists.intro
        refine ⟨fun w' hw' => ?_, ?_⟩
        · go_simp
          exact Go.Bul.quiet_call hw' (ref_rotb x 17 w' bx (by simp [IsRot]) 17 rfl)
        go_simp
        refine hK _ ?_
        clear hK K
        refine wpQuiet_step (fun K hK => ?_)
        refine Go.Bul.quiet_some rfl ?_
        apply Exists.intro
        refine ⟨fun w' hw' => ?_, ?_⟩
        · skip
          go_simp
          rfl
        go_simp
        refine hK _ ?_
        clear hK K
        refine wpQuiet_step (fun K hK => ?_)
        refine Go.Bul.quiet_some rfl ?_
        apply Exists.intro
        refine ⟨fun w' hw' => ?_, ?_⟩
        · go_simp
          exact Go.Bul.quiet_call hw' (ref_rotb x 19 w' bx (by simp [IsRot]) 19 rfl)
        go_simp
        refine hK _ ?_
        clear hK K
        refine wpQuiet_step (fun K hK => ?_)
        refine Go.Bul.quiet_some rfl ?_
        apply Exists.intro
        refine ⟨fun w' hw' => ?_, ?_⟩
        · skip
          go_simp
          rfl
        go_simp
        refine hK _ ?_
        clear hK K
        refine wpQuiet_step (fun K hK => ?_)
        refine Go.Bul.quiet_some rfl ?_
        apply Exists.intro
        refine ⟨fun w' hw' => ?_, ?_⟩
        · skip
          go_simp
          rfl
        go_simp
        refine hK _ ?_
        clear hK K
        refine wpQuiet_step (fun K hK => ?_)
        refine Go.Bul.quiet_some rfl ?_
        apply Exists.intro
        refine ⟨fun w' hw' => ?_, ?_⟩
        · skip
          go_simp
          rfl
        go_simp
        refine hK _ ?_
        clear hK K
        refine wpQuiet_step (fun K hK => ?_)
        refine Go.Bul.quiet_some rfl ?_
        apply Exists.intro
        refine ⟨fun w' hw' => ?_, ?_⟩
        · skip
          go_simp
          rfl
        go_simp
        refine hK _ ?_
        clear hK K
        refine wpQuiet_step (fun K hK => ?_)
        refine Go.Bul.quiet_some rfl ?_
        apply Exists.intro
        refine ⟨fun w' hw' => ?_, ?_⟩
        · skip
          go_simp
          rfl
        go_simp
        refine hK _ ?_
        clear hK K
        refine wpQuiet_step (fun K hK => ?_)
        refine Go.Bul.quiet_some rfl ?_
        apply Exists.intro
        refine ⟨fun w' hw' => ?_, ?_⟩
        · skip
          go_simp
          rfl
        go_simp
        refine hK _ ?_
        clear hK K
        refine wpQuiet_step (fun K hK => ?_)
        refine Go.Bul.quiet_some rfl ?_
        apply Exists.intro
        refine ⟨fun w' hw' => ?_, ?_⟩
        · skip
          go_simp
          rfl
        go_simp
        refine hK _ ?_
        clear hK K
        refine wpQuiet_step (fun K hK => ?_)
        refine Go.Bul.quiet_some rfl ?_
        apply Exists.intro
        refine ⟨fun w' hw' => ?_, ?_⟩
        · obtain ⟨f1, f2⟩ := F.out w' hw'
          go_simp
          rfl
        go_simp
        refine hK _ ?_
        clear hK K
        refine wpQuiet_step (fun K hK => ?_)
        refine Go.Bul.quiet_some rfl ?_
        apply Exists.intro
        refine ⟨fun w' hw' => ?_, ?_⟩
        · skip
          go_simp
          rfl
        go_simp
        refine hK _ ?_
        clear hK K
        refine wpQuiet_step (fun K hK => ?_)
        refine Go.Bul.quiet_some rfl ?_
        apply Exists.intro
        refine ⟨fun w' hw' => ?_, ?_⟩
        · skip
          go_simp
          rfl
        go_simp
        refine hK _ ?_
        clear hK K
        refine wpQuiet_step (fun K hK => ?_)
        refine Go.Bul.quiet_some rfl ?_
        apply Exists.intro
        refine ⟨fun w' hw' => ?_, ?_⟩
        · go_simp
          exact Go.Bul.quiet_call hw' (ref_rotb y 7 w' by_ (by simp [IsRot]) 7 rfl)
        go_simp
        refine hK _ ?_
        clear hK K
        refine wpQuiet_step (fun K hK => ?_)
        refine Go.Bul.quiet_some rfl ?_
        apply Exists.intro
        refine ⟨fun w' hw' => ?_, ?_⟩
        · skip
          go_simp
          rfl
        go_simp
        refine hK _ ?_
        clear hK K
        refine wpQuiet_step (fun K hK => ?_)
        refine Go.Bul.quiet_some rfl ?_
        apply Exists.intro
        refine ⟨fun w' hw' => ?_, ?_⟩
        · go_simp
          exact Go.Bul.quiet_call hw' (ref_rotb y 18 w' by_ (by simp [IsRot]) 18 rfl)
        go_simp
        refine hK _ ?_
        clear hK K
        refine wpQuiet_step (fun K hK => ?_)
        refine Go.Bul.quiet_some rfl ?_
        apply Exists.intro
        refine ⟨fun w' hw' => ?_, ?_⟩
        · skip
          go_simp
          rfl
        go_simp
        refine hK _ ?_
        clear hK K
        refine wpQuiet_step (fun K hK => ?_)
        refine Go.Bul.quiet_some rfl ?_
        apply Exists.intro
        refine ⟨fun w' hw' => ?_, ?_⟩
        · skip
          go_simp
          rfl
        go_simp
        refine hK _ ?_
        clear hK K
        refine wpQuiet_step (fun K hK => ?_)
        refine Go.Bul.quiet_some rfl ?_
        apply Exists.intro
        refine ⟨fun w' hw' => ?_, ?_⟩
        · skip
          go_simp
          rfl
        go_simp
        refine hK _ ?_
        clear hK K
        refine wpQuiet_step (fun K hK => ?_)
        refine Go.Bul.quiet_some rfl ?_
        apply Exists.intro
        refine ⟨fun w' hw' => ?_, ?_⟩
        · skip
          go_simp
          rfl
        go_simp
        refine hK _ ?_
        clear hK K
        refine wpQuiet_step (fun K hK => ?_)
        refine Go.Bul.quiet_some rfl ?_
        apply Exists.intro
        refine ⟨fun w' hw' => ?_, ?_⟩
        · skip
          go_simp
          rfl
        go_simp
        refine hK _ ?_
        clear hK K
        refine wpQuiet_step (fun K hK => ?_)
        refine Go.Bul.quiet_some rfl ?_
        apply Exists.intro
        refine ⟨fun w' hw' => ?_, ?_⟩
        · skip
          go_simp
          rfl
        go_simp
        refine hK _ ?_
        clear hK K
        refine wpQuiet_step (fun K hK => ?_)
        refine Go.Bul.quiet_some rfl ?_
        apply Exists.intro
        refine ⟨fun w' hw' => ?_, ?_⟩
        · skip
          go_simp
          rfl
        go_simp
        refine hK _ ?_
        clear hK K
        refine wpQuiet_step (fun K hK => ?_)
        refine Go.Bul.quiet_some rfl ?_
        apply Exists.intro
        refine ⟨fun w' hw' => ?_, ?_⟩
        · skip
          go_simp
          rfl
        go_simp
        refine hK _ ?_
        clear hK K
        refine wpQuiet_step (fun K hK => ?_)
        refine Go.Bul.quiet_some rfl ?_
        apply Exists.intro
        refine ⟨fun w' hw' => ?_, ?_⟩
        · obtain ⟨f1, f2⟩ := F.out w' hw'
          go_simp
          rfl
        go_simp
        refine hK _ ?_
        clear hK K
        refine wpQuiet_step (fun K hK => ?_)
        refine Go.Bul.quiet_some rfl ?_
        apply Exists.intro
        refine ⟨fun w' hw' => ?_, ?_⟩
        · skip
          go_simp
          rfl
        go_simp
        refine hK _ ?_
        clear hK K
        refine wpQuiet_step (fun K hK => ?_)
        refine Go.Bul.quiet_some rfl ?_
        apply Exists.intro
        refine ⟨fun w' hw' => ?_, ?_⟩
        · skip
          go_simp
          rfl
        go_simp
        refine hK _ ?_
        clear hK K
        refine wpQuiet_nil ?_
        intro w2 hb2
        have kB2 := kB.kept hb2
        have kR2 := kR.kept hb2
        have kO2 := Below.step kO hb2
        have f0 : w2.frozen? ⟨w.heap.size + 1, k, none⟩ = false := kB2.free _
        have ck : w2.cell? ⟨w.heap.size + 1, k, none⟩ = some (.int .u32 (l.getD k 0 : Nat)) := kB2.num (by omega)
        go_wp2_with fail
        obtain ⟨hx, hy, hu, hz⟩ := H.out
        have hq : add32 (add32 (add32 (s1 x) u) (s0 y)) z = W (word bs) k := by
          obtain ⟨r, rfl⟩ : ∃ r, k = r + 16 := ⟨k - 16, by omega⟩
          rw [Bul.W_hi, hz, hu, hx, hy]
          simp only [Nat.add_sub_cancel, show r + 16 - 7 = r + 9 from rfl, show r + 16 - 15 = r + 1 from rfl, show r + 16 - 2 = r + 14 from rfl]
        rw [hq]
        exact ⟨⟨k + 1, by omega, by go_num, (SchInv.mk kR2 ⟨l, hl, hlk, kB2⟩ kO2).next' hlt⟩, by simp [intOf]; omega⟩
    · obtain rfl : k = 64 := by omega
      obtain ⟨L, hL⟩ : ∃ L, L = (List.range 64).map (W (word bs)) := ⟨_, rfl⟩
      have hLl : L.length = 64 := by rw [hL]; simp
      have hlL : l = L := by
        refine List.ext_getElem (by rw [hl, hLl]) (fun i h1 h2 => ?_)
        have := hlk i (by omega)
        simp only [List.getD, List.getElem?_eq_getElem h1, Option.getD_some] at this
        rw [this]
        subst hL
        simp
      subst hlL
      have hz64 : (List.replicate 64 0).length = 64 := by simp
      rw [← HZ.out] at hres hz64
      have HL := Lib.hid hL
      clear hL hlk
      go_wp2_with (first
        | (refine wpList_load_blk rfl 83 (.tmp 3) rfl (w.heap.size + 1) rfl 83 (cellsOf .u32 l) 64 _ hB Tryd.underlying83 rfl size_w64 (by simp [hl]) ?_)
        | (refine wpList_store_blk rfl 83 (.tmp 2) (.tmp 85) rfl w.heap.size rfl (cellsOf .u32 l) rfl 83 (cellsOf .u32 z) 64 hres size_w64 (by simp [hl]) (by simp [hzl]) (vals_one _ _) rfl ?_; intro w5 hw5; have HW5 := Lib.hid hw5; clear hw5))
      exact bodyPost_ret (results_cell_row rfl _ _ w.heap.size _ _ _ _ rfl (by rw [HW5.out]; exact hres.row _) Tryd.underlying83 rfl (by rw [size_w64]; simp [hl])) rfl ⟨by rw [← HL.out], by rw [HW5.out]; exact below_setRow hold (Nat.le_refl _) _⟩
end Go.Proofs.YtpigmibaeoceaaaDoor
