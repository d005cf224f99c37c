/- Contracts of onetime.Split and of its closure. Condition: the digest is 16 bytes. -/
import Derived.Test.YtpigmibaeoceaaaDoorZf
import Derived.Test.YtpigmibaeoceaaaDoorZc
import Derived.Test.YtpigmibaeoceaaaDoorProg
import Derived.WalkKit
import Derived.RegionTactic
namespace Go.Proofs.YtpigmibaeoceaaaDoor
open Go Go.RowKit Go.Bul
/-- What collect leaves. -/
structure Collected (w : World) (gd gn gs : Nat) (l : List Nat) (n s x : Nat) (w' : World) : Prop where
  d : Blk w' gd 56 (cellsOf .i64 (l.set n x))
  n : Blk w' gn 3 (cellsOf .i64 [n + 1])
  s : Blk w' gs 3 (cellsOf .i64 [s + (15 - x)])
  far : ∀ k t cs, Blk w k t cs → k ≠ gd → k ≠ gn → k ≠ gs → Blk w' k t cs
  below : ∀ B a, Below B a w → B ≤ gd → B ≤ gn → B ≤ gs → Below B a w'
theorem collect_any (gd gn gs : Nat) (l : List Nat) (n s x : Nat) (w : World) (hl : l.length = 35) (hn : n < 35) (hx : x ≤ 15) (hs : s ≤ 1000)
    (hD : Blk w gd 56 (cellsOf .i64 l)) (hN : Blk w gn 3 (cellsOf .i64 [n])) (hS : Blk w gs 3 (cellsOf .i64 [s])) (h1 : gd ≠ gn) (h2 : gd ≠ gs) (h3 : gn ≠ gs) (y : Int) (hy : y = (x : Int)) :
    Calls Tryd.prog 36 #[.int .i64 y, .pointer (some ⟨gd, 0, none⟩), .pointer (some ⟨gn, 0, none⟩), .pointer (some ⟨gs, 0, none⟩)] w fun e w' => e = .returned (.tuple #[]) ∧ Collected w gd gn gs l n s x w' := by
  subst hy
  have cd : w.cell? ⟨gd, n, none⟩ = some (.int .i64 (l.getD n 0 : Nat)) := hD.num (by omega)
  have fd : w.frozen? ⟨gd, n, none⟩ = false := hD.free _
  have cn : w.cell? ⟨gn, 0, none⟩ = some (.int .i64 (n : Nat)) := hN.num (i := 0) (by simp)
  have fn : w.frozen? ⟨gn, 0, none⟩ = false := hN.free _
  have cs : w.cell? ⟨gs, 0, none⟩ = some (.int .i64 (s : Nat)) := hS.num (i := 0) (by simp)
  have fs : w.frozen? ⟨gs, 0, none⟩ = false := hS.free _
  have bn : (n : Int) < 35 := by omega
  have h1' := Ne.symm h1
  have h2' := Ne.symm h2
  have h3' := Ne.symm h3
  go_enter Tryd.func36, Tryd.ntmps36
  go_wp2_with fail
  go_end0
  have e1 : (s : Int) + (15 - (x : Int)) = ((s + (15 - x) : Nat) : Int) := by omega
  have e2 : (n : Int) + 1 = ((n + 1 : Nat) : Int) := by omega
  rw [e1, e2]
  refine ⟨rfl, ⟨?_, ?_, ?_, fun k t cs h k1 k2 k3 => ((h.far k1 _).far k3 _).far k2 _, fun B a h b1 b2 b3 => ((h.setCell b1 _).setCell b3 _).setCell b2 _⟩⟩
  · have := ((hD.set n (.int .i64 (x : Nat))).far (p := ⟨gs, 0, none⟩) h2 (.int .i64 ((s + (15 - x) : Nat) : Int))).far (p := ⟨gn, 0, none⟩) h1 (.int .i64 ((n + 1 : Nat) : Int))
    rw [cellsOf_set] at this
    exact this
  · have := ((hN.far (p := ⟨gd, n, none⟩) h1' (.int .i64 (x : Nat))).far (p := ⟨gs, 0, none⟩) h3 (.int .i64 ((s + (15 - x) : Nat) : Int))).set 0 (.int .i64 ((n + 1 : Nat) : Int))
    rw [cellsOf_set] at this
    exact this
  · have := ((hS.far (p := ⟨gd, n, none⟩) h2' (.int .i64 (x : Nat))).set 0 (.int .i64 ((s + (15 - x) : Nat) : Int))).far (p := ⟨gn, 0, none⟩) h3' (.int .i64 ((n + 1 : Nat) : Int))
    rw [cellsOf_set] at this
    exact this
theorem zero_i35 : (Tryd.prog.info? 56).map (·.zero) = some (some (.agg (cellsOf .i64 (List.replicate 35 0)))) := by kernel_rfl
theorem size_i35 : (Tryd.prog.info? 56).map (·.size) = some 35 := by kernel_rfl
theorem size_a16 : (Tryd.prog.info? 22).map (·.size) = some 16 := by kernel_rfl
theorem size_u8s : (Tryd.prog.info? 5).map (·.size) = some 1 := by kernel_rfl
/-- After n digits of a digest: the blocks are the result's, the digits', n's and the checksum's. -/
structure SplInv (w : World) (b : List Nat) (k : Nat) (wr : World) : Prop where
  r : Blk wr (w.heap.size + 1) 56 (cellsOf .i64 (List.replicate 35 0))
  d : Blk wr (w.heap.size + 1 + 1) 56 (cellsOf .i64 (digits b k ++ List.replicate (35 - k) 0))
  n : Blk wr (w.heap.size + 1 + 1 + 1) 3 (cellsOf .i64 [k])
  s : Blk wr (w.heap.size + 1 + 1 + 1 + 1) 3 (cellsOf .i64 [cks b k])
  old : Below w.heap.size w wr
theorem digits_set (d : List Nat) (n : Nat) (hn : n < 35) : (digits d n ++ List.replicate (35 - n) 0).set n (dig d n) = digits d (n + 1) ++ List.replicate (35 - (n + 1)) 0 := by
  rw [digits_succ, List.set_append_right _ _ (by rw [digits_length]; omega), digits_length, Nat.sub_self, show 35 - n = (35 - (n + 1)) + 1 by omega, List.replicate_succ, List.set_cons_zero, List.append_assoc]
  rfl
theorem SplInv.next {w : World} {b : List Nat} {k x : Nat} {wr w' : World} (h : SplInv w b k wr) (hk : k < 35) (hx : dig b k = x)
    (hc : Collected wr (w.heap.size + 1 + 1) (w.heap.size + 1 + 1 + 1) (w.heap.size + 1 + 1 + 1 + 1) (digits b k ++ List.replicate (35 - k) 0) k (cks b k) x w') : SplInv w b (k + 1) w' := by
  refine ⟨hc.far _ _ _ h.r (by omega) (by omega) (by omega), ?_, hc.n, ?_, hc.below _ _ h.old (by omega) (by omega) (by omega)⟩
  · have := hc.d
    rw [← hx, digits_set b k hk] at this
    exact this
  · have := hc.s
    rw [← hx] at this
    exact this
theorem SplInv.collect {w : World} {b : List Nat} {k x : Nat} {wr : World} (h : SplInv w b k wr) (hk : k < 32) (hx : dig b k = x) (hx15 : x ≤ 15) (y : Int) (hy : y = (x : Int)) :
    Calls Tryd.prog 36 #[.int .i64 y, .pointer (some ⟨w.heap.size + 1 + 1, 0, none⟩), .pointer (some ⟨w.heap.size + 1 + 1 + 1, 0, none⟩), .pointer (some ⟨w.heap.size + 1 + 1 + 1 + 1, 0, none⟩)] wr fun e w' => e = .returned (.tuple #[]) ∧ SplInv w b (k + 1) w' := by
  have hc := cks_le b k
  exact (collect_any _ _ _ _ k (cks b k) x wr (by simp [digits_length]; omega) (by omega) hx15 (by omega) h.d h.n h.s (by omega) (by omega) (by omega) y hy).mono fun e w' ⟨h1, h2⟩ => ⟨h1, h.next (by omega) hx h2⟩
theorem and15' (b : Nat) (h : b < 256) : bits BinOp.and IntKind.u8 (b : Int) 15 = ((b % 16 : Nat) : Int) := by
  have : ∀ b : Fin 256, bits BinOp.and IntKind.u8 (b.val : Int) 15 = ((b.val % 16 : Nat) : Int) := by decide +kernel
  exact this ⟨b, h⟩
theorem and15i (c : Nat) (h : c ≤ 480) : bits BinOp.and IntKind.i64 (c : Int) 15 = ((c % 16 : Nat) : Int) := by
  have : ∀ c : Fin 481, bits BinOp.and IntKind.i64 (c.val : Int) 15 = ((c.val % 16 : Nat) : Int) := by decide +kernel
  exact this ⟨c, by omega⟩
theorem split_eq (d : List Nat) : (((digits d 32 ++ List.replicate 3 0).set 32 (cks d 32 / 256)).set 33 (cks d 32 / 16 % 16)).set 34 (cks d 32 % 16) = split d := by
  have h := digits_length d 32
  rw [List.set_append_right _ _ (by omega), List.set_append_right _ _ (by omega), List.set_append_right _ _ (by omega), h]
  rfl
set_option maxHeartbeats 1000000 in
theorem split_any (d : List Nat) (w : World) (hl : d.length = 16) (hb : Bytes d) :
    Calls Tryd.prog 21 #[.agg (cellsOf .u8 d)] w fun e w' => e = .returned (.agg (cellsOf .i64 (split d))) ∧ Below w.heap.size w w' := by
  have HB := Lib.hid hb
  have HL := Lib.hid hl
  have hix : ∀ (i : Nat), i < 16 → ∀ W, (Instr.index 22 (.agg (cellsOf .u8 d)) (.int .i64 (i : Nat))).run Tryd.prog W = .ok (.int .u8 (d.getD i 0 : Nat)) W := fun i hi W =>
    run_index_num (l := d) Tryd.underlying22 Tryd.underlying5 rfl size_u8s i hl hi W
  have HIX := Lib.hid hix
  clear hl hb hix
  go_enter Tryd.func21, Tryd.ntmps21
  go_wp2_with (first
    | (with_reducible refine wpList_alloc_zero rfl 56 rfl _ zero_i35 ?_)
    | (refine wpList_load_blk rfl 22 (.tmp 1) rfl w.heap.size rfl 22 (cellsOf .u8 d) 16 _ (show Blk (((((w.alloc (.cells (cellsOf .u8 d) 22)).alloc (.cells (cellsOf .i64 (List.replicate 35 0)) 56)).alloc (.cells (cellsOf .i64 (List.replicate 35 0)) 56)).alloc (.cells #[.int .i64 0] 3)).alloc (.cells #[.int .i64 0] 3)) w.heap.size 22 (cellsOf .u8 d) from (((((Blk.new w _ _).alloc _).alloc _).alloc _).alloc _)) Tryd.underlying22 rfl size_a16 (by simp [HL.out]) ?_))
  go_loopw [11] (fun i wr => ∃ k : Nat, k ≤ 16 ∧ i = .int .i64 (k : Nat) ∧ SplInv w d (2 * k) wr) (fun i _ => 16 - (intOf i).toNat)
  case atStart =>
    refine ⟨0, by omega, rfl, ?_, ?_, ?_, ?_, ?_⟩
    · exact (((Blk.new' _ _ _ _ (by simp)).alloc _).alloc _).alloc _
    · exact ((Blk.new' _ _ _ _ (by simp)).alloc _).alloc _
    · exact (Blk.new' _ _ _ _ (by simp)).alloc _
    · exact Blk.new' _ _ _ _ (by simp)
    · repeat' (first | with_reducible exact Below.refl _ _ | with_reducible assumption | with_reducible refine Below.setCell ?_ ?_ _ | with_reducible refine below_drewN ?_ _ | with_reducible refine Below.drew ?_ | with_reducible refine Below.alloc ?_ ?_ _)
      all_goals first | (simp; done) | (simp; omega) | omega
  case round =>
    obtain ⟨k, hk, rfl, hI⟩ := hrel
    by_cases hlt : k < 16
    · obtain ⟨x, hx⟩ : ∃ x, x = d.getD k 0 := ⟨_, rfl⟩
      have ix := HIX.out k hlt
      rw [← hx] at ix
      have hx256 : x < 256 := by rw [hx]; exact HB.out.getD k
      have a15 := and15' x hx256
      have hdk : dig d (2 * k) = x / 16 := by unfold dig; rw [if_pos (by omega), show 2 * k / 2 = k by omega, hx]
      have hdk1 : dig d (2 * k + 1) = x % 16 := by unfold dig; rw [if_neg (by omega), show (2 * k + 1) / 2 = k by omega, hx]
      have bk : (k : Int) < 16 := by omega
      have H := Lib.hid (And.intro hx (And.intro hdk hdk1))
      clear hx hdk hdk1
      go_wp2_with fail
      (with_reducible refine (hI.collect (by omega) H.out.2.1 (by omega) _ (by omega)).mono ?_)
      rintro e w1 ⟨rfl, hI1⟩
      go_wp2_with fail
      (with_reducible refine (hI1.collect (by omega) H.out.2.2 (by omega) _ (by omega)).mono ?_)
      rintro e w2 ⟨rfl, hI2⟩
      go_wp2_with fail
      exact ⟨⟨k + 1, by omega, by go_num, by rw [show 2 * (k + 1) = 2 * k + 1 + 1 by omega]; exact hI2⟩, by simp [intOf]; omega⟩
    · obtain rfl : k = 16 := by omega
      obtain ⟨hr, hd, hn, hs, hold⟩ := hI
      obtain ⟨c, hc⟩ : ∃ c, c = cks d 32 := ⟨_, rfl⟩
      have hcl : c ≤ 480 := by rw [hc]; exact cks_le d 32
      obtain ⟨D, hD⟩ : ∃ D, D = digits d 32 ++ List.replicate 3 0 := ⟨_, rfl⟩
      have hDl : D.length = 35 := by rw [hD]; simp [digits_length]
      rw [show 2 * 16 = 32 from rfl, ← hc] at hs
      rw [show 2 * 16 = 32 from rfl, show 35 - 32 = 3 from rfl, ← hD] at hd
      have c1 : wr.cell? ⟨w.heap.size + 1 + 1 + 1 + 1, 0, none⟩ = some (.int .i64 (c : Nat)) := hs.num (i := 0) (by simp)
      have d32 : wr.cell? ⟨w.heap.size + 1 + 1, 32, none⟩ = some (.int .i64 (D.getD 32 0 : Nat)) := hd.num (by omega)
      have d33 : wr.cell? ⟨w.heap.size + 1 + 1, 33, none⟩ = some (.int .i64 (D.getD 33 0 : Nat)) := hd.num (by omega)
      have d34 : wr.cell? ⟨w.heap.size + 1 + 1, 34, none⟩ = some (.int .i64 (D.getD 34 0 : Nat)) := hd.num (by omega)
      have ff : ∀ i, wr.frozen? ⟨w.heap.size + 1 + 1, i, none⟩ = false := fun i => hd.free i
      have f32 := ff 32
      have f33 := ff 33
      have f34 := ff 34
      have HD := Lib.hid (And.intro hc (And.intro hD hDl))
      clear hc hD hDl ff hn
      go_wp2_with fail
      go_region
      obtain ⟨hc, hD, hDl⟩ := HD.out
      have q1 : (c : Int) / 256 = ((c / 256 : Nat) : Int) := by omega
      have q2 : bits BinOp.and IntKind.i64 ((c : Int) / 16) 15 = ((c / 16 % 16 : Nat) : Int) := by
        rw [show (c : Int) / 16 = ((c / 16 : Nat) : Int) by omega]; exact and15i _ (by omega)
      have q3 := and15i c hcl
      rw [q1, q2, q3]
      generalize hw5 : (((wr.setCell ⟨w.heap.size + 1 + 1, 32, none⟩ (.int .i64 ((c / 256 : Nat) : Int))).setCell ⟨w.heap.size + 1 + 1, 33, none⟩ (.int .i64 ((c / 16 % 16 : Nat) : Int))).setCell ⟨w.heap.size + 1 + 1, 34, none⟩ (.int .i64 ((c % 16 : Nat) : Int))).drew = w5
      have hd5 : Blk w5 (w.heap.size + 1 + 1) 56 (cellsOf .i64 (split d)) := by
        rw [← hw5]
        have := ((hd.set 32 (.int .i64 ((c / 256 : Nat) : Int))).set 33 (.int .i64 ((c / 16 % 16 : Nat) : Int))).set 34 (.int .i64 ((c % 16 : Nat) : Int))
        rw [cellsOf_set, cellsOf_set, cellsOf_set, (show ((D.set 32 (c / 256)).set 33 (c / 16 % 16)).set 34 (c % 16) = split d by rw [hD, hc]; exact split_eq d)] at this
        exact this.drew
      have hr5 : Blk w5 (w.heap.size + 1) 56 (cellsOf .i64 (List.replicate 35 0)) := by
        rw [← hw5]; exact (((hr.far (by dsimp only; omega) _).far (by dsimp only; omega) _).far (by dsimp only; omega) _).drew
      have k5 : Below w.heap.size w w5 := by
        rw [← hw5]; exact (((hold.setCell (by dsimp only; omega) _).setCell (by dsimp only; omega) _).setCell (by dsimp only; omega) _).drew
      obtain ⟨S, hS⟩ : ∃ S, S = split d := ⟨_, rfl⟩
      have hSl : S.length = 35 := by rw [hS, split_length]
      rw [← hS] at hd5
      have HS := Lib.hid hS
      clear hw5 q1 q2 q3 hc hD hDl hS
      go_wp2_with (first
        | (refine wpList_load_blk rfl 56 (.tmp 3) rfl (w.heap.size + 1 + 1) rfl 56 (cellsOf .i64 S) 35 _ hd5 Tryd.underlying56 rfl size_i35 (by simp [hSl]) ?_; refine wpList_store_blk rfl 56 (.tmp 2) (.tmp 35) rfl (w.heap.size + 1) rfl (cellsOf .i64 S) rfl 56 (cellsOf .i64 (List.replicate 35 0)) 35 hr5 size_i35 (by simp [hSl]) (by simp) (vals_one _ _) rfl ?_; intro w6 hw6; have HW6 := Lib.hid hw6; clear hw6))
      exact bodyPost_ret (results_cell_row rfl _ _ (w.heap.size + 1) _ _ _ _ rfl (by rw [HW6.out]; exact hr5.row _) Tryd.underlying56 rfl (by rw [size_i35]; simp [hSl])) rfl ⟨by rw [HS.out], by rw [HW6.out]; exact below_setRow k5 (by omega) _⟩
end Go.Proofs.YtpigmibaeoceaaaDoor
