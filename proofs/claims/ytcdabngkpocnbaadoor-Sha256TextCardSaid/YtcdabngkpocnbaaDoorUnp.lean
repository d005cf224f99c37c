/- Contracts of ascii's Unhex and of the reference's. Condition: a text's length is an int. -/
import Derived.Test.YtcdabngkpocnbaaDoorUnh
import Derived.Test.YtcdabngkpocnbaaDoorBase
namespace Go.Bul
open Go
def pairs (l : List Nat) (n : Nat) : List Nat := (List.range n).map fun i => 16 * hval (l.getD (2 * i) 0) + hval (l.getD (2 * i + 1) 0)
/-- The bytes that a text denotes. -/
def unhexs (l : List Nat) : List Nat := pairs l (l.length / 2)
theorem pairs_length (l : List Nat) (n : Nat) : (pairs l n).length = n := by simp [pairs]
theorem pairs_more (l : List Nat) (n : Nat) : pairs l n ++ [16 * hval (l.getD (2 * n) 0) + hval (l.getD (2 * n + 1) 0)] = pairs l (n + 1) := by simp [pairs, List.range_succ]
/-- A text of pairs of hexadecimal digits. -/
def IsHex (l : List Nat) : Prop := l.length % 2 = 0 ∧ ∀ j, j < l.length → hexB (l.getD j 0) = true
theorem or_hex (x y : Nat) (hx : x < 16) (hy : y < 16) : bits .or .u8 ((x * 16 : Nat) : Int) (y : Int) = ((16 * x + y : Nat) : Int) := by
  have : ∀ x y : Fin 16, bits .or .u8 ((x.1 * 16 : Nat) : Int) (y.1 : Int) = ((16 * x.1 + y.1 : Nat) : Int) := by decide +kernel
  exact this ⟨x, hx⟩ ⟨y, hy⟩
end Go.Bul
namespace Go.Proofs.YtcdabngkpocnbaaDoor
open Go Go.RowKit Go.Bul
/-- What Unhex returns. -/
def UnhexRes (s : ByteArray) (w : World) (e : Ending) (w' : World) : Prop :=
  ((IsHex (nums s) ∧ ∃ A c, e = .returned (.tuple #[.slice A (s.size / 2) c, .int .i64 0]) ∧ OwnB w' w.heap.size (.slice A (s.size / 2) c) (unhexs (nums s))) ∨
   (¬ IsHex (nums s) ∧ e = .returned (.tuple #[.slice none 0 0, .int .i64 3]))) ∧ Below w.heap.size w w'
set_option maxHeartbeats 1000000 in
theorem unhex_any (s : ByteArray) (w : World) (hs : s.size ≤ 70368744177664) :
    Calls Tryd.prog 35 #[.string s] w (UnhexRes s w) := by
  have hnl := nums_length s
  by_cases hodd : s.size % 2 = 1
  · have ht : ((s.size : Int) % 2 != 0) = true := by simp; omega
    have hno : Hid (¬ IsHex (nums s)) := Lib.hid (fun h => by have := h.1; omega)
    clear hnl hodd
    go_enter Tryd.func35, Tryd.ntmps35
    go_wp2_with fail
    go_ret2
    exact ⟨.inr ⟨hno.out, rfl⟩, Below.refl _ _⟩
  · have ht : ((s.size : Int) % 2 != 0) = false := by simp; omega
    have HN := Lib.hid hnl
    have HE := Lib.hid (show s.size % 2 = 0 by omega)
    have bs : (s.size : Int) ≤ 70368744177664 := by omega
    clear hnl hodd
    obtain ⟨m, hm⟩ : ∃ m, m = s.size / 2 := ⟨_, rfl⟩
    have e2 : (s.size : Int) / 2 = (m : Int) := by omega
    have bm : m ≤ 35184372088832 := by omega
    have hm2 : s.size = 2 * m := by have := HE.out; omega
    have HM := Lib.hid (And.intro hm hm2)
    clear hm hm2
    go_enter Tryd.func35, Tryd.ntmps35
    go_wp2_with fail
    (with_reducible refine (skip_hex s w (by omega)).mono ?_)
    rintro e w' ⟨k, hk, hall, hstop, rfl, rfl⟩
    by_cases hlt : k < s.size
    · have hno : Hid (¬ IsHex (nums s)) := Lib.hid (fun h => by
        have h1 := h.2 k (by rw [HN.out]; exact hlt)
        rw [hstop hlt] at h1
        cases h1)
      clear hall hstop e2
      go_wp2_with fail
      go_ret2
      exact ⟨.inr ⟨hno.out, rfl⟩, Below.refl _ _⟩
    · obtain rfl : k = s.size := by omega
      have HY : Hid (IsHex (nums s)) := Lib.hid ⟨by rw [HN.out]; exact HE.out, fun j hj => hall j (by rw [← HN.out]; exact hj)⟩
      clear hall hstop hlt hk
      go_wp2_with (refine wpList_make_bytes rfl 22 (.const (.int .i64 0)) (.tmp 22) rfl Tryd.underlying22 .i64 .i64 m rfl rfl (by omega) ?_; intro A0 w0 hown0 hb0; have HO := Lib.hid hown0; have HB := Lib.hid hb0; clear hown0 hb0)
      go_loopw [6, 7] (fun v i wr => ∃ (k : Nat) (A : Option Addr) (c : Nat), k ≤ m ∧ v = .slice A k c ∧ i = .int .i64 ((2 * k : Nat) : Int) ∧ OwnB wr w.heap.size v (pairs (nums s) k) ∧ Below w.heap.size w wr) (fun _ i _ => s.size - (intOf i).toNat)
      case atStart => exact ⟨0, _, _, by omega, rfl, rfl, HO.out, HB.out⟩
      case round =>
        clear HO HB
        obtain ⟨k, A, c, hk, rfl, rfl, hown, hold⟩ := hrel
        have hsm := HM.out.2
        by_cases hlt : k < m
        · obtain ⟨o, ho⟩ : ∃ o, o = 2 * k := ⟨_, rfl⟩
          obtain ⟨o1, ho1⟩ : ∃ o, o = 2 * k + 1 := ⟨_, rfl⟩
          have lo : o < s.size := by omega
          have lo1 : o1 < s.size := by omega
          have e1 : IntKind.i64.wrap ((o : Int) + 1) = (o1 : Int) := by rw [IntWalk.i64_in _ (by omega)]; omega
          have hx := HY.out.2 o (by rw [HN.out]; exact lo)
          have hy := HY.out.2 o1 (by rw [HN.out]; exact lo1)
          rw [nums_get s o lo] at hx
          rw [nums_get s o1 lo1] at hy
          have bx : s[o].toNat < 256 := UInt8.toNat_lt _
          have by_ : s[o1].toNat < 256 := UInt8.toNat_lt _
          obtain ⟨x, hxd⟩ : ∃ x, x = hval s[o].toNat := ⟨_, rfl⟩
          obtain ⟨y, hyd⟩ : ∃ y, y = hval s[o1].toNat := ⟨_, rfl⟩
          have x16 : x < 16 := by rw [hxd]; exact hval_lt hx
          have y16 : y < 16 := by rw [hyd]; exact hval_lt hy
          have hX := fun w => hexVal s[o].toNat bx hx w
          have hY := fun w => hexVal s[o1].toNat by_ hy w
          rw [← hxd] at hX
          rw [← hyd] at hY
          obtain ⟨p, hp⟩ : ∃ p, p = x * 16 := ⟨_, rfl⟩
          obtain ⟨q, hq⟩ : ∃ q, q = 16 * x + y := ⟨_, rfl⟩
          have hor := or_hex x y x16 y16
          rw [← hp, ← hq] at hor
          have hq256 : q < 256 := by omega
          have hsl : IntKind.u8.wrap ((x : Int) * 16) = (p : Int) := by rw [IntKind.wrap_u8]; omega
          obtain ⟨L, hL⟩ : ∃ L, L = pairs (nums s) k := ⟨_, rfl⟩
          obtain ⟨L2, hL2⟩ : ∃ L, L = pairs (nums s) (k + 1) := ⟨_, rfl⟩
          have hmore : L ++ [q] = L2 := by
            rw [hL, hL2, ← pairs_more, ← ho1, ← ho, nums_get s o lo, nums_get s o1 lo1, ← hxd, ← hyd, hq]
          have hlen2 : L2.length = k + 1 := by rw [hL2, pairs_length]
          rw [← hL] at hown
          rw [← ho]
          have H := Lib.hid (And.intro ho (And.intro hL2 hsm))
          have HXY := Lib.hid (And.intro hX hY)
          have hszr := hold.size
          clear hL hL2 ho ho1 hp hq hx hy hX hY hxd hyd hsm
          go_wp2_with fail
          have HW := Lib.hid hown
          go_region_law (first
            | (refine step_append_bytes rfl (.tmp 30) (.tmp 44) 22 rfl Tryd.underlying22 w.heap.size _ L rfl ((OwnB.drew HW.out).alloc (.cells (cellsOf .u8 [q]) 5)) (fun _ => True) (some ⟨wr.heap.size, 0, none⟩) 1 1 [q] rfl (Rd.of_block (xs := [q]) (Blk.new wr.drew 5 (cellsOf .u8 [q])) (Bytes.cons hq256 Bytes.nil) trivial) L2 hmore (k + 1) hlen2 (by omega) (by simp; omega) ?_; intro A' c' w' hown' hc' hgrow hwhere; have hgrow' := Lib.hid hgrow; have hown2 := Lib.hid hown'; clear hgrow hwhere hown')
            | (go_simp; (with_reducible refine (HXY.out.1 _).mono ?_); rintro e w' ⟨rfl, rfl⟩)
            | (go_simp; (with_reducible refine (HXY.out.2 _).mono ?_); rintro e w' ⟨rfl, rfl⟩))
          all_goals
            go_wp2_with fail
            obtain ⟨ho, hL2, hsm⟩ := H.out
            refine ⟨⟨k + 1, A', c', by omega, rfl, by rw [show (o : Int) + 2 = ((2 * (k + 1) : Nat) : Int) by omega], by rw [← hL2]; exact hown2.out, ?_⟩, by simp [intOf]; omega⟩
            refine ((hold.alloc hszr _).drew).grown hgrow'.out (by simp; omega) (fun k hk => (HW.out.block_ge hk).1)
        · obtain rfl : k = m := by omega
          have hk2 : ((2 * k : Nat) : Int) = (s.size : Int) := by omega
          rw [hk2]
          have HS := Lib.hid hk2
          clear hsm hk2
          go_wp2_with fail
          go_ret2
          obtain ⟨hm, hm2⟩ := HM.out
          refine ⟨.inl ⟨HY.out, A, c, by rw [← hm]; rfl, ?_⟩, hold⟩
          rw [← hm, unhexs, HN.out, ← hm]
          exact hown
theorem nib_yes (c : Nat) (hc : c < 256) (h : hexB c = true) (w : World) :
    Calls Tryd.prog 36 #[.int .u8 (c : Nat)] w fun e w' => e = .returned (.int .i64 (hval c : Nat)) ∧ w = w' := by
  rw [hexB_iff] at h
  rcases h with ⟨h1, h2⟩ | ⟨h1, h2⟩
  · have hv : hval c = c - 48 := by unfold hval; rw [if_pos (by omega)]
    have b1 : (48 : Int) ≤ (c : Int) := by omega
    have b2 : (c : Int) ≤ 57 := by omega
    have HV := Lib.hid hv
    clear hv
    go_enter Tryd.func36, Tryd.ntmps36
    go_wp2
    go_ret
    exact ⟨congrArg (fun x => Ending.returned (Value.int .i64 x)) (by rw [HV.out]; omega), rfl⟩
  · have hv : hval c = c - 87 := by unfold hval; rw [if_neg (by omega)]
    have b1 : (97 : Int) ≤ (c : Int) := by omega
    have b2 : (c : Int) ≤ 102 := by omega
    have HV := Lib.hid hv
    clear hv
    go_enter Tryd.func36, Tryd.ntmps36
    go_wp2
    go_ret
    exact ⟨congrArg (fun x => Ending.returned (Value.int .i64 x)) (by rw [HV.out]; omega), rfl⟩
theorem nib_no (c : Nat) (hc : c < 256) (h : hexB c = false) (w : World) :
    Calls Tryd.prog 36 #[.int .u8 (c : Nat)] w fun e w' => e = .returned (.int .i64 (-1)) ∧ w = w' := by
  have h' : ¬ ((48 ≤ c ∧ c ≤ 57) ∨ (97 ≤ c ∧ c ≤ 102)) := by rw [← hexB_iff, h]; simp
  rcases (show c < 48 ∨ (57 < c ∧ c < 97) ∨ 102 < c by omega) with h1 | ⟨h1, h2⟩ | h1
  · clear h h'
    go_enter Tryd.func36, Tryd.ntmps36
    go_wp2
    go_ret
    exact ⟨rfl, rfl⟩
  · clear h h'
    go_enter Tryd.func36, Tryd.ntmps36
    go_wp2
    go_ret
    exact ⟨rfl, rfl⟩
  · clear h h'
    go_enter Tryd.func36, Tryd.ntmps36
    go_wp2
    go_ret
    exact ⟨rfl, rfl⟩
set_option maxHeartbeats 1000000 in
theorem ref_unhex_any (s : ByteArray) (w : World) (hs : s.size ≤ 70368744177664) :
    Calls Tryd.prog 25 #[.string s] w (UnhexRes s w) := by
  have hnl := nums_length s
  by_cases hodd : s.size % 2 = 1
  · have ht : ((s.size : Int) % 2 == 1) = true := by simp; omega
    have hno : Hid (¬ IsHex (nums s)) := Lib.hid (fun h => by have := h.1; omega)
    clear hnl hodd
    go_enter Tryd.func25, Tryd.ntmps25
    go_wp2_with fail
    go_ret2
    exact ⟨.inr ⟨hno.out, rfl⟩, Below.refl _ _⟩
  · have ht : ((s.size : Int) % 2 == 1) = false := by simp; omega
    have HN := Lib.hid hnl
    have HE := Lib.hid (show s.size % 2 = 0 by omega)
    have bs : (s.size : Int) ≤ 70368744177664 := by omega
    clear hnl hodd
    obtain ⟨m, hm⟩ : ∃ m, m = s.size / 2 := ⟨_, rfl⟩
    have bm : m ≤ 35184372088832 := by omega
    have hm2 : s.size = 2 * m := by have := HE.out; omega
    have HM := Lib.hid (And.intro hm hm2)
    clear hm hm2
    go_enter Tryd.func25, Tryd.ntmps25
    go_wp2_with fail
    go_loopw [4, 5] (fun v i wr => ∃ (k : Nat) (A : Option Addr) (c : Nat), k ≤ m ∧ v = .slice A k c ∧ i = .int .i64 ((2 * k : Nat) : Int) ∧ OwnB wr w.heap.size v (pairs (nums s) k) ∧ Below w.heap.size w wr ∧ Hid (∀ j, j < 2 * k → hexB ((nums s).getD j 0) = true)) (fun _ i _ => s.size - (intOf i).toNat)
    case atStart => exact ⟨0, none, 0, by omega, rfl, rfl, OwnB.nil _ _, Below.refl _ _, Lib.hid (fun j hj => by omega)⟩
    case round =>
      obtain ⟨k, A, c, hk, rfl, rfl, hown, hold, HA⟩ := hrel
      have hsm := HM.out.2
      by_cases hlt : k < m
      · obtain ⟨o, ho⟩ : ∃ o, o = 2 * k := ⟨_, rfl⟩
        obtain ⟨o1, ho1⟩ : ∃ o, o = 2 * k + 1 := ⟨_, rfl⟩
        have lo : o < s.size := by omega
        have lo1 : o1 < s.size := by omega
        have e1 : IntKind.i64.wrap ((o : Int) + 1) = (o1 : Int) := by rw [IntWalk.i64_in _ (by omega)]; omega
        have gx := nums_get s o lo
        have gy := nums_get s o1 lo1
        have bx : s[o].toNat < 256 := UInt8.toNat_lt _
        have by_ : s[o1].toNat < 256 := UInt8.toNat_lt _
        have hszr := hold.size
        by_cases hboth : hexB s[o].toNat = true ∧ hexB s[o1].toNat = true
        · obtain ⟨hx, hy⟩ := hboth
          obtain ⟨x, hxd⟩ : ∃ x, x = hval s[o].toNat := ⟨_, rfl⟩
          obtain ⟨y, hyd⟩ : ∃ y, y = hval s[o1].toNat := ⟨_, rfl⟩
          have x16 : x < 16 := by rw [hxd]; exact hval_lt hx
          have y16 : y < 16 := by rw [hyd]; exact hval_lt hy
          have hX := fun w => nib_yes s[o].toNat bx hx w
          have hY := fun w => nib_yes s[o1].toNat by_ hy w
          rw [← hxd] at hX
          rw [← hyd] at hY
          have hnext : ∀ j, j < 2 * (k + 1) → hexB ((nums s).getD j 0) = true := fun j hj => by
            rcases (show j < 2 * k ∨ j = o ∨ j = o1 by omega) with h | h | h
            · exact HA.out j h
            · rw [h, gx]; exact hx
            · rw [h, gy]; exact hy
          obtain ⟨q, hq⟩ : ∃ q, q = 16 * x + y := ⟨_, rfl⟩
          have hq256 : q < 256 := by omega
          obtain ⟨L, hL⟩ : ∃ L, L = pairs (nums s) k := ⟨_, rfl⟩
          obtain ⟨L2, hL2⟩ : ∃ L, L = pairs (nums s) (k + 1) := ⟨_, rfl⟩
          have hmore : L ++ [q] = L2 := by
            rw [hL, hL2, ← pairs_more, ← ho1, ← ho, gx, gy, ← hxd, ← hyd, hq]
          have hlen2 : L2.length = k + 1 := by rw [hL2, pairs_length]
          rw [← hL] at hown
          rw [← ho]
          have H := Lib.hid (And.intro ho (And.intro hL2 (And.intro hsm hq)))
          have HXY := Lib.hid (And.intro hX hY)
          have HNX := Lib.hid hnext
          clear hL hL2 ho ho1 hq hx hy hX hY hxd hyd hsm gx gy hnext
          go_wp2_with fail
          refine Go.Bul.wp_region_class_tail (fun w' => Below wr.heap.size wr w') 10 (by kernel_rfl) (by kernel_rfl) (Below.drew (Below.refl _ _)) ?_
          simp only [List.take_succ_cons, List.take_zero, List.drop_succ_cons, List.drop_zero]
          refine wpQuiet_step (fun K hK => ?_)
          refine Go.Bul.quiet_some rfl ?_
          apply Exists.intro
          refine ⟨fun w' hw' => ?_, ?_⟩
          · skip
            go_simp
            rfl
          go_simp
          refine hK _ ?_
          clear hK K
          refine wpQuiet_step (fun K hK => ?_)
          refine Go.Bul.quiet_some rfl ?_
          apply Exists.intro
          refine ⟨fun w' hw' => ?_, ?_⟩
          · skip
            go_simp
            rfl
          go_simp
          refine hK _ ?_
          clear hK K
          refine wpQuiet_step (fun K hK => ?_)
          refine Go.Bul.quiet_some rfl ?_
          apply Exists.intro
          refine ⟨fun w' hw' => ?_, ?_⟩
          · skip
            go_simp
            rfl
          go_simp
          refine hK _ ?_
          clear hK K
          refine wpQuiet_step (fun K hK => ?_)
          refine Go.Bul.quiet_some rfl ?_
          apply Exists.intro
          refine ⟨fun w' hw' => ?_, ?_⟩
          · go_simp
            exact Go.Bul.quiet_call hw' (((HXY.out.1 w').mono fun _ _ h => ⟨h.1, h.2 ▸ Below.refl _ _⟩))
          go_simp
          refine hK _ ?_
          clear hK K
          refine wpQuiet_step (fun K hK => ?_)
          refine Go.Bul.quiet_some rfl ?_
          apply Exists.intro
          refine ⟨fun w' hw' => ?_, ?_⟩
          · skip
            go_simp
            rfl
          go_simp
          refine hK _ ?_
          clear hK K
          refine wpQuiet_step (fun K hK => ?_)
          refine Go.Bul.quiet_some rfl ?_
          apply Exists.intro
          refine ⟨fun w' hw' => ?_, ?_⟩
          · skip
            go_simp
            rfl
          go_simp
          refine hK _ ?_
          clear hK K
          refine wpQuiet_step (fun K hK => ?_)
          refine Go.Bul.quiet_some rfl ?_
          apply Exists.intro
          refine ⟨fun w' hw' => ?_, ?_⟩
          · skip
            go_simp
            rfl
          go_simp
          refine hK _ ?_
          clear hK K
          refine wpQuiet_step (fun K hK => ?_)
          refine Go.Bul.quiet_some rfl ?_
          apply Exists.intro
          refine ⟨fun w' hw' => ?_, ?_⟩
          · skip
            go_simp
            rfl
          go_simp
          refine hK _ ?_
          clear hK K
          refine wpQuiet_step (fun K hK => ?_)
          refine Go.Bul.quiet_some rfl ?_
          apply Exists.intro
          refine ⟨fun w' hw' => ?_, ?_⟩
          · go_simp
            exact Go.Bul.quiet_call hw' (((HXY.out.2 w').mono fun _ _ h => ⟨h.1, h.2 ▸ Below.refl _ _⟩))
          go_simp
          refine hK _ ?_
          clear hK K
          refine wpQuiet_step (fun K hK => ?_)
          refine Go.Bul.quiet_some rfl ?_
          apply Exists.intro
          refine ⟨fun w' hw' => ?_, ?_⟩
          · skip
            go_simp
            rfl
          go_simp
          refine hK _ ?_
          clear hK K
          refine wpQuiet_nil ?_
          intro w1 hb1
          have k1 := Below.step hold hb1
          have hown1 := hown.kept hb1
          have hsz1 := k1.size
          have HW1 := Lib.hid hown1
          clear hown1 hown
          go_wp2_with (refine wpList_append_bytes rfl (.tmp 33) (.tmp 39) 22 rfl Tryd.underlying22 w.heap.size _ L rfl (HW1.out.alloc _) (fun _ => True) _ 1 1 [q] rfl (Rd.one w1 _ _ q _ (by rw [H.out.2.2.2]; simp; try omega) hq256 trivial) L2 hmore (k + 1) hlen2 (by omega) (by simp; omega) ?_; intro A' c' w' hown' hc' hgrow hwhere; have hgrow' := Lib.hid hgrow; have hown2 := Lib.hid hown'; clear hgrow hwhere hown')
          obtain ⟨ho, hL2, hsm, hq⟩ := H.out
          refine ⟨⟨k + 1, A', c', by omega, rfl, by rw [show (o : Int) + 2 = ((2 * (k + 1) : Nat) : Int) by omega], by rw [← hL2]; exact hown2.out, (k1.alloc hsz1 _).grown hgrow'.out (by simp; omega) (fun k hk => (HW1.out.block_ge hk).1), HNX⟩, by simp [intOf]; omega⟩
        · have hno : Hid (¬ IsHex (nums s)) := Lib.hid (fun h => hboth ⟨by rw [← gx]; exact h.2 o (by rw [HN.out]; exact lo), by rw [← gy]; exact h.2 o1 (by rw [HN.out]; exact lo1)⟩)
          obtain ⟨x, hxd⟩ : ∃ x : Int, x = hidx s[o].toNat := ⟨_, rfl⟩
          obtain ⟨y, hyd⟩ : ∃ x : Int, x = hidx s[o1].toNat := ⟨_, rfl⟩
          have nib : ∀ c : Nat, c < 256 → ∀ w, Calls Tryd.prog 36 #[.int .u8 (c : Nat)] w fun e w' => e = .returned (.int .i64 (hidx c)) ∧ w = w' := fun c hc w => by
            cases hh : hexB c with
            | true => have := nib_yes c hc hh w; unfold hidx; rw [hh]; exact this
            | false => have := nib_no c hc hh w; unfold hidx; rw [hh]; exact this
          have hX := nib s[o].toNat bx
          have hY := nib s[o1].toNat by_
          have hneg : x < 0 ∨ (0 ≤ x ∧ y < 0) := by
            rw [hxd, hyd]
            unfold hidx
            by_cases h1 : hexB s[o].toNat = true
            · have h2 : ¬ hexB s[o1].toNat = true := fun h2 => hboth ⟨h1, h2⟩
              rw [if_pos h1, if_neg h2]
              right; omega
            · rw [if_neg h1]
              left; omega
          rw [← hxd] at hX
          rw [← hyd] at hY
          rw [← ho]
          have HXY := Lib.hid (And.intro hX hY)
          clear ho ho1 hX hY hxd hyd hsm gx gy hboth nib
          go_wp2_with fail
          refine Go.Bul.wp_region_class_tail (fun w' => Below wr.heap.size wr w') 10 (by kernel_rfl) (by kernel_rfl) (Below.drew (Below.refl _ _)) ?_
          simp only [List.take_succ_cons, List.take_zero, List.drop_succ_cons, List.drop_zero]
          refine wpQuiet_step (fun K hK => ?_)
          refine Go.Bul.quiet_some rfl ?_
          apply Exists.intro
          refine ⟨fun w' hw' => ?_, ?_⟩
          · skip
            go_simp
            rfl
          go_simp
          refine hK _ ?_
          clear hK K
          refine wpQuiet_step (fun K hK => ?_)
          refine Go.Bul.quiet_some rfl ?_
          apply Exists.intro
          refine ⟨fun w' hw' => ?_, ?_⟩
          · skip
            go_simp
            rfl
          go_simp
          refine hK _ ?_
          clear hK K
          refine wpQuiet_step (fun K hK => ?_)
          refine Go.Bul.quiet_some rfl ?_
          apply Exists.intro
          refine ⟨fun w' hw' => ?_, ?_⟩
          · skip
            go_simp
            rfl
          go_simp
          refine hK _ ?_
          clear hK K
          refine wpQuiet_step (fun K hK => ?_)
          refine Go.Bul.quiet_some rfl ?_
          apply Exists.intro
          refine ⟨fun w' hw' => ?_, ?_⟩
          · go_simp
            exact Go.Bul.quiet_call hw' (((HXY.out.1 w').mono fun _ _ h => ⟨h.1, h.2 ▸ Below.refl _ _⟩))
          go_simp
          refine hK _ ?_
          clear hK K
          refine wpQuiet_step (fun K hK => ?_)
          refine Go.Bul.quiet_some rfl ?_
          apply Exists.intro
          refine ⟨fun w' hw' => ?_, ?_⟩
          · skip
            go_simp
            rfl
          go_simp
          refine hK _ ?_
          clear hK K
          refine wpQuiet_step (fun K hK => ?_)
          refine Go.Bul.quiet_some rfl ?_
          apply Exists.intro
          refine ⟨fun w' hw' => ?_, ?_⟩
          · skip
            go_simp
            rfl
          go_simp
          refine hK _ ?_
          clear hK K
          refine wpQuiet_step (fun K hK => ?_)
          refine Go.Bul.quiet_some rfl ?_
          apply Exists.intro
          refine ⟨fun w' hw' => ?_, ?_⟩
          · skip
            go_simp
            rfl
          go_simp
          refine hK _ ?_
          clear hK K
          refine wpQuiet_step (fun K hK => ?_)
          refine Go.Bul.quiet_some rfl ?_
          apply Exists.intro
          refine ⟨fun w' hw' => ?_, ?_⟩
          · skip
            go_simp
            rfl
          go_simp
          refine hK _ ?_
          clear hK K
          refine wpQuiet_step (fun K hK => ?_)
          refine Go.Bul.quiet_some rfl ?_
          apply Exists.intro
          refine ⟨fun w' hw' => ?_, ?_⟩
          · go_simp
            exact Go.Bul.quiet_call hw' (((HXY.out.2 w').mono fun _ _ h => ⟨h.1, h.2 ▸ Below.refl _ _⟩))
          go_simp
          refine hK _ ?_
          clear hK K
          refine wpQuiet_step (fun K hK => ?_)
          refine Go.Bul.quiet_some rfl ?_
          apply Exists.intro
          refine ⟨fun w' hw' => ?_, ?_⟩
          · skip
            go_simp
            rfl
          go_simp
          refine hK _ ?_
          clear hK K
          refine wpQuiet_nil ?_
          intro w1 hb1
          have k1 := Below.step hold hb1
          rcases hneg with h | ⟨h, h2⟩
          · go_wp2_with fail
            go_ret2
            exact ⟨.inr ⟨hno.out, rfl⟩, k1⟩
          · go_wp2_with fail
            go_ret2
            exact ⟨.inr ⟨hno.out, rfl⟩, k1⟩
      · obtain rfl : k = m := by omega
        have hk2 : ((2 * k : Nat) : Int) = (s.size : Int) := by omega
        rw [hk2]
        have HS := Lib.hid hk2
        clear hsm hk2
        go_wp2_with fail
        go_ret2
        obtain ⟨hm, hm2⟩ := HM.out
        refine ⟨.inl ⟨⟨by rw [HN.out]; exact HE.out, fun j hj => HA.out j (by rw [HN.out] at hj; omega)⟩, A, c, by rw [← hm]; rfl, ?_⟩, hold⟩
        rw [← hm, unhexs, HN.out, ← hm]
        exact hown
end Go.Proofs.YtcdabngkpocnbaaDoor
