/- The walks of bulletinlaw05.Sha256Text and Sha256Parse. -/
import Derived.Test.YtcdabngkpocnbaaDoorTxt
namespace Go.Proofs.YtcdabngkpocnbaaDoor
open Go Go.RowKit Go.Bul
set_option maxHeartbeats 400000 in
theorem textw_any (bs : List Nat) (w : World) (hl : bs.length = 32) (hb : Bytes bs) (hT : Tab w) :
    Calls Tryd.prog 9 #[.agg (cellsOf .u8 bs)] w fun e w' => e = .returned (.bool true) ∧ Below w.heap.size w w' := by
  have HT := Lib.hid hT
  obtain ⟨s, hs⟩ : ∃ s, s = bstr (hexs bs) := ⟨_, rfl⟩
  have hss : s.size = 64 := by rw [hs, bstr_size, hexs_length, hl]
  have hsn : nums s = hexs bs := by rw [hs, nums_bstr (hexs_bytes hb)]
  have hih : IsHex (nums s) := by rw [hsn]; exact isHex_hexs hb
  have hp := fun w => parse_yes s w hss hih
  rw [hsn, unhexs_hexs hb] at hp
  have hst := fun w => string_any bs w hl hb
  rw [← hs] at hst
  have hh := fun (A : Option Addr) (n c : Nat) ok w hr hn => ref_hex_any bs A n c ok w hr hn
  rw [← hs] at hh
  have HP := Lib.hid (And.intro hp (And.intro hst hh))
  have HB := Lib.hid hb
  have HL := Lib.hid hl
  have ES := Lib.hid (self_dig bs hl)
  clear hT hss hsn hih hp hst hh hs hb hl
  go_enter Tryd.func9, Tryd.ntmps9
  go_wp2_with (refine wpList_load_blk rfl 24 (.tmp 1) rfl w.heap.size rfl 24 (cellsOf .u8 bs) 32 _ (Blk.new w _ _) Tryd.underlying24 rfl size_b32 (by simp [HL.out]) ?_)
  (with_reducible refine (HP.out.2.1 _).mono ?_)
  rintro e w1 ⟨rfl, hb1⟩
  have g1 : Blk w1 w.heap.size 24 (cellsOf .u8 bs) := (Blk.new w _ _).kept hb1
  have k1 : Below w.heap.size w w1 := Below.trans ((Below.refl _ _).alloc (Nat.le_refl _) _) (hb1.mono (by simp))
  clear hb1
  go_wp2_with fail
  (with_reducible refine (HP.out.1 _).mono ?_)
  rintro e w2 ⟨rfl, hb2⟩
  have g2 := g1.kept hb2
  have k2 := Below.step k1 hb2
  have hlt2 := g2.lt
  clear g1 k1 hb2
  go_wp2_with (first
    | (with_reducible refine wpList_alloc_zero rfl 25 rfl _ zero_dig ?_)
    | (refine wpList_store_blk rfl 25 (.tmp 4) (.tmp 11) rfl w2.heap.size rfl (cellsOf .u8 bs) rfl 25 (cellsOf .u8 (List.replicate 32 0)) 32 (Blk.new w2 _ _) size_dig (by simp [HL.out]) (by simp) (vals_one _ _) rfl ?_; intro w3 hw3; have HW3 := Lib.hid hw3; clear hw3))
  have d3 : Blk w3 w2.heap.size 25 (cellsOf .u8 bs) := by rw [HW3.out]; exact (Blk.new w2 _ _).row _
  have g3 : Blk w3 w.heap.size 24 (cellsOf .u8 bs) := by rw [HW3.out]; exact (g2.alloc _).rowFar (by omega) _
  have k3 : Below w.heap.size w w3 := by rw [HW3.out]; exact below_setRow (k2.alloc k2.size _) k2.size _
  clear g2 k2
  (with_reducible refine (known_any w3 (HT.out.keep k3)).mono ?_)
  rintro e w4 ⟨rfl, hb4⟩
  have d4 := d3.kept hb4
  have g4 := g3.kept hb4
  have k4 := Below.step k3 hb4
  clear d3 g3 k3 hb4
  have hbb := HB.out
  have hrd : Rd w4 (fun _ => True) (some ⟨w.heap.size, 0, none⟩) 32 bs := HL.out ▸ Rd.of_block g4 hbb trivial
  have HRD := Lib.hid hrd
  clear hbb hrd
  go_wp2_with fail
  (with_reducible refine (HP.out.2.2 (some ⟨w.heap.size, 0, none⟩) 32 32 (fun _ => True) w4 HRD.out (by omega)).mono ?_)
  rintro e w5 ⟨rfl, hb5⟩
  have d5 := d4.kept hb5
  have g5 := g4.kept hb5
  have k5 := Below.step k4 hb5
  clear d4 g4 k4 hb5 HRD
  have es := ES.out
  go_wp2_with (first
    | (refine wpList_unguard rfl ?_; refine wpList_load_blk rfl 25 (.tmp 4) rfl w2.heap.size rfl 25 (cellsOf .u8 bs) 32 _ d5 Tryd.underlying25 rfl size_dig (by simp [HL.out]) ?_; refine wpList_unguard rfl ?_; refine wpList_load_blk rfl 24 (.tmp 1) rfl w.heap.size rfl 24 (cellsOf .u8 bs) 32 _ g5 Tryd.underlying24 rfl size_b32 (by simp [HL.out]) ?_))
  go_ret
  exact ⟨rfl, k5⟩
end Go.Proofs.YtcdabngkpocnbaaDoor
