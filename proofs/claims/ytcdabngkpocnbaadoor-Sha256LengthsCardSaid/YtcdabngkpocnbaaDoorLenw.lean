/- The walk of bulletinlaw05.Sha256Lengths. -/
import Derived.Test.YtcdabngkpocnbaaDoorRefe
namespace Go.Proofs.YtcdabngkpocnbaaDoor
open Go Go.RowKit Go.Bul
theorem rep_bytes (k x : Nat) (hx : x < 256) : Bytes (List.replicate k x) := fun y hy => by rw [List.eq_of_mem_replicate hy]; exact hx
theorem rep_more (k x : Nat) : List.replicate k x ++ [x] = List.replicate (k + 1) x := by rw [List.replicate_succ']
/-- Between the rounds. -/
structure LenInv (w : World) (x k : Nat) (A : Option Addr) (c : Nat) (wr : World) : Prop where
  own : OwnB wr (w.heap.size + 1) (.slice A k c) (List.replicate k x)
  hash : HashAt wr w.heap.size (List.replicate k x)
  old : Below w.heap.size w wr
set_option maxHeartbeats 1000000 in
theorem lenw_any (x : Nat) (w : World) (hx : x < 256) (hT : Tab w) :
    Calls Tryd.prog 4 #[.int .u8 x] w fun e w' => e = .returned (.bool true) ∧ Below w.heap.size w w' := by
  have htl := hT.lt
  have HT := Lib.hid hT
  clear hT
  go_enter Tryd.func4, Tryd.ntmps4
  go_wp2_with fail
  (with_reducible refine (new_any _).mono ?_)
  rintro e w1 ⟨rfl, hh1, hb1⟩
  go_wp2_with fail
  (with_reducible refine (known_any w1 (HT.out.keep hb1)).mono ?_)
  rintro e w2 ⟨rfl, hb2⟩
  have k2 := Below.step hb1 hb2
  have h2 := hh1.keep hb2
  clear hb1 hb2 hh1
  go_wp2_with fail
  go_loopw [4, 5] (fun b i wr => ∃ (k : Nat) (A : Option Addr) (c : Nat), k ≤ 201 ∧ b = .slice A k c ∧ i = .int .i64 (k : Nat) ∧ LenInv w x k A c wr) (fun _ i _ => 201 - (intOf i).toNat)
  case atStart => exact ⟨0, none, 0, by omega, rfl, rfl, OwnB.nil _ _, h2, k2⟩
  case round =>
    clear h2 k2
    obtain ⟨k, A, c, hk, rfl, rfl, hI⟩ := hrel
    obtain ⟨hown, hhash, hold⟩ := hI
    by_cases hlt : k ≤ 200
    · obtain ⟨l, hl⟩ : ∃ l, l = List.replicate k x := ⟨_, rfl⟩
      have hll : l.length = k := by rw [hl]; simp
      have hlb : Bytes l := by rw [hl]; exact rep_bytes k x hx
      have hmore : l ++ [x] = List.replicate (k + 1) x := by rw [hl]; exact rep_more k x
      rw [← hl] at hown hhash
      obtain ⟨d, hd⟩ : ∃ d, d = sha l := ⟨_, rfl⟩
      have hdl : d.length = 32 := by rw [hd, sha_length]
      have hlt2 : (k : Int) ≤ 200 := by omega
      have ES := Lib.hid (self_b32 d hdl)
      have HL := Lib.hid (And.intro hll (And.intro hd hmore))
      clear hl hll hd hmore
      obtain ⟨hrd, hkc⟩ := hown.rd HL.out.1.symm hlb
      have hszr := hold.size
      go_wp2_with fail
      (with_reducible refine (sum_any l A k c _ wr hrd hkc (by omega) (HT.out.keep hold)).mono ?_)
      rintro e w1 ⟨rfl, hb1⟩
      rw [← HL.out.2.1]
      go_wp2_with fail
      (with_reducible refine (ref_sum l A k c _ w1 (hrd.kept hb1) (by omega)).mono ?_)
      rintro e w2 ⟨rfl, hb2⟩
      rw [← HL.out.2.1]
      have k2 := Below.step hb1 hb2
      have es := ES.out
      go_wp2_with fail
      clear es
      (with_reducible refine (sumh_any w.heap.size l w2 (hhash.keep k2) (by rw [HL.out.1]; omega) (HT.out.keep (Below.step hold k2))).mono ?_)
      rintro e w3 ⟨rfl, hb3⟩
      rw [← HL.out.2.1]
      have k3 := Below.step k2 hb3
      go_wp2_with fail
      (with_reducible refine (ref_sum l A k c _ w3 (hrd.kept k3) (by omega)).mono ?_)
      rintro e w4 ⟨rfl, hb4⟩
      rw [← HL.out.2.1]
      have k4 := Below.step k3 hb4
      have es := ES.out
      have ko := Below.step hold k4
      have ho4 := hown.kept k4
      have hh4 := hhash.keep k4
      clear hb1 hb2 hb3 hb4 k2 k3 hown hhash hold
      go_wp2_with fail
      clear es
      have kalloc : Below w4.heap.size w4 (w4.alloc (.cells #[.int .u8 (x : Nat)] 5)) := (Below.refl _ _).alloc (Nat.le_refl _) _
      have hszk := ko.size
      have hglt : w.heap.size < w4.heap.size := by obtain ⟨_, _, hB, _⟩ := hh4.ex; exact hB.lt
      (with_reducible refine (write_any w.heap.size l [x] (some ⟨w4.heap.size, 0, none⟩) 1 1 _ (hh4.keep kalloc) (Rd.one w4 _ _ x _ rfl hx (by omega)) (by omega) (by simp [HL.out.1]; omega) (HT.out.keep (Below.step ko kalloc)) (by omega)).mono ?_)
      rintro e w5 ⟨rfl, hh5, ho5⟩
      have hown5 := (ho4.alloc (.cells #[.int .u8 (x : Nat)] 5)).only ho5 (by omega)
      have k5 : Below w.heap.size w w5 := (ko.alloc hszk _).trans (ho5.to_below' (Nat.le_refl _) (by simp; omega))
      have hsz5 := k5.size
      have hlt5 := hh5.lt
      clear hh4 ho4 ko ho5 kalloc hrd
      have HO := Lib.hid hown5
      clear hown5
      go_wp2_with (refine wpList_append_bytes rfl (.tmp 33) (.tmp 35) 22 rfl Tryd.underlying22 (w.heap.size + 1) _ l rfl (HO.out.alloc _) (fun _ => True) _ 1 1 [x] rfl (Rd.one w5 _ _ x _ rfl hx trivial) _ HL.out.2.2 (k + 1) (by simp) (by omega) (by simp; omega) ?_; intro A6 c6 w6 hown6 hc6 hgrow6 hwhere6; have HG6 := Lib.hid hgrow6; have HO6 := Lib.hid hown6; clear hgrow6 hwhere6 hown6)
      have h6 := HashAt.grown (hh5.keep ((Below.refl _ _).alloc (Nat.le_refl _) _)) (HO.out.alloc _) HG6.out (by omega)
      rw [HL.out.2.2] at h6
      exact ⟨⟨k + 1, A6, c6, by omega, rfl, by go_num, HO6.out, h6, (k5.alloc hsz5 _).grown HG6.out (by simp; omega) (fun k hk => by have := (HO.out.block_ge hk).1; omega)⟩, by simp [intOf]; omega⟩
    · obtain rfl : k = 201 := by omega
      go_wp2_with fail
      go_ret
      exact ⟨rfl, hold⟩
end Go.Proofs.YtcdabngkpocnbaaDoor
