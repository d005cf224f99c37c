/- Seat c: Lines at a body of printed lines. -/
import Derived.Test.YtlidpdjainmaiaaGreatDoorGzb
import Derived.Test.YtlidpdjainmaiaaGreatDoorGw
namespace Go.Cht
open Go Go.Bul
theorem body_drop {ls : List Ln} {k : Nat} (hk : k < ls.length) : (bodyL ls).drop (bodyL (ls.take k)).length = prL ls[k] ++ 10 :: bodyL (ls.drop (k + 1)) := by
  have e : bodyL ls = bodyL (ls.take k) ++ (prL ls[k] ++ 10 :: bodyL (ls.drop (k + 1))) := by
    conv => lhs; rw [← List.take_append_drop k ls, List.drop_eq_getElem_cons hk]
    rw [← bodyL_cons]
    simp only [bodyL, List.map_append, List.flatten_append]
  rw [e, List.drop_left]
theorem body_many : ∀ ls : List Ln, ls.length ≤ (bodyL ls).length
  | [] => Nat.zero_le _
  | l :: ls => by
    have := body_many ls
    rw [bodyL_cons, List.length_append, List.length_cons, List.length_cons]
    omega
end Go.Cht
namespace Go.Proofs.YtlidpdjainmaiaaGreatDoor
open Go Go.RowKit Go.Bul Go.Thg Go.Lin Go.Cht
set_option maxRecDepth 20000 in
set_option maxHeartbeats 4000000 in
theorem lines_any (s : ByteArray) (ls : List Ln) (hs : nums s = bodyL ls) (hok : ∀ l ∈ ls, OkL l) (h9 : s.size ≤ 1000000000) (w : World) :
    Calls Tryz.prog 9 #[.string s] w fun e w' => ∃ A n c, e = .returned (.tuple #[.slice A n c, .int .i64 0, .int .i64 0]) ∧ Becomes [] w (lT (.slice A n c) ls) w' := by
  have hM := Mem.gNil (Mem.start [] w) 37 3 lnF
  obtain ⟨m, hm⟩ : ∃ m, s.size = m := ⟨_, rfl⟩
  have m0 : (0 : Int) ≤ (m : Int) := Int.natCast_nonneg _
  have m1 : (m : Int) ≤ 1000000000 := by omega
  have hlen : (bodyL ls).length = m := by rw [← hs, nums_length, hm]
  have hll : ls.length ≤ m := by rw [← hlen]; exact body_many ls
  have HS := Lib.hid hs
  have HOK := Lib.hid hok
  have HLEN := Lib.hid hlen
  have HLL := Lib.hid hll
  clear hs hok h9 hlen hll
  go_enter Tryz.func9, Tryz.ntmps9
  go_wp2_with fail
  have M0 := Lib.hid hM
  clear hM
  go_loopw [5, 6] (fun a b wr => ∃ k : Nat, Hid (k ≤ ls.length) ∧ ∃ q : Nat, Hid ((bodyL (ls.take k)).length = q) ∧ b = .int .i64 (q : Nat) ∧ Mem [] w [] [gT 37 3 lnF a (ls.take k)] wr) (fun _ b _ => m - (intOf b).toNat)
  case atStart => exact ⟨0, Lib.hid (Nat.zero_le _), 0, Lib.hid rfl, rfl, M0.out⟩
  case round =>
    clear M0
    obtain ⟨k, hk, q, hq, rfl, hM⟩ := hrel
    have q0 : (0 : Int) ≤ (q : Int) := Int.natCast_nonneg _
    by_cases hlt : k < ls.length
    · have hdr := body_drop hlt
      rw [hq.out] at hdr
      have hqm := drop_len (l := bodyL ls) hdr (by simp [prL])
      rw [HLEN.out, List.length_cons] at hqm
      have hlt' : (q : Int) < (m : Int) := by omega
      have hok1 := HOK.out ls[k] (List.getElem_mem hlt)
      have hx : nums (s.extract q m) = prL ls[k] ++ 10 :: bodyL (ls.drop (k + 1)) := by rw [extract_drop hm, HS.out, hdr]
      have hsz : (s.extract q m).size ≤ 1000000000 := by rw [ByteArray.size_extract]; omega
      have HC := Lib.hid (fun w => cut_at (s.extract q m) ⟨#[10]⟩ _ _ 10 rfl hx (prL_no10 hok1) hsz w)
      obtain ⟨p, hp⟩ : ∃ p, (prL ls[k]).length = p := ⟨_, rfl⟩
      rw [hp] at hqm
      have hps : (bstr (prL ls[k])).size = p := by rw [bstr_size, hp]
      have HP := Lib.hid (fun w => parse_pr ls[k] hok1 (bstr (prL ls[k])) (nums_bstr (prL_bytes _)) (by omega) w)
      have hq' : (bodyL (ls.take (k + 1))).length = q + (p + 1) := by rw [bodyL_take hlt, List.length_append, hq.out, List.length_append, hp]; rfl
      have p0 : (0 : Int) ≤ (p : Int) := Int.natCast_nonneg _
      have hqp : (q : Int) + (p : Int) + 1 ≤ (m : Int) := by omega
      have HQ := Lib.hid hq'
      have hll2 : (ls.take k).length + 1 ≤ 1000000000 := by rw [List.length_take]; have := HLL.out; omega
      have HTK := Lib.hid (show ls.take k ++ [ls[k]] = ls.take (k + 1) from (List.take_succ_eq_append_getElem hlt).symm)
      clear hdr hqm hok1 hx hsz hp hq hq'
      go_wp2_with (first | ((with_reducible refine (HC.out _).mono ?_); rintro e w1 ⟨rfl, hb⟩; replace hM := hM.step hb; clear hb) | ((with_reducible refine (HP.out _).mono ?_); rintro e w1 ⟨rfl, hb⟩; replace hM := hM.step hb; clear hb) | ((with_reducible refine at_bslice ?_); refine gbs hM rt_ln (cs := lnA ls[k]) rfl rfl (by decide) ?_; clear hM; intro gb wb hM) | ((with_reducible refine at_append ?_); refine gap (l := ls.take k) hM rt_ln (ent_src (x := ls[k]) hM rt_ln rfl (List.Mem.head _)) hll2 ?_; clear hM; intro A2 N2 c2 wz HNN hM) | ((first | with_reducible refine at_load ?_ | ((with_reducible refine at_load_g ?_ ?_); (· rfl))); first | refine nll hM ?_ | refine nlc hM ?_ | refine nlp hM ?_) | ((with_reducible refine at_store ?_); first | (refine nlw hM ?_; clear hM; intro wx hM) | (refine nls hM ?_; clear hM; intro wx hM) | (refine nlt hM ?_; clear hM; intro wx hM)) | ((with_reducible refine at_alloc ?_); refine nlz hM ?_; clear hM; intro gx wx hM) | ((with_reducible refine at_box ?_); first | (refine nlb hM ?_; clear hM; intro gx wx hM) | (refine nlx hM ?_; clear hM; intro gx wx hM)))
      refine ⟨⟨k + 1, Lib.hid (by omega), q + (p + 1), HQ, by go_num, ?_⟩, by simp [intOf]; omega⟩
      rw [← HTK.out]
      exact hM.subL (List.nil_sublist _)
    · have hkl : ls.take k = ls := List.take_of_length_le (by omega)
      rw [hkl] at hM hq
      obtain rfl : q = m := by rw [← hq.out, HLEN.out]
      obtain ⟨A, c, rfl, _⟩ := gT_form (hM.thing _ (List.Mem.head _))
      clear hkl hk hlt hq
      go_wp2_with fail
      go_ret3
      exact ⟨_, _, _, rfl, hM.becomes (List.Mem.head _)⟩
end Go.Proofs.YtlidpdjainmaiaaGreatDoor
