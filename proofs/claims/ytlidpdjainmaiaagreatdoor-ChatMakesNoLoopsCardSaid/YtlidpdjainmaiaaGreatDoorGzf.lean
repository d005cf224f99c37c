/- Seat c: Repair at a valid text. -/
import Derived.Test.YtlidpdjainmaiaaGreatDoorXh
import Derived.Test.YtlidpdjainmaiaaGreatDoorGw
namespace Go.Cht
open Go Go.Bul
def sLen (v : Value) : Nat := match v with
  | .string s => s.size
  | _ => 0
theorem flat_bytes {cs : List (List Nat)} {s : ByteArray} (h : nums s = cs.flatten) (k : Nat) : Bytes (cs.drop k).flatten ∧ Bytes (cs.take k).flatten := by
  have hb := bytes_of_nums s
  rw [h] at hb
  refine ⟨fun b hx => ?_, fun b hx => ?_⟩
  · obtain ⟨c, hc, hbc⟩ := List.mem_flatten.1 hx
    exact hb b (List.mem_flatten.2 ⟨c, List.mem_of_mem_drop hc, hbc⟩)
  · obtain ⟨c, hc, hbc⟩ := List.mem_flatten.1 hx
    exact hb b (List.mem_flatten.2 ⟨c, List.mem_of_mem_take hc, hbc⟩)
theorem flat_drop {cs : List (List Nat)} {k : Nat} (hk : k < cs.length) : (cs.drop k).flatten = cs[k] ++ (cs.drop (k + 1)).flatten := by
  rw [List.drop_eq_getElem_cons hk, List.flatten_cons]
theorem flat_take {cs : List (List Nat)} {k : Nat} (hk : k < cs.length) : (cs.take (k + 1)).flatten = (cs.take k).flatten ++ cs[k] := by
  rw [List.take_succ_eq_append_getElem hk, List.flatten_append, List.flatten_cons, List.flatten_nil, List.append_nil]
theorem flat_len {cs : List (List Nat)} (k : Nat) : (cs.take k).flatten.length + (cs.drop k).flatten.length = cs.flatten.length := by
  rw [← List.length_append, ← List.flatten_append, List.take_append_drop]
end Go.Cht
namespace Go.Proofs.YtlidpdjainmaiaaGreatDoor
open Go Go.RowKit Go.Bul Go.Thg Go.Lin Go.Cht
set_option maxRecDepth 20000 in
set_option maxHeartbeats 4000000 in
theorem repair_any (s : ByteArray) (cs : List (List Nat)) (hcs : nums s = cs.flatten) (hv : ∀ c ∈ cs, Cd c) (h0 : 0 < s.size) (hsz : s.size ≤ 100000000) (w : World) (hB : Bnd w) : Calls Tryz.prog 71 #[.string s] w fun e w' => e = .returned (.string s) ∧ Below w.heap.size w w' := by
  have hM := Mem.start [] w
  have HE := Lib.hid (fun w hB => encode_rep w hB)
  have HB := Lib.hid (fun w' hb => hB.keep (w' := w') hb)
  have HCS := Lib.hid hcs
  have HV := Lib.hid hv
  have HS0 := Lib.hid (show s = bstr (cs.drop 0).flatten by rw [List.drop_zero, ← hcs, bstr_of_nums])
  have HSZ := Lib.hid (show cs.flatten.length ≤ 100000000 ∧ 0 < cs.flatten.length by rw [← hcs, nums_length]; exact ⟨hsz, h0⟩)
  clear hcs hv h0 hsz hB
  go_enter Tryz.func71, Tryz.ntmps71
  go_wp2_with (first | ((with_reducible refine (HE.out _ (HB.out _ hM.below)).mono ?_); rintro e w1 ⟨⟨se, ze, rfl⟩, hb⟩; replace hM := hM.step hb; clear hb) | ((first | with_reducible refine at_load ?_ | ((with_reducible refine at_load_g ?_ ?_); (· rfl))); first | refine nll hM ?_ | refine nlc hM ?_ | refine nlp hM ?_) | ((with_reducible refine at_store ?_); first | (refine nlw hM ?_; clear hM; intro wx hM) | (refine nls hM ?_; clear hM; intro wx hM) | (refine nlt hM ?_; clear hM; intro wx hM)) | ((with_reducible refine at_alloc ?_); refine nlz hM ?_; clear hM; intro gx wx hM) | ((with_reducible refine at_box ?_); first | (refine nlb hM ?_; clear hM; intro gx wx hM) | (refine nlx hM ?_; clear hM; intro gx wx hM)))
  obtain ⟨bb, hbb⟩ : ∃ bb, bb = gx := ⟨_, rfl⟩
  subst hbb
  have M0 := Lib.hid hM
  clear hM HE
  go_simp
  go_loopw [0] (fun a wr => ∃ k : Nat, k ≤ cs.length ∧ a = .string (bstr (cs.drop k).flatten) ∧ ∃ p V, Hid (PB bb p ∧ Zf V) ∧ Mem [] w [⟨bb, 63, 2, #[p, V]⟩] [bT V (cs.take k).flatten] wr) (fun a _ => sLen a)
  case atStart => exact ⟨0, Nat.zero_le _, by rw [← HS0.out], _, _, Lib.hid ⟨.inl rfl, Zf.nil⟩, Mem.gNil M0.out _ _ _⟩
  case round =>
    clear M0
    obtain ⟨k, hk, rfl, p, V, hpz, hM⟩ := hrel
    have hfb := flat_bytes HCS.out k
    have hfl := flat_len (cs := cs) k
    obtain ⟨u, hu⟩ : ∃ u, bstr (cs.drop k).flatten = u := ⟨_, rfl⟩
    have hun : nums u = (cs.drop k).flatten := by rw [← hu, nums_bstr hfb.1]
    rw [hu]
    by_cases hlt : k < cs.length
    · have hcd := HV.out cs[k] (List.getElem_mem hlt)
      have hc14 := hcd.size
      rw [flat_drop hlt] at hun hfl
      rw [List.length_append] at hfl
      have hme := meas_code hcd (cs.drop (k + 1)).flatten
      have HME := Lib.hid (fun w => measure_any u w)
      rw [hun, hme] at HME
      obtain ⟨m, hm⟩ : ∃ m, u.size = m := ⟨_, rfl⟩
      have hml : m = cs[k].length + (cs.drop (k + 1)).flatten.length := by rw [← hm, ← nums_length, hun, List.length_append]
      obtain ⟨n, hn⟩ : ∃ n, cs[k].length = n := ⟨_, rfl⟩
      have hx1 : nums (u.extract 0 n) = cs[k] := by rw [nums_extract, hun, ← hn, List.take_left, List.drop_zero]
      have hx2 : u.extract n m = bstr (cs.drop (k + 1)).flatten := by
        refine nums_inj ?_
        rw [nums_extract, nums_bstr (flat_bytes HCS.out (k + 1)).1, List.take_of_length_le (by rw [nums_length]; omega), hun, ← hn, List.drop_left]
      rw [hn] at HME hml hfl hc14
      have hse : u.toList.isEmpty = false := isEmpty_no (by omega)
      have n1 : (1 : Int) ≤ (n : Int) := by omega
      have n4 : (n : Int) ≤ 4 := by omega
      have nm : (n : Int) ≤ (m : Int) := by omega
      have nmx : max (n : Int) 1 = (n : Int) := by omega
      have hs2 : (cs.take k).flatten.length + (u.extract 0 n).size ≤ 1000000000 := by rw [ByteArray.size_extract]; have := HSZ.out; omega
      have HX1 := Lib.hid hx1
      have HX2 := Lib.hid hx2
      have HN := Lib.hid (And.intro hc14.1 hml)
      clear hcd hc14 hfl hme hun hml hn hx1 hx2 hu hfb
      go_wp2_with (first | ((with_reducible refine (HME.out _).mono ?_); rintro e w1 ⟨rfl, hb⟩; replace hM := hM.step hb; clear hb) | ((with_reducible refine (wstr_any bb p V _ _ hpz.out.1 hpz.out.2 hM (UpdL.head _ _ _ _ _) (UpdR.head _ _) hs2).mono ?_); rintro e w1 ⟨⟨v1, rfl⟩, A2, N2, c2, hz2, hM2⟩; clear hM; have hM := hM2; clear hM2) | ((first | with_reducible refine at_load ?_ | ((with_reducible refine at_load_g ?_ ?_); (· rfl))); first | refine nll hM ?_ | refine nlc hM ?_ | refine nlp hM ?_) | ((with_reducible refine at_store ?_); first | (refine nlw hM ?_; clear hM; intro wx hM) | (refine nls hM ?_; clear hM; intro wx hM) | (refine nlt hM ?_; clear hM; intro wx hM)) | ((with_reducible refine at_alloc ?_); refine nlz hM ?_; clear hM; intro gx wx hM) | ((with_reducible refine at_box ?_); first | (refine nlb hM ?_; clear hM; intro gx wx hM) | (refine nlx hM ?_; clear hM; intro gx wx hM)))
      rw [HX1.out, ← flat_take hlt] at hM
      refine ⟨⟨k + 1, by omega, by rw [HX2.out], _, _, Lib.hid ⟨.inr rfl, hz2⟩, hM⟩, ?_⟩
      show (u.extract n m).size < u.size
      rw [ByteArray.size_extract]
      have := HN.out
      omega
    · have hu0 : u = ⟨#[]⟩ := nums_inj (by rw [hun, List.drop_of_length_le (by omega)]; rfl)
      have htk : cs.take k = cs := List.take_of_length_le (by omega)
      rw [htk] at hM hfb
      subst hu0
      obtain ⟨Ab, cb, rfl, _⟩ := gT_form (hM.thing _ (List.Mem.head _))
      obtain ⟨gb, ob, rfl, _, _⟩ := gT_at cf_by (hM.thing _ (List.Mem.head _)) HSZ.out.2
      obtain rfl : ob = 0 := hpz.out.2 _ _ _ rfl
      have HFB := Lib.hid hfb
      have hl9 : cs.flatten.length ≤ 1000000000 := by have := HSZ.out.1; omega
      clear hfb hfl hu hun hlt hk htk
      go_wp2_with ((with_reducible refine (bstring_any bb gb _ cb p cs.flatten hM (List.Mem.head _) (UpdR.head _ _) HFB.out.2 HSZ.out.2 hl9).mono ?_); rintro e w1 ⟨rfl, hM2⟩; clear hM; have hM := hM2; clear hM2)
      go_ret
      refine ⟨?_, hM.below⟩
      rw [← HCS.out, bstr_of_nums]
      rfl
end Go.Proofs.YtlidpdjainmaiaaGreatDoor
