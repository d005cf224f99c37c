/- The reference of base64: Value, inPlace. The reference of base64: Encode. The reference: Text. -/
import Derived.Test.YtdnnjgjaffkdfaaDoorXf
import Derived.Test.YtdnnjgjaffkdfaaDoorSbm
namespace Go.Lin
open Go Go.Bul
end Go.Lin
namespace Go.Proofs.YtdnnjgjaffkdfaaDoor
open Go Go.RowKit Go.Bul Go.Thg Go.Lin
abbrev alB : ByteArray := ⟨#[65, 66, 67, 68, 69, 70, 71, 72, 73, 74, 75, 76, 77, 78, 79, 80, 81, 82, 83, 84, 85, 86, 87, 88, 89, 90, 97, 98, 99, 100, 101, 102, 103, 104, 105, 106, 107, 108, 109, 110, 111, 112, 113, 114, 115, 116, 117, 118, 119, 120, 121, 122, 48, 49, 50, 51, 52, 53, 54, 55, 56, 57, 43, 47]⟩
theorem alB_size : alB.size = 64 := rfl
end Go.Proofs.YtdnnjgjaffkdfaaDoor
namespace Go.Lin
open Go Go.Bul
/-- One more bit. -/
theorem emitL_bit (n : Nat) : ∀ (V bit : Nat), V < 2 ^ n → bit < 2 → emitL (2 * V + bit) (n + 1) = emitL V n ++ (if n % 6 = 5 then [2 * (remB V n).1 + bit] else []) ∧ remB (2 * V + bit) (n + 1) = if n % 6 = 5 then (0, 0) else (2 * (remB V n).1 + bit, n % 6 + 1) := by
  induction n using Nat.strongRecOn with
  | ind n ih =>
    intro V bit hV hb
    by_cases h6 : 6 ≤ n
    · obtain ⟨m, rfl⟩ : ∃ m, n = m + 6 := ⟨n - 6, by omega⟩
      have e1 : (2 * V + bit) / 2 ^ (m + 1) = V / 2 ^ m := by
        rw [Nat.pow_succ, Nat.mul_comm (2 ^ m) 2, ← Nat.div_div_eq_div_mul, show (2 * V + bit) / 2 = V by omega]
      have e2 : (2 * V + bit) % 2 ^ (m + 1) = 2 * (V % 2 ^ m) + bit := by
        rw [Nat.pow_succ, Nat.mul_comm (2 ^ m) 2, Nat.mod_mul, show (2 * V + bit) / 2 = V by omega, show (2 * V + bit) % 2 = bit by omega]
        omega
      have hm : V % 2 ^ m < 2 ^ m := Nat.mod_lt _ (Nat.pow_pos (by decide))
      obtain ⟨i1, i2⟩ := ih m (by omega) (V % 2 ^ m) bit hm hb
      rw [emitL_yes (b := 2 * V + bit) (by omega), remB_yes (b := 2 * V + bit) (by omega), emitL_yes (b := V) (by omega), remB_yes (b := V) (by omega), show m + 6 + 1 - 6 = m + 1 by omega, show m + 6 - 6 = m by omega, e1, e2, i1, i2, show (m + 6) % 6 = m % 6 by omega]
      exact ⟨rfl, rfl⟩
    · rw [emitL_no (b := V) h6, remB_no (b := V) h6]
      by_cases h5 : n = 5
      · subst h5
        rw [emitL_yes (by decide), remB_yes (by decide), emitL_no (by decide), remB_no (by decide)]
        simp [Nat.mod_one]
      · rw [emitL_no (by omega), remB_no (by omega), if_neg (by omega), if_neg (by omega), Nat.mod_eq_of_lt (by omega : n < 6)]
        exact ⟨rfl, rfl⟩
/-- What the reference has after j bits of a byte. -/
def bitV (b x j : Nat) : Nat := b * 2 ^ j + x / 2 ^ (8 - j)
theorem bitV_0 {b x : Nat} (hx : x < 256) : bitV b x 0 = b := by
  unfold bitV
  simp only [Nat.pow_zero, Nat.mul_one, Nat.sub_zero, Nat.reducePow]
  omega
theorem bitV_8 (b x : Nat) : bitV b x 8 = b * 256 + x := by simp [bitV]
theorem bitV_step {b x j : Nat} (hj : j < 8) : bitV b x (j + 1) = 2 * bitV b x j + x / 2 ^ (7 - j) % 2 := by
  unfold bitV
  have e : x / 2 ^ (7 - j) = 2 * (x / 2 ^ (8 - j)) + x / 2 ^ (7 - j) % 2 := by
    have h : x / 2 ^ (8 - j) = x / 2 ^ (7 - j) / 2 := by rw [Nat.div_div_eq_div_mul, ← Nat.pow_succ, show (7 - j).succ = 8 - j by omega]
    rw [h]
    omega
  rw [show 8 - (j + 1) = 7 - j by omega, Nat.pow_succ, Nat.mul_add, ← Nat.mul_assoc, Nat.mul_comm (b * 2 ^ j) 2, ← Nat.mul_assoc, Nat.mul_comm 2 b, Nat.mul_assoc]
  omega
theorem bitV_lt {b c x j : Nat} (hb : b < 2 ^ c) (hx : x < 256) (hj : j ≤ 8) : bitV b x j < 2 ^ (c + j) := by
  unfold bitV
  have h1 : x / 2 ^ (8 - j) < 2 ^ j := by
    refine Nat.div_lt_of_lt_mul ?_
    rw [← Nat.pow_add, show 8 - j + j = 8 by omega]
    exact hx
  have h2 : (b + 1) * 2 ^ j ≤ 2 ^ c * 2 ^ j := Nat.mul_le_mul_right _ hb
  rw [Nat.pow_add]
  rw [Nat.add_mul] at h2
  omega
theorem bstr_plus (a b : List Nat) : bstr a ++ bstr b = bstr (a ++ b) := by
  apply ByteArray.ext
  simp [bstr]
end Go.Lin
namespace Go.Lin
open Go Go.Bul
/-- What the reference has after j bits. -/
def bitE (b c x j : Nat) : List Nat × Nat × Nat := (emitL (bitV b x j) (c + j), remB (bitV b x j) (c + j))
theorem bitE_0 {b c x : Nat} (hx : x < 256) (hc : c < 6) : bitE b c x 0 = ([], b, c) := by
  unfold bitE
  rw [bitV_0 hx, Nat.add_zero, emitL_no (by omega), remB_no (by omega)]
theorem bitE_8 (b c x : Nat) : bitE b c x 8 = (emitL (b * 256 + x) (c + 8), remB (b * 256 + x) (c + 8)) := by unfold bitE; rw [bitV_8]
theorem bitE_step {b c x j : Nat} (hx : x < 256) (hb : b < 2 ^ c) (hj : j < 8) : bitE b c x (j + 1) = if (bitE b c x j).2.2 + 1 = 6 then ((bitE b c x j).1 ++ [2 * (bitE b c x j).2.1 + x / 2 ^ (7 - j) % 2], 0, 0) else ((bitE b c x j).1, 2 * (bitE b c x j).2.1 + x / 2 ^ (7 - j) % 2, (bitE b c x j).2.2 + 1) := by
  obtain ⟨h1, h2⟩ := emitL_bit (c + j) (bitV b x j) (x / 2 ^ (7 - j) % 2) (bitV_lt hb hx (by omega)) (Nat.mod_lt _ (by decide))
  have h3 := remB_2 (c + j) (bitV b x j)
  unfold bitE
  rw [bitV_step hj, ← Nat.add_assoc, h1, h2]
  simp only [h3]
  by_cases h5 : (c + j) % 6 = 5
  · rw [if_pos h5, if_pos h5, if_pos (by omega)]
  · rw [if_neg h5, if_neg h5, if_neg (by omega), List.append_nil]
theorem bitE_lt {b c x j : Nat} (hx : x < 256) (hb : b < 2 ^ c) (hc : c < 5) (hj : j ≤ 8) : (bitE b c x j).2.1 < 32 ∧ (bitE b c x j).2.2 < 6 ∧ (bitE b c x j).1.length ≤ 2 := by
  have h1 := remB_lt (c + j) (bitV b x j) (bitV_lt hb hx hj)
  have h2 := remB_2 (c + j) (bitV b x j)
  have h3 := emitL_length (c + j) (bitV b x j)
  have h4 : (c + j) % 6 ≤ 5 := by omega
  have h5 : 2 ^ ((c + j) % 6) ≤ 2 ^ 5 := Nat.pow_le_pow_right (by decide) h4
  unfold bitE
  simp only
  omega
theorem and_one8' : ∀ x : Fin 256, bits BinOp.and IntKind.u8 (x.val : Int) 1 = ((x.val % 2 : Nat) : Int) := by decide +kernel
theorem and_one8 {x : Nat} (h : x < 256) : bits BinOp.and IntKind.u8 (x : Int) 1 = ((x % 2 : Nat) : Int) := and_one8' ⟨x, h⟩
def strN : Value → Nat
  | .string s => s.size
  | _ => 0
end Go.Lin
namespace Go.Proofs.YtdnnjgjaffkdfaaDoor
open Go Go.RowKit Go.Bul Go.Thg Go.Lin
theorem alB_piece' : ∀ k : Fin 64, (alB.extract k.val (k.val + 1)).data.toList = [UInt8.ofNat (alf k.val)] := by decide +kernel
theorem alB_piece {k : Nat} (h : k < 64) : alB.extract k (k + 1) = bstr [alf k] := by
  have := alB_piece' ⟨k, h⟩
  apply ByteArray.ext
  apply Array.ext'
  rw [this]
  rfl
section
variable {w : World} {ops : Array Oper} {rest : List Oper} {o : Oper} {a : Act} {Q : Exit → Act → World → Prop} {x y : Operand}
theorem run_alsl {k : Nat} {z : Int} (hk : k < 64) (hz : z = (k : Int) + 1) (w : World) : (Instr.sliceAt 9 (.string alB) (some (.int .i64 (k : Nat))) (some (.int .i64 z)) none).run Tryd.prog w = .ok (.string (bstr [alf k])) w := by
  subst hz
  rw [run_sliceAt_string (h := Tryd.underlying9), run_slice_string (h := Tryd.underlying9) (h0 := by omega) (h1 := by omega) (h2 := by rw [alB_size]; omega)]
  rw [show ((k : Int)).toNat = k by omega, show ((k : Int) + 1).toNat = k + 1 by omega, alB_piece hk]
theorem lsal {z : Int} (k : Nat) (hk : k < 64) (hz : z = (k : Int) + 1) (h : wpList Tryd.prog ops Q rest (a.put o.dst (.string (bstr [alf k]))) w) (hgd : o.guard = none := by rfl) (ho : o.op = .slice 9 (.const (.string alB)) (some x) (some y) none := by rfl) (hx : a.eval x = .int .i64 (k : Nat) := by rfl) (hy : a.eval y = .int .i64 z := by rfl) : wpList Tryd.prog ops Q (o :: rest) a w :=
  wpList_plain hgd fun K hK => by
    have he : a.eval (.const (.string alB)) = .string alB := rfl
    unfold Oper.wp execOp
    simp only [ho, he, hx, hy, Option.map_some, Option.map_none, Sem.run_bind, run_alsl hk hz, Result.andThen_ok, Sem.run_pure]
    exact hK _ _ h
end
set_option maxRecDepth 20000 in
set_option maxHeartbeats 4000000 in
theorem rencode_any (A : Option Addr) (n c : Nat) (bs : List Nat) (w : World) (hr : Reads w 1 A n (vals .u8 bs)) (hB : Bytes bs) (h0 : 0 < n) (hn : n ≤ 60000) :
    Calls Tryd.prog 41 #[.slice A n c] w fun e w' => e = .returned (.string (bstr (encT bs))) ∧ w = w' := by
  have hlen : bs.length = n := by have := hr.1; simp at this; omega
  obtain ⟨sg, so, rfl, hsg, hcs⟩ := hr.2 h0
  have HX := Lib.hid (fun (k : Nat) (hk : k < n) => hcs k (.int .u8 (bs.getD k 0 : Nat)) (by simp [vals, List.getD, List.getElem?_eq_getElem (by omega : k < bs.length)]))
  have HBY := Lib.hid (fun (k : Nat) (hk : k < n) => show bs.getD k 0 < 256 by rw [List.getD_eq_getElem?_getD, List.getElem?_eq_getElem (by omega)]; exact hB _ (List.getElem_mem _))
  have HTK := Lib.hid (fun (k : Nat) (hk : k < n) => show bs.take (k + 1) = bs.take k ++ [bs.getD k 0] by rw [List.take_add_one, List.getD_eq_getElem?_getD, List.getElem?_eq_getElem (by omega)]; rfl)
  have HOK := Lib.hid (fun (k : Nat) (hk : k ≤ n) => encS_ok (bs.take k) 0 0 (by decide) (by decide) (fun x hx => hB x (List.take_subset _ _ hx)) rfl)
  have HTL := Lib.hid (fun (k : Nat) (hk : k ≤ n) => show (bs.take k).length = k by rw [List.length_take]; omega)
  have HALL := Lib.hid (show bs.take n = bs by rw [← hlen, List.take_length])
  have HST := Lib.hid (fun (k x : Nat) (hk : k < n) (hx : bs.getD k 0 = x) => show encS 0 0 (bs.take (k + 1)) = ((encS 0 0 (bs.take k)).1 ++ (bitE (encS 0 0 (bs.take k)).2.1 (encS 0 0 (bs.take k)).2.2 x 8).1, (bitE (encS 0 0 (bs.take k)).2.1 (encS 0 0 (bs.take k)).2.2 x 8).2) by rw [HTK.out k hk, hx, encS_append, bitE_8])
  have nn : (n : Int) ≤ 60000 := by omega
  have hn' := Lib.hid hn
  clear hr hB hcs hlen h0 HTK
  go_enter Tryd.func41, Tryd.ntmps41
  go_wp2_with fail
  go_loopw [3, 4, 5, 6] (fun o v h i wr => wr = w ∧ ∃ (k : Nat) (s : ByteArray), k ≤ n ∧ i = .int .i64 (k : Nat) ∧ o = .string s ∧ v = .int .i64 ((encS 0 0 (bs.take k)).2.1 : Nat) ∧ h = .int .i64 ((encS 0 0 (bs.take k)).2.2 : Nat) ∧ Hid (s = bstr ((encS 0 0 (bs.take k)).1.map alf))) (fun _ _ _ i _ => n - (intOf i).toNat)
  case atStart => exact ⟨rfl, 0, _, by omega, rfl, rfl, rfl, rfl, Lib.hid rfl⟩
  case round =>
    obtain ⟨rfl, k, st, hk, rfl, rfl, rfl, rfl, hst⟩ := hrel
    have k0 : (0 : Int) ≤ (k : Int) := Int.natCast_nonneg _
    by_cases hlt : k < n
    · have k1 : (k : Int) < (n : Int) := by omega
      obtain ⟨x, hxk⟩ : ∃ x, bs.getD k 0 = x := ⟨_, rfl⟩
      have hxc := HX.out k hlt
      have hx9 := HBY.out k hlt
      rw [hxk] at hxc hx9
      have hs8 := HST.out k x hlt hxk
      obtain ⟨i1, i2, i3, _⟩ := HOK.out k hk
      rw [HTL.out k hk] at i3
      generalize encS 0 0 (bs.take k) = S1 at hs8 i1 i2 i3 hst
      obtain ⟨o1, b1, c1⟩ := S1
      simp only at hs8 i1 i2 i3 hst
      have HB0 := bitE_0 (b := b1) (c := c1) hx9 (by omega)
      have HBS := Lib.hid (fun (j : Nat) (hj : j < 8) => bitE_step (b := b1) (c := c1) hx9 i1 hj)
      have HBL := Lib.hid (fun (j : Nat) (hj : j ≤ 8) => bitE_lt (b := b1) (c := c1) hx9 i1 i2 hj)
      generalize bitE b1 c1 x = bf at hs8 HB0 HBS HBL
      have HAND := Lib.hid (fun (j : Nat) => and_one8 (x := x / 2 ^ j) (Nat.lt_of_le_of_lt (Nat.div_le_self _ _) hx9))
      have x0 : (0 : Int) ≤ (x : Int) := Int.natCast_nonneg _
      have x1 : (x : Int) < 256 := by omega
      have o9 := Lib.hid (show o1.length ≤ 90000 by have := hn'.out; omega)
      replace hs8 := Lib.hid hs8
      replace hxc := Lib.hid hxc
      clear HX HBY HOK HTL HALL HST hxk hx9 i1 i2 i3
      go_wp2_with fail
      go_loopw [3, 4, 5, 7] (fun o v h i wq => wq = wr ∧ ∃ (j : Nat) (s : ByteArray), j ≤ 8 ∧ i = .int .i64 (7 - (j : Int)) ∧ o = .string s ∧ v = .int .i64 ((bf j).2.1 : Nat) ∧ h = .int .i64 ((bf j).2.2 : Nat) ∧ Hid (s = bstr ((o1 ++ (bf j).1).map alf))) (fun _ _ _ i _ => (1 + intOf i).toNat)
      case atStart => exact ⟨rfl, 0, st, by omega, rfl, rfl, by rw [HB0], by rw [HB0], Lib.hid (by rw [HB0, List.append_nil]; exact hst.out)⟩
      case round =>
        obtain ⟨rfl, j, s2, hj, rfl, rfl, rfl, rfl, hs2⟩ := hrel
        by_cases hjl : j < 8
        · obtain ⟨kk, hkk⟩ : ∃ kk : Nat, kk = 7 - j := ⟨_, rfl⟩
          have e5 : (7 : Int) - (j : Int) = (kk : Nat) := by omega
          have hbs := HBS.out j hjl
          obtain ⟨l1, l2, l3⟩ := HBL.out j hj
          have han := HAND.out kk
          rw [← hkk] at hbs
          rw [e5]
          have g0 : (0 : Int) ≤ (kk : Int) := Int.natCast_nonneg _
          have g1 : (kk : Int) ≤ 7 := by omega
          generalize bf j = S2 at hbs l1 l2 l3 hs2
          obtain ⟨ol, vl, hl2⟩ := S2
          simp only at hbs l1 l2 l3 hs2
          obtain ⟨bit, hbit⟩ : ∃ bit, bit = x / 2 ^ kk % 2 := ⟨_, rfl⟩
          have hb2 : bit < 2 := by omega
          rw [← hbit] at hbs han
          rw [show ((x / 2 ^ kk : Nat) : Int) = (x : Int) / 2 ^ kk by rw [Int.natCast_ediv]; simp] at han
          obtain ⟨nv, hnv⟩ : ∃ nv, nv = 2 * vl + bit := ⟨_, rfl⟩
          rw [← hnv] at hbs
          have env : 2 * (vl : Int) + (bit : Int) = (nv : Int) := by omega
          have nv0 : (0 : Int) ≤ (nv : Int) := Int.natCast_nonneg _
          have nv9 : (nv : Int) < 64 := by omega
          have nv8 : nv < 64 := by omega
          have vl0 : (0 : Int) ≤ (vl : Int) := Int.natCast_nonneg _
          have vl9 : (vl : Int) < 32 := by omega
          have bt0 : (0 : Int) ≤ (bit : Int) := Int.natCast_nonneg _
          have bt9 : (bit : Int) < 2 := by omega
          have hh0 : (0 : Int) ≤ (hl2 : Int) := Int.natCast_nonneg _
          have hh9 : (hl2 : Int) < 8 := by omega
          by_cases h8 : hl2 + 1 = 6
          · rw [if_pos h8] at hbs
            have p8 : (hl2 : Int) + 1 = 6 := by omega
            have hcat : ¬ (9223372036854775807 < s2.size + (bstr [alf nv]).size) := by
              rw [hs2.out, bstr_size, bstr_size, List.length_map, List.length_append, List.length_singleton]
              have := o9.out
              omega
            have hs3 : Hid (s2 ++ bstr [alf nv] = bstr ((o1 ++ (ol ++ [nv])).map alf)) := Lib.hid (by rw [hs2.out, bstr_plus]; simp)
            replace hbs := Lib.hid hbs
            clear hbit h8 hkk hnv l1 l2 l3 hb2
            go_wp2_with (first | ((with_reducible refine at_load ?_); refine lo hxc.out ?_ (hty := one_u8)) | ((with_reducible refine at_slice ?_); refine lsal nv nv8 rfl ?_))
            exact ⟨⟨trivial, j + 1, _, by omega, by congr 1; omega, rfl, by rw [hbs.out]; rfl, by rw [hbs.out]; rfl, by rw [hbs.out]; exact hs3⟩, by simp [intOf]; omega⟩
          · rw [if_neg h8] at hbs
            have p8 : ¬ ((hl2 : Int) + 1 = 6) := by omega
            replace hbs := Lib.hid hbs
            clear hbit h8 hkk hnv l1 l2 l3 hb2
            go_wp2_with (first | ((with_reducible refine at_load ?_); refine lo hxc.out ?_ (hty := one_u8)))
            exact ⟨⟨trivial, j + 1, s2, by omega, by congr 1; omega, rfl, by rw [hbs.out], by rw [hbs.out]; rfl, by rw [hbs.out]; exact hs2⟩, by simp [intOf]; omega⟩
        · have hj8 : j = 8 := by omega
          obtain ⟨zz, hzz⟩ : ∃ zz : Int, zz = 7 - (j : Int) := ⟨_, rfl⟩
          rw [← hzz, hj8]
          rw [hj8] at hs2
          have z9 : ¬ (0 ≤ zz) := by omega
          have hs9 := hs8.out
          generalize bf 8 = S6 at hs9 hs2
          obtain ⟨ol, vl, hl2⟩ := S6
          simp only at hs9 hs2
          replace hs9 := Lib.hid hs9
          clear hzz hj8 hj hjl HB0 hs8 HBS HBL HAND
          go_wp2_with fail
          exact ⟨⟨trivial, k + 1, s2, by omega, by go_num, rfl, by rw [hs9.out], by rw [hs9.out], by rw [hs9.out]; exact hs2⟩, by simp [intOf]; omega⟩
    · have hkn : k = n := by omega
      subst hkn
      rw [HALL.out] at hst ⊢
      obtain ⟨i1, i2, i3, i4⟩ := HOK.out k hk
      rw [HALL.out] at i1 i2 i3 i4
      have HLB := Lib.hid (show bs.length ≤ 60000 by rw [← HALL.out, HTL.out k hk]; exact hn)
      generalize encS 0 0 bs = S1 at i1 i2 i3 i4 hst
      obtain ⟨o1, b1, c1⟩ := S1
      simp only at i1 i2 i3 i4 hst
      have hl1 : (o1.map alf).length ≤ 90000 := by rw [List.length_map]; have := HLB.out; omega
      have hee : encT bs = (o1.map alf ++ (if 0 < c1 then [alf (b1 * 2 ^ (6 - c1))] else [])) ++ List.replicate (padN (encO 0 0 bs).length) 61 := by
        unfold encT
        rw [i4, List.map_append]
        split <;> simp
      have hep : padN (encO 0 0 bs).length = (4 - (o1.map alf ++ (if 0 < c1 then [alf (b1 * 2 ^ (6 - c1))] else [])).length % 4) % 4 := by
        unfold padN
        rw [i4, List.length_append, List.length_append, List.length_map]
        split <;> rfl
      generalize padN (encO 0 0 bs).length = p at hee hep
      by_cases hc0 : 0 < c1
      · rw [if_pos hc0] at hee hep
        have hix : b1 * 2 ^ (6 - c1) < 64 := idx_lt i1 i2
        have c0 : (0 : Int) < (c1 : Int) := by omega
        have c5 : (c1 : Int) < 6 := by omega
        clear i3 i4
        go_wp2_with fail
        go_loopw [4, 5] (fun v h wq => wq = wr ∧ ∃ j : Nat, c1 + j ≤ 6 ∧ v = .int .i64 ((b1 * 2 ^ j : Nat) : Int) ∧ h = .int .i64 ((c1 + j : Nat) : Int)) (fun _ h _ => 6 - (intOf h).toNat)
        case atStart => exact ⟨rfl, 0, by omega, by simp, rfl⟩
        case round =>
          obtain ⟨rfl, j, hj, rfl, rfl⟩ := hrel
          obtain ⟨cj, hcj⟩ : ∃ cj, cj = c1 + j := ⟨_, rfl⟩
          obtain ⟨vj, hvj⟩ : ∃ vj, vj = b1 * 2 ^ j := ⟨_, rfl⟩
          have hv2 : vj * 2 = b1 * 2 ^ (j + 1) := by rw [hvj, Nat.pow_succ, Nat.mul_assoc]
          have hvle : vj ≤ b1 * 2 ^ (6 - c1) := by rw [hvj]; exact Nat.mul_le_mul_left _ (Nat.pow_le_pow_right (by decide) (by omega))
          rw [← hcj, ← hvj]
          have cj0 : (0 : Int) ≤ (cj : Int) := Int.natCast_nonneg _
          have vj0 : (0 : Int) ≤ (vj : Int) := Int.natCast_nonneg _
          have vj9 : (vj : Int) < 64 := by omega
          by_cases hlt : cj < 6
          · have cj6 : (cj : Int) < 6 := by omega
            have hv3 := Lib.hid (show (2 : Int) * (vj : Int) = ((b1 * 2 ^ (j + 1) : Nat) : Int) by rw [← hv2]; omega)
            clear hvj hv2 hvle
            go_wp2_with fail
            exact ⟨⟨trivial, j + 1, by omega, by rw [hv3.out], by first | rfl | (congr 1; omega)⟩, by simp [intOf]; omega⟩
          · have cj6 : ¬ ((cj : Int) < 6) := by omega
            obtain ⟨ix, hixe⟩ : ∃ ix, ix = b1 * 2 ^ (6 - c1) := ⟨_, rfl⟩
            have hvi : vj = ix := by rw [hvj, hixe, show j = 6 - c1 by omega]
            rw [← hixe] at hee hep hix
            rw [hvi]
            rw [hvi] at vj0 vj9
            have hcat : ¬ (9223372036854775807 < st.size + (bstr [alf ix]).size) := by
              rw [hst.out, bstr_size, bstr_size, List.length_singleton]
              omega
            have hs3 : Hid (st ++ bstr [alf ix] = bstr (o1.map alf ++ [alf ix])) := Lib.hid (by rw [hst.out, bstr_plus])
            have hl3 : (o1.map alf ++ [alf ix]).length ≤ 90001 := by rw [List.length_append]; simp only [List.length_cons, List.length_nil]; omega
            clear hvj hv2 hvle hixe hvi hl1 i1 i2 hc0 c0 c5
            go_wp2_with (first | ((with_reducible refine at_slice ?_); refine lsal ix hix rfl ?_))
            generalize st ++ bstr [alf ix] = s3 at hs3 ⊢
            generalize o1.map alf ++ [alf ix] = o2 at hs3 hee hep hl3
            go_loopw [3] (fun o wq => wq = wr ∧ ∃ (j : Nat) (s : ByteArray), j ≤ p ∧ o = .string s ∧ Hid (s = bstr (o2 ++ List.replicate j 61))) (fun o _ => 100000 - strN o)
            case atStart => exact ⟨rfl, 0, _, by omega, rfl, Lib.hid (by rw [List.replicate_zero, List.append_nil]; exact hs3.out)⟩
            case round =>
              obtain ⟨rfl, j, s4, hj, rfl, hs4⟩ := hrel
              have hsz : s4.size = o2.length + j := by rw [hs4.out, bstr_size, List.length_append, List.length_replicate]
              have hm0 : (0 : Int) ≤ (s4.size : Int) := Int.natCast_nonneg _
              have hm9 : (s4.size : Int) < 100000 := by omega
              by_cases hjp : j < p
              · have hm4 : ¬ ((s4.size : Int) % 4 = 0) := by omega
                have hs5 := Lib.hid (show s4 ++ bstr [61] = bstr (o2 ++ List.replicate (j + 1) 61) by rw [hs4.out, bstr_plus, List.append_assoc, List.replicate_succ'])
                have hsz' := Lib.hid hsz
                have hjp' := Lib.hid hjp
                have hcat : ¬ (9223372036854775807 < s4.size + 1) := by omega
                have hp3 := Lib.hid (show p < 4 by omega)
                have hl3' := Lib.hid hl3
                clear hsz hs4 hee hep hl3 hj hjp hm0 hm9
                go_wp2_with fail
                have hm9 := hp3.out
                have hl9 := hl3'.out
                have hjp := hjp'.out
                have hsz := hsz'.out
                refine ⟨⟨trivial, j + 1, _, by omega, rfl, hs5⟩, ?_⟩
                have h5 : (s4 ++ bstr [61]).size = s4.size + 1 := by rw [hs5.out, bstr_size, List.length_append, List.length_replicate]; omega
                show 100000 - (s4 ++ bstr [61]).size < 100000 - s4.size
                omega
              · have hjj : j = p := by omega
                have hm4 : (s4.size : Int) % 4 = 0 := by omega
                have hfin := Lib.hid (show s4 = bstr (encT bs) by rw [hs4.out, hee, hjj])
                clear hsz hs4 hee hep hjj hj hjp
                go_wp2_with fail
                go_ret
                exact ⟨by rw [← hfin.out]; rfl, rfl⟩
      · rw [if_neg hc0] at hee hep
        have hl3 : (o1.map alf ++ []).length ≤ 90001 := by rw [List.append_nil]; omega
        have hs3 : Hid (st = bstr (o1.map alf ++ [])) := Lib.hid (by rw [hst.out, List.append_nil])
        have c0 : ¬ (0 < (c1 : Int)) := by omega
        generalize o1.map alf ++ [] = o2 at hs3 hee hep hl3
        clear i1 i2 i3 i4 hl1 hst
        go_wp2_with fail
        go_loopw [3] (fun o wq => wq = wr ∧ ∃ (j : Nat) (s : ByteArray), j ≤ p ∧ o = .string s ∧ Hid (s = bstr (o2 ++ List.replicate j 61))) (fun o _ => 100000 - strN o)
        case atStart => exact ⟨rfl, 0, _, by omega, rfl, Lib.hid (by rw [List.replicate_zero, List.append_nil]; exact hs3.out)⟩
        case round =>
          obtain ⟨rfl, j, s4, hj, rfl, hs4⟩ := hrel
          have hsz : s4.size = o2.length + j := by rw [hs4.out, bstr_size, List.length_append, List.length_replicate]
          have hm0 : (0 : Int) ≤ (s4.size : Int) := Int.natCast_nonneg _
          have hm9 : (s4.size : Int) < 100000 := by omega
          by_cases hjp : j < p
          · have hm4 : ¬ ((s4.size : Int) % 4 = 0) := by omega
            have hs5 := Lib.hid (show s4 ++ bstr [61] = bstr (o2 ++ List.replicate (j + 1) 61) by rw [hs4.out, bstr_plus, List.append_assoc, List.replicate_succ'])
            have hsz' := Lib.hid hsz
            have hjp' := Lib.hid hjp
            have hcat : ¬ (9223372036854775807 < s4.size + 1) := by omega
            have hp3 := Lib.hid (show p < 4 by omega)
            have hl3' := Lib.hid hl3
            clear hsz hs4 hee hep hl3 hj hjp hm0 hm9
            go_wp2_with fail
            have hm9 := hp3.out
            have hl9 := hl3'.out
            have hjp := hjp'.out
            have hsz := hsz'.out
            refine ⟨⟨trivial, j + 1, _, by omega, rfl, hs5⟩, ?_⟩
            have h5 : (s4 ++ bstr [61]).size = s4.size + 1 := by rw [hs5.out, bstr_size, List.length_append, List.length_replicate]; omega
            show 100000 - (s4 ++ bstr [61]).size < 100000 - s4.size
            omega
          · have hjj : j = p := by omega
            have hm4 : (s4.size : Int) % 4 = 0 := by omega
            have hfin := Lib.hid (show s4 = bstr (encT bs) by rw [hs4.out, hee, hjj])
            clear hsz hs4 hee hep hjj hj hjp
            go_wp2_with fail
            go_ret
            exact ⟨by rw [← hfin.out]; rfl, rfl⟩
end Go.Proofs.YtdnnjgjaffkdfaaDoor
namespace Go.Lin
open Go Go.Bul
theorem sigC_pcT (leaf : Int) (ch : Ch) (A : Option Addr) (n c j : Nat) (hj : j < 35) : (sigC leaf ch A n c).extract (1 + j * 16) (1 + j * 16 + 16) = ndC (chN ch j hj) := by
  have h1 := sigC_c leaf ch A n c
  have h2 : (chC ch).extract (j * 16) (j * 16 + 16) = ndC (chN ch j hj) := Hp.cells_piece .u8 ch.val j (j * 16) (by omega)
  rw [← h2, ← h1, Array.extract_extract, show min (1 + (j * 16 + 16)) (1 + 560) = 1 + j * 16 + 16 by omega]
end Go.Lin
namespace Go.Proofs.YtdnnjgjaffkdfaaDoor
open Go Go.RowKit Go.Bul Go.Thg Go.Lin
theorem reads_nd {w : World} {g o : Nat} {y : Nd} (hlt : g < w.heap.size) (h : ∀ (j : Nat) (u : Value), (ndC y)[j]? = some u → w.cell? ⟨g, o + j, none⟩ = some u) : Reads w 1 (some ⟨g, o, none⟩) 16 (vals .u8 y.val) :=
  ⟨by rw [vals_length, y.len], fun _ => ⟨g, o, rfl, hlt, fun j u hu => h j u (by simpa [cellsOf] using hu)⟩⟩
set_option maxRecDepth 20000 in
set_option maxHeartbeats 4000000 in
theorem rtext_any (k : Nat) (ch : Ch) (A : Option Addr) (n c : Nat) (path : List Nd) (w : World) (hr : NIn w A n path) (hc : sgE (k : Nat) n = 0) :
    Calls Tryd.prog 44 #[.agg (sigC (k : Nat) ch A n c)] w fun e w' => e = .returned (.string (bstr (encT (sigBs k n ch path)))) ∧ Below w.heap.size w w' := by
  have hM := Mem.start [] w
  have hl := hr.len
  obtain ⟨hn1, hn8, hk8⟩ : 1 ≤ n ∧ n ≤ 8 ∧ k < 256 := sgE_bounds hc
  have HS := Lib.hid (sigC_size (k : Nat) ch A n c)
  have H0 := Lib.hid (sigC_0 (k : Nat) ch A n c)
  have HPC := Lib.hid (fun (j : Nat) (hj : j < 35) => sigC_pcT (k : Nat) ch A n c j hj)
  have HP := Lib.hid (sigC_p (k : Nat) ch A n c)
  have HE := Lib.hid (fun B m c w' (hm : m = 563 + 16 * n) (hr : Reads w' 1 B m (vals .u8 (sigBs k n ch path))) => rencode_any B m c (sigBs k n ch path) w' hr (sigBs_bytes hk8 (by omega) ch path) (by omega) (by omega))
  have hbs : sigBs k n ch path = [0, k, n] ++ ch.val.take (16 * 35) ++ ndBs (path.take n) := by rw [List.take_of_length_le (by have := ch.len; omega), List.take_of_length_le (by omega)]; rfl
  have HBS := Lib.hid hbs
  generalize sigBs k n ch path = BS at HE HBS ⊢
  generalize encT BS = T at HE ⊢
  have HR := Lib.hid hr
  have HPL := Lib.hid hl
  have HCL := Lib.hid ch.len
  have k0 : (0 : Int) ≤ (k : Int) := Int.natCast_nonneg _
  have k1 : (k : Int) < 256 := by omega
  have n0 : (0 : Int) ≤ (n : Int) := Int.natCast_nonneg _
  have n1 : (n : Int) ≤ 8 := by omega
  have kd : (k : Int) / 256 = 0 := by omega
  have km : (k : Int) % 256 = (k : Int) := by omega
  generalize sigC (k : Nat) ch A n c = X at HS H0 HPC HP ⊢
  clear hr hc hbs hk8 hl
  go_enter Tryd.func44, Tryd.ntmps44
  go_wp2_with (first | ((with_reducible refine at_box ?_); refine slb hM ?_ (hty := row_rsg) (hn := HS.out); clear hM; intro g1 w1 hM) | ((with_reducible refine at_load ?_); first | refine slc hM ?_ (hv := H0.out) | refine slc hM ?_ (hv := HP.out)) | (refine lbb3 hM ?_; clear hM; intro g2 w5 hM))
  replace hM := mem_bytes (xs := [0, k, n]) hM rfl rfl (by decide) (by decide)
  obtain ⟨g1, hg1⟩ := hM.name1
  subst hg1
  have M0 := Lib.hid hM
  clear hM
  go_loopw [3, 4] (fun b i wr => ∃ (j : Nat) (E : Option Addr) (m e2 : Nat), j ≤ 35 ∧ i = .int .i64 (j : Nat) ∧ b = .slice E m e2 ∧ Mem [] w [⟨g1, 26, 562, X⟩] [bT (.slice E m e2) ([0, k, n] ++ ch.val.take (16 * j))] wr) (fun _ i _ => 35 - (intOf i).toNat)
  case atStart => exact ⟨0, some ⟨g2, 0, none⟩, 3, 3, by omega, rfl, rfl, by rw [Nat.mul_zero, List.take_zero, List.append_nil]; exact M0.out⟩
  case round =>
    clear M0
    obtain ⟨j, E, m, e2, hj, rfl, rfl, hM⟩ := hrel
    have q0 : (0 : Int) ≤ (j : Int) := Int.natCast_nonneg _
    by_cases hlt : j < 35
    · have hpc := HPC.out j hlt
      have htk := chN_take ch j hlt
      have hle : ([0, k, n] ++ ch.val.take (16 * j)).length ≤ 1000 := by rw [List.length_append, List.length_take, HCL.out, List.length_cons, List.length_cons, List.length_cons, List.length_nil]; omega
      generalize chN ch j hlt = y at hpc htk
      have hrr := Lib.hid (show ([0, k, n] ++ ch.val.take (16 * j)) ++ y.val = [0, k, n] ++ ch.val.take (16 * (j + 1)) by rw [htk, List.append_assoc])
      have h63 : ([0, k, n] ++ ch.val.take (16 * j)).length + y.val.length ≤ 1000000000 := by rw [y.len]; omega
      generalize [0, k, n] ++ ch.val.take (16 * j) = cur at hM hrr h63
      have q1 : (j : Int) < 35 := by omega
      have HRD := Lib.hid (fun (R : List Thing) (w' : World) (hM' : Mem [] w [⟨g1, 26, 562, X⟩] R w') => reads_part (xs := y.val) hM' (List.Mem.head _) hpc y.len)
      replace h63 := Lib.hid h63
      clear htk hle hpc
      go_wp2_with (first | ((with_reducible refine at_append ?_); refine la ((HRD.out _ _ hM).src (c := 16) Tryd.underlying78 (vals_one _ _)) hM h63.out ?_; clear hM; intro A3 N3 c3 wx hN3 hM))
      exact ⟨⟨j + 1, A3, N3, c3, by omega, by go_num, rfl, by rw [← hrr.out]; exact hM⟩, by simp [intOf]; omega⟩
    · have hj35 : j = 35 := by omega
      rw [hj35] at hM
      obtain ⟨zz, hzz⟩ : ∃ zz : Int, zz = (j : Int) := ⟨_, rfl⟩
      rw [← hzz]
      have z9 : ¬ (zz < 35) := by omega
      clear hzz hlt hj hj35 q0
      have hle : ([0, k, n] ++ ch.val.take (16 * 35)).length = 563 := by rw [List.length_append, List.length_take, HCL.out, List.length_cons, List.length_cons, List.length_cons, List.length_nil]; omega
      generalize [0, k, n] ++ ch.val.take (16 * 35) = base at hM HBS hle
      replace hle := Lib.hid hle
      have M0 := Lib.hid hM
      clear hM HPC
      go_wp2_with fail
      go_loopw [3, 5] (fun b i wr => ∃ (j : Nat) (E : Option Addr) (m e2 : Nat), j ≤ n ∧ i = .int .i64 (j : Nat) ∧ b = .slice E m e2 ∧ Mem [] w [⟨g1, 26, 562, X⟩] [bT (.slice E m e2) (base ++ ndBs (path.take j))] wr) (fun _ i _ => n - (intOf i).toNat)
      case atStart => exact ⟨0, E, m, e2, by omega, rfl, rfl, by rw [List.take_zero, show ndBs [] = [] from rfl, List.append_nil]; exact M0.out⟩
      case round =>
        clear M0
        obtain ⟨j, E, m, e2, hj, rfl, rfl, hM⟩ := hrel
        have q0 : (0 : Int) ≤ (j : Int) := Int.natCast_nonneg _
        by_cases hlt : j < n
        · have hjl : j < path.length := by have := HPL.out; omega
          obtain ⟨go, oo, rfl, hgo, hq5⟩ := NIn.row HR.out j hjl
          have h5 := Lib.hid (fun w' (hb : Below w.heap.size w w') => NIn.cell (HR.out.keep hb) j hjl)
          have htk : path.take (j + 1) = path.take j ++ [path[j]] := List.take_succ_eq_append_getElem hjl
          have hle2 : (base ++ ndBs (path.take j)).length ≤ 1000 := by rw [List.length_append, hle.out, ndBs_length, List.length_take]; omega
          generalize path[j] = y at h5 htk
          have hrr := Lib.hid (show (base ++ ndBs (path.take j)) ++ y.val = base ++ ndBs (path.take (j + 1)) by rw [htk, ndBs_append, ndBs_one, List.append_assoc])
          have h63 := Lib.hid (show (base ++ ndBs (path.take j)).length + y.val.length ≤ 1000000000 by rw [y.len]; omega)
          generalize base ++ ndBs (path.take j) = cur at hM hrr h63
          have HRD := Lib.hid (fun (w' : World) (hb : Below w.heap.size w w') => reads_nd (Nat.lt_of_lt_of_le hgo hb.size) (h5.out w' hb))
          have q1 : (j : Int) < (n : Int) := by omega
          clear hq5 htk hjl hle2
          go_wp2_with (first | ((with_reducible refine at_load ?_); refine slc hM ?_ (hv := HP.out)) | ((with_reducible refine at_append ?_); refine la ((HRD.out _ hM.below).src (c := 16) Tryd.underlying78 (vals_one _ _)) hM h63.out ?_; clear hM; intro A3 N3 c3 wx hN3 hM))
          exact ⟨⟨j + 1, A3, N3, c3, by omega, by go_num, rfl, by rw [← hrr.out]; exact hM⟩, by simp [intOf]; omega⟩
        · obtain rfl : n = j := by omega
          clear hlt hj
          obtain ⟨hrd, hm, _⟩ := bT_reads (hM.thing _ (List.Mem.head _))
          rw [List.length_append, hle.out, ndBs_length, List.length_take, Nat.min_eq_left (by have := HPL.out; omega)] at hm
          rw [← HBS.out] at hrd
          have HEE := Lib.hid (HE.out _ _ e2 _ hm hrd)
          clear hm hrd
          go_wp2_with (first | ((with_reducible refine at_load ?_); refine slc hM ?_ (hv := HP.out)) | ((with_reducible refine HEE.out.mono ?_); rintro e w1 ⟨rfl, rfl⟩))
          go_ret
          exact ⟨rfl, hM.below⟩
end Go.Proofs.YtdnnjgjaffkdfaaDoor
