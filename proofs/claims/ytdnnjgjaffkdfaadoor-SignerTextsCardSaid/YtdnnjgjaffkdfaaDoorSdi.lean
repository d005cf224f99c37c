/- ParseSignature. -/
import Derived.Test.YtdnnjgjaffkdfaaDoorXg
namespace Go.Lin
open Go Go.Bul
/-- Behind K bytes: what is left, and the error. -/
def TInv (ys : List Nat) (e0 K : Nat) (zs : List Nat) (e : Nat) : Prop := (e0 ≠ 0 → e = e0) ∧ (e0 = 0 → (K ≤ ys.length → e = 0 ∧ zs = ys.drop K) ∧ (ys.length < K → e = 4))
theorem TInv.start (ys : List Nat) (e0 : Nat) : TInv ys e0 0 ys e0 := ⟨fun _ => rfl, fun h => ⟨fun _ => ⟨h, rfl⟩, fun h => by omega⟩⟩
theorem TInv.step {ys zs : List Nat} {e0 K e : Nat} (h : TInv ys e0 K zs e) (n : Nat) : TInv ys e0 (K + n) (tkR zs e n) (tkE zs e n) := by
  obtain ⟨h1, h2⟩ := h
  refine ⟨fun h0 => ?_, fun h0 => ?_⟩
  · rw [h1 h0]
    unfold tkE
    rw [if_neg h0]
  · obtain ⟨h3, h4⟩ := h2 h0
    by_cases hK : K ≤ ys.length
    · obtain ⟨rfl, rfl⟩ := h3 hK
      refine ⟨fun hn => ?_, fun hn => ?_⟩
      · have hl : n ≤ (ys.drop K).length := by rw [List.length_drop]; omega
        unfold tkE tkR
        rw [if_pos rfl, if_pos hl, if_pos ⟨rfl, hl⟩, List.drop_drop]
        exact ⟨rfl, rfl⟩
      · have hl : ¬ n ≤ (ys.drop K).length := by rw [List.length_drop]; omega
        unfold tkE
        rw [if_pos rfl, if_neg hl]
    · have e4 := h4 (by omega)
      refine ⟨fun hn => by omega, fun _ => ?_⟩
      rw [e4]
      unfold tkE
      rw [if_neg (by decide)]
theorem TInv.val {ys zs : List Nat} {e0 K e : Nat} (h : TInv ys e0 K zs e) (n : Nat) (h0 : e0 = 0) (hK : K + n ≤ ys.length) : tkB zs e n = (ys.drop K).take n := by
  obtain ⟨rfl, rfl⟩ := (h.2 h0).1 (by omega)
  unfold tkB
  rw [if_pos ⟨rfl, by rw [List.length_drop]; omega⟩]
theorem TInv.done {ys zs : List Nat} {e0 K e : Nat} (h : TInv ys e0 K zs e) : endE zs e = if e0 ≠ 0 then e0 else if ys.length < K then 4 else if K < ys.length then 5 else 0 := by
  by_cases h0 : e0 = 0
  · rw [if_neg (by omega)]
    by_cases hK : K ≤ ys.length
    · obtain ⟨rfl, rfl⟩ := (h.2 h0).1 hK
      rw [if_neg (by omega)]
      unfold endE
      rw [List.length_drop]
      by_cases h5 : K < ys.length
      · rw [if_pos h5, if_pos ⟨rfl, by omega⟩]
      · rw [if_neg h5, if_neg (fun h => by omega)]
    · rw [(h.2 h0).2 (by omega), if_pos (by omega)]
      unfold endE
      rw [if_neg (fun h => by omega)]
  · rw [if_pos h0, h.1 h0]
    unfold endE
    rw [if_neg (fun h => h0 h.1)]
/-- The error of a text of a signature, and what the text denotes. -/
def psE (ys : List Nat) (e0 : Nat) : Nat := if e0 ≠ 0 then e0 else if ys.length < 3 then 4 else if ys.length < 563 + 16 * ys.getD 2 0 then 4 else if 563 + 16 * ys.getD 2 0 < ys.length then 5 else if sgE (numV (ys.take 2) : Nat) (ys.getD 2 0) = 0 then 0 else 2
def PSig (ys : List Nat) (e0 : Nat) (leaf : Int) (ch : Ch) (P : List Nd) (er : Nat) : Prop := er = psE ys e0 ∧ (er ≠ 0 → leaf = 0 ∧ ch = ch0 ∧ P = []) ∧ (er = 0 → leaf = (numV (ys.take 2) : Nat) ∧ ch.val = (ys.drop 3).take 560 ∧ ndBs P = ys.drop 563)
theorem ndBs_inj : ∀ {P Q : List Nd}, ndBs P = ndBs Q → P = Q
  | [], [], _ => rfl
  | [], q :: Q, h => by
    have := congrArg List.length h
    rw [ndBs_length, ndBs_length, List.length_cons, List.length_nil] at this
    omega
  | p :: P, [], h => by
    have := congrArg List.length h
    rw [ndBs_length, ndBs_length, List.length_cons, List.length_nil] at this
    omega
  | p :: P, q :: Q, h => by
    have h1 : p.val ++ ndBs P = q.val ++ ndBs Q := h
    obtain ⟨h2, h3⟩ := List.append_inj h1 (by rw [p.len, q.len])
    rw [Nd.ext' h2, ndBs_inj h3]
theorem PSig.one {ys : List Nat} {e0 er er' : Nat} {l l' : Int} {c c' : Ch} {P P' : List Nd} (a : PSig ys e0 l c P er) (b : PSig ys e0 l' c' P' er') : l = l' ∧ c = c' ∧ P = P' ∧ er = er' := by
  obtain ⟨a1, a2, a3⟩ := a
  obtain ⟨b1, b2, b3⟩ := b
  have e : er = er' := a1.trans b1.symm
  by_cases h0 : er = 0
  · obtain ⟨c1, c2, c3⟩ := a3 h0
    obtain ⟨d1, d2, d3⟩ := b3 (by omega)
    exact ⟨c1.trans d1.symm, Ch.ext' (c2.trans d2.symm), ndBs_inj (c3.trans d3.symm), e⟩
  · obtain ⟨c1, c2, c3⟩ := a2 h0
    obtain ⟨d1, d2, d3⟩ := b2 (by omega)
    exact ⟨c1.trans d1.symm, c2.trans d2.symm, c3.trans d3.symm, e⟩
/-- A signature with one value set. -/
def chPut (ch : Ch) (j : Nat) (hj : j < 35) (y : Nd) : Ch := ⟨ch.val.take (16 * j) ++ y.val ++ ch.val.drop (16 * j + 16), by simp [ch.len, y.len]; omega, by
  intro x hx
  rcases List.mem_append.1 hx with hx | hx
  · rcases List.mem_append.1 hx with hx | hx
    · exact ch.byt x (List.take_subset _ _ hx)
    · exact y.byt x hx
  · exact ch.byt x (List.drop_subset _ _ hx)⟩
theorem chPut_take (ch : Ch) (j : Nat) (hj : j < 35) (y : Nd) : (chPut ch j hj y).val.take (16 * (j + 1)) = ch.val.take (16 * j) ++ y.val := by
  have h1 : (ch.val.take (16 * j) ++ y.val).length = 16 * (j + 1) := by rw [List.length_append, List.length_take, ch.len, y.len]; omega
  show (ch.val.take (16 * j) ++ y.val ++ ch.val.drop (16 * j + 16)).take (16 * (j + 1)) = _
  rw [List.take_append_of_le_length (by omega), List.take_of_length_le (by omega)]
theorem sigC_chput (leaf : Int) (ch : Ch) (A : Option Addr) (n c j : Nat) (hj : j < 35) (y : Nd) : (splice (sigC leaf ch A n c).toList (1 + j * 16) (ndC y).toList).toArray = sigC leaf (chPut ch j hj y) A n c := by
  have hl := ch_len ch
  have hX : (ndC y).toList.length = 16 := by rw [Array.length_toList, ndC_size]
  have e1 : (ndC y).toList = vals .u8 y.val := by simp [cellsOf]
  refine congrArg List.toArray ?_
  show splice (.int .i64 leaf :: (vals .u8 ch.val ++ [.slice A n c])) (1 + j * 16) _ = .int .i64 leaf :: (vals .u8 (chPut ch j hj y).val ++ [.slice A n c])
  unfold splice
  rw [Nat.add_comm 1 (j * 16), List.take_succ_cons, List.take_append_of_le_length (by omega), hX, show j * 16 + 1 + 16 = (j * 16 + 16) + 1 by omega, List.drop_succ_cons, List.drop_append_of_le_length (by omega), e1]
  simp [chPut, vals, List.map_take, List.map_drop, Nat.mul_comm]
theorem numV_one (a : Nat) : numV [a] = a := by simp [numV]
theorem sgE_or (leaf : Int) (n : Nat) : sgE leaf n = 0 ∨ sgE leaf n = 2 := by
  unfold sgE
  split
  · exact .inl rfl
  · exact .inr rfl
theorem psig_case {ys zs : List Nat} {e0 e leaf cnt : Nat} {ch : Ch} {P : List Nd} (hleaf : leaf = numV (tkB ys e0 2)) (hcnt : cnt = numV (tkB (tkR ys e0 2) (tkE ys e0 2) 1)) (hT : TInv ys e0 (563 + 16 * cnt) zs e)
    (hch : e0 = 0 → 563 ≤ ys.length → ch.val = (ys.drop 3).take 560) (hP : e0 = 0 → 563 + 16 * cnt ≤ ys.length → ndBs P = (ys.drop 563).take (16 * cnt)) :
    ∃ (lf : Int) (chf : Ch) (Pf : List Nd) (er : Nat), PSig ys e0 lf chf Pf er ∧ ((endE zs e ≠ 0 ∧ lf = 0 ∧ chf = ch0 ∧ Pf = [] ∧ er = endE zs e) ∨ (endE zs e = 0 ∧ sgE (leaf : Nat) cnt = 2 ∧ lf = 0 ∧ chf = ch0 ∧ Pf = [] ∧ er = 2) ∨ (endE zs e = 0 ∧ sgE (leaf : Nat) cnt = 0 ∧ lf = (leaf : Nat) ∧ chf = ch ∧ Pf = P ∧ er = 0)) := by
  have hd := hT.done
  generalize endE zs e = e3 at hd ⊢
  have bad : e3 ≠ 0 → e3 = psE ys e0 → ∃ (lf : Int) (chf : Ch) (Pf : List Nd) (er : Nat), PSig ys e0 lf chf Pf er ∧ ((e3 ≠ 0 ∧ lf = 0 ∧ chf = ch0 ∧ Pf = [] ∧ er = e3) ∨ (e3 = 0 ∧ sgE (leaf : Nat) cnt = 2 ∧ lf = 0 ∧ chf = ch0 ∧ Pf = [] ∧ er = 2) ∨ (e3 = 0 ∧ sgE (leaf : Nat) cnt = 0 ∧ lf = (leaf : Nat) ∧ chf = ch ∧ Pf = P ∧ er = 0)) := fun h1 h2 =>
    ⟨0, ch0, [], e3, ⟨h2, fun _ => ⟨rfl, rfl, rfl⟩, fun h => absurd h h1⟩, .inl ⟨h1, rfl, rfl, rfl, rfl⟩⟩
  by_cases h0 : e0 = 0
  · subst h0
    rw [if_neg (by simp)] at hd
    by_cases h3 : ys.length < 3
    · rw [if_pos (by omega)] at hd
      refine bad (by omega) ?_
      unfold psE
      rw [if_neg (by simp), if_pos h3]
      exact hd
    · have hc : cnt = ys.getD 2 0 := by
        rw [hcnt, ((TInv.start ys 0).step 2).val 1 rfl (by omega), List.take_one, List.head?_drop, List.getD_eq_getElem?_getD]
        have : 2 < ys.length := by omega
        simp only [List.getElem?_eq_getElem this, Nat.zero_add, Option.toList_some, Option.getD_some, numV_one]
      have hlf : leaf = numV (ys.take 2) := by
        rw [hleaf, (TInv.start ys 0).val 2 rfl (by omega), List.drop_zero]
      by_cases h5 : ys.length < 563 + 16 * cnt
      · rw [if_pos h5] at hd
        refine bad (by omega) ?_
        unfold psE
        rw [if_neg (by simp), if_neg h3, ← hc, if_pos h5]
        exact hd
      · rw [if_neg h5] at hd
        by_cases h6 : 563 + 16 * cnt < ys.length
        · rw [if_pos h6] at hd
          refine bad (by omega) ?_
          unfold psE
          rw [if_neg (by simp), if_neg h3, ← hc, if_neg h5, if_pos h6]
          exact hd
        · rw [if_neg h6] at hd
          rcases sgE_or (leaf : Nat) cnt with h7 | h7
          · refine ⟨(leaf : Nat), ch, P, 0, ⟨?_, fun h => absurd rfl h, fun _ => ⟨by rw [hlf], hch rfl (by omega), ?_⟩⟩, .inr (.inr ⟨hd, h7, rfl, rfl, rfl, rfl⟩)⟩
            · unfold psE
              rw [if_neg (by simp), if_neg h3, ← hc, if_neg h5, if_neg h6, ← hlf, if_pos h7]
            · rw [hP rfl (by omega), List.take_of_length_le (by rw [List.length_drop]; omega)]
          · refine ⟨0, ch0, [], 2, ⟨?_, fun _ => ⟨rfl, rfl, rfl⟩, fun h => absurd h (by decide)⟩, .inr (.inl ⟨hd, h7, rfl, rfl, rfl, rfl⟩)⟩
            unfold psE
            rw [if_neg (by simp), if_neg h3, ← hc, if_neg h5, if_neg h6, ← hlf, if_neg (by rw [h7]; decide)]
  · rw [if_pos h0] at hd
    refine bad (by omega) ?_
    unfold psE
    rw [if_pos h0]
    exact hd
end Go.Lin
namespace Go.Proofs.YtdnnjgjaffkdfaaDoor
open Go Go.RowKit Go.Bul Go.Thg Go.Lin
theorem run_sgnh (h : Int) (w : World) : (Instr.build 31 #[(0, .int .i64 h)]).run Tryd.prog w = .ok (.agg (sigC h ch0 none 0 0)) w := by
  refine run_build_struct sgn_struct sgn_zero sgn_places ?_ w
  show Instr.fill _ (sigC 0 ch0 none 0 0) [(0, .int .i64 h)] = _
  rw [fill_cons (size := 1) rfl rfl (by rw [sigC_size]; omega)]
  rfl
section
variable {w : World} {ops : Array Oper} {rest : List Oper} {o : Oper} {a : Act} {Q : Exit → Act → World → Prop} {x0 : Operand} {h : Int}
theorem lbsgnh (hk : wpList Tryd.prog ops Q rest (a.put o.dst (.agg (sigC h ch0 none 0 0))) w) (hgd : o.guard = none := by rfl) (ho : o.op = .build 31 #[(0, x0)] := by rfl) (h0 : a.eval x0 = .int .i64 h := by rfl) : wpList Tryd.prog ops Q (o :: rest) a w :=
  wpList_build_run hgd _ _ ho _ (by simp only [List.map_toArray, List.map_cons, List.map_nil, h0]) _ (run_sgnh h w) hk
end
set_option maxRecDepth 20000 in
set_option maxHeartbeats 8000000 in
theorem psig_any (s : ByteArray) (w : World) (hs : s.size ≤ 90000) (hA : Alp w) :
    Calls Tryd.prog 43 #[.string s] w fun ex w' => ∃ leaf ch E n c P er, ex = .returned (.tuple #[.agg (sigC leaf ch E n c), .int .i64 (er : Nat)]) ∧ PSig (decB (nums s)) (decE (nums s)) leaf ch P er ∧ Becomes [] w (p16T (.slice E n c) P) w' := by
  have hM := Mem.start [] w
  have HR := Lib.hid (fun w' (hb : Below w.heap.size w w') => read_any s w' hs (hA.keep hb))
  have hBy := decB_bytes (bytes_of_nums s)
  generalize decB (nums s) = ys at HR hBy ⊢
  generalize decE (nums s) = e0 at HR ⊢
  have hB2 := tkR_bytes hBy e0 2
  obtain ⟨lf0, hlf0⟩ : ∃ z, z = numV (tkB ys e0 2) := ⟨_, rfl⟩
  obtain ⟨cnt, hcnt⟩ : ∃ z, z = numV (tkB (tkR ys e0 2) (tkE ys e0 2) 1) := ⟨_, rfl⟩
  have hc9 : cnt < 256 := by rw [hcnt]; exact numV_lt (tkB_bytes hB2 _ _) (by rw [tkB_length]; omega)
  have HN1 := Lib.hid (fun (L : List Ent) (R : List Thing) (g : Nat) (A : Option Addr) (N C : Nat) (w1 : World) (hM : Mem [] w (⟨g, 158, 2, rdC (.slice A N C) e0⟩ :: L) (bT (.slice A N C) ys :: R) w1) => number_any A N C ys e0 2 hM hBy (by decide) (by decide))
  have HN2 := Lib.hid (fun (L : List Ent) (R : List Thing) (g : Nat) (A : Option Addr) (N C : Nat) (w1 : World) (hM : Mem [] w (⟨g, 158, 2, rdC (.slice A N C) (tkE ys e0 2)⟩ :: L) (bT (.slice A N C) (tkR ys e0 2) :: R) w1) => number_any A N C (tkR ys e0 2) (tkE ys e0 2) 1 hM hB2 (by decide) (by decide))
  rw [← hlf0] at HN1
  rw [← hcnt] at HN2
  have hT3 := ((TInv.start ys e0).step 2).step 1
  have HCASE := Lib.hid (fun (zs : List Nat) (e : Nat) (ch : Ch) (P : List Nd) (hT : TInv ys e0 (563 + 16 * cnt) zs e) hch hP => psig_case (ch := ch) (P := P) hlf0 hcnt hT hch hP)
  clear hlf0 hcnt
  have hB3 := Lib.hid (tkR_bytes hB2 (tkE ys e0 2) 1)
  generalize tkR (tkR ys e0 2) (tkE ys e0 2) 1 = y3 at HN2 hT3 hB3
  generalize tkE (tkR ys e0 2) (tkE ys e0 2) 1 = e3 at HN2 hT3
  generalize tkR ys e0 2 = y2 at HN1 HN2
  generalize tkE ys e0 2 = e2 at HN1 HN2
  have q0 : (0 : Int) ≤ (cnt : Int) := Int.natCast_nonneg _
  have q1 : (cnt : Int) < 256 := by omega
  replace hT3 := Lib.hid hT3
  clear hBy hB2 hs hA
  go_enter Tryd.func43, Tryd.ntmps43
  go_wp2_with (first | ((with_reducible refine at_alloc ?_); refine slz hM ?_ (hz := zero_sgn); clear hM; intro g2 w1 hM))
  refine (HR.out _ hM.below).mono ?_
  rintro ex w2 ⟨gr, A, N, C, rfl, hF⟩
  replace hM := hM.frame hF
  simp only [List.cons_append, List.nil_append] at hM
  clear hF HR
  go_wp2_with fail
  refine (HN1.out _ _ _ _ _ _ _ hM).mono ?_
  clear hM HN1
  rintro ex w3 ⟨A1, N1, C1, rfl, hM⟩
  go_wp2_with (first | ((with_reducible refine at_build ?_); refine lbsgnh ?_) | ((with_reducible refine at_alloc ?_); refine slz hM ?_ (hz := zero_sgn); clear hM; intro g5 w5 hM) | ((with_reducible refine at_store ?_); refine slw hM ?_ (hs := sigC_size _ _ _ _ _) (h1 := sigC_one _ _ _ _ _) (hty := row_sgn); clear hM; intro wx hM))
  replace hM := hM.permL (List.Perm.swap _ _ _)
  refine (HN2.out _ _ _ _ _ _ _ hM).mono ?_
  clear hM HN2
  rintro ex w4 ⟨A2, N2, C2, rfl, hM⟩
  go_wp2_with fail
  have M0 := Lib.hid hM
  clear hM
  go_loopw [17] (fun i wr => ∃ (j : Nat) (ch : Ch) (zs : List Nat) (e : Nat) (A : Option Addr) (N C : Nat), j ≤ 35 ∧ i = .int .i64 (j : Nat) ∧ Bytes zs ∧ TInv ys e0 (3 + 16 * j) zs e ∧ (e0 = 0 → 3 + 16 * j ≤ ys.length → ch.val.take (16 * j) = (ys.drop 3).take (16 * j)) ∧ Mem [] w [⟨gr, 158, 2, rdC (.slice A N C) e⟩, ⟨g5, 31, 562, sigC (lf0 : Nat) ch none 0 0⟩, ⟨g2, 31, 562, sigC 0 ch0 none 0 0⟩] [bT (.slice A N C) zs] wr) (fun i _ => 35 - (intOf i).toNat)
  case atStart => exact ⟨0, ch0, y3, e3, A2, N2, C2, by omega, rfl, hB3.out, hT3.out, fun _ _ => by simp, M0.out⟩
  case round =>
    clear M0 hT3
    obtain ⟨j, ch, zs, e, A3, N3, C3, hj, rfl, hbz, hT, hch, hM⟩ := hrel
    by_cases hlt : j < 35
    · have hl16 := tkB_length zs e 16
      obtain ⟨y, hy⟩ : ∃ z : Nd, z.val = tkB zs e 16 := ⟨⟨_, hl16, tkB_bytes hbz e 16⟩, rfl⟩
      have hbz2 := Lib.hid (tkR_bytes hbz e 16)
      have HTK := Lib.hid (take_any A3 N3 C3 zs e 16 hM (by decide) (by decide))
      have hT4 := Lib.hid (show TInv ys e0 (3 + 16 * (j + 1)) (tkR zs e 16) (tkE zs e 16) from (by have := hT.step 16; rwa [show 3 + 16 * j + 16 = 3 + 16 * (j + 1) by omega] at this))
      have hch2 := Lib.hid (show e0 = 0 → 3 + 16 * (j + 1) ≤ ys.length → (chPut ch j hlt y).val.take (16 * (j + 1)) = (ys.drop 3).take (16 * (j + 1)) from fun h0 hK => by
        rw [chPut_take, hch h0 (by omega), hy, hT.val 16 h0 (by omega), Nat.mul_add, List.take_add, List.drop_drop])
      have HPUT := Lib.hid (sigC_chput (lf0 : Nat) ch none 0 0 j hlt y)
      rw [← hy] at HTK
      generalize chPut ch j hlt y = ch2 at hch2 HPUT
      generalize tkR zs e 16 = zs2 at HTK hT4 hbz2
      generalize tkE zs e 16 = e4 at HTK hT4
      have k0 : (0 : Int) ≤ (j : Int) := Int.natCast_nonneg _
      have k1 : (j : Int) < 35 := by omega
      clear hl16 hbz hy hT hch hM HCASE
      go_wp2_with fail
      refine HTK.out.mono ?_
      clear HTK
      rintro ex w5 ⟨B, c', A4, N4, C4, rfl, hr, hM⟩
      obtain ⟨sg, so, rfl, hX⟩ := nd_rd hr rfl
      replace hX := Lib.hid hX
      clear hr
      generalize hY2 : sigC (lf0 : Nat) ch2 none 0 0 = Y2 at HPUT
      replace hY2 := Lib.hid hY2
      generalize sigC (lf0 : Nat) ch none 0 0 = Y1 at HPUT hM
      go_wp2_with (first | ((with_reducible refine at_s2a ?_); refine ls2 ?_) | ((with_reducible refine at_load ?_); refine lr hX.out ?_ (hty := row_a16)) | ((with_reducible refine at_store ?_); refine slt hM ?_ (hs := ndC_size _) (hty := row_a16) (hX := HPUT.out); clear hM; intro wx hM))
      exact ⟨⟨j + 1, ch2, zs2, e4, A4, N4, C4, by omega, by go_num, hbz2.out, hT4.out, hch2.out, by rw [hY2.out]; exact hM⟩, by simp [intOf]; omega⟩
    · have hj35 : j = 35 := by omega
      rw [hj35] at hT hch
      obtain ⟨j35, hjj⟩ : ∃ j35 : Int, j35 = (j : Int) := ⟨_, rfl⟩
      rw [← hjj]
      have k9 : ¬ (j35 < 35) := by omega
      replace hjj := Lib.hid hjj
      have hch2 := Lib.hid (show e0 = 0 → 563 ≤ ys.length → ch.val = (ys.drop 3).take 560 from fun h0 hK => by
        have := hch h0 hK
        rwa [List.take_of_length_le (by rw [ch.len]; decide)] at this)
      replace hbz := Lib.hid hbz
      replace hT := Lib.hid hT
      have M0 := Lib.hid ((hM.newThing (hbecomes_zero none (KeptBut.refl _ _))).perm (List.Perm.swap _ _ _))
      clear hch hM hlt hj hj35 hjj
      go_wp2_with fail
      go_loopw [29] (fun i wr => ∃ (j : Nat) (P : List Nd) (E : Option Addr) (c2 : Nat) (zs : List Nat) (e : Nat) (A : Option Addr) (N C : Nat), j ≤ cnt ∧ i = .int .i64 (j : Nat) ∧ Hid (P.length = j) ∧ Bytes zs ∧ TInv ys e0 (563 + 16 * j) zs e ∧ (e0 = 0 → 563 + 16 * j ≤ ys.length → ndBs P = (ys.drop 563).take (16 * j)) ∧ Mem [] w [⟨gr, 158, 2, rdC (.slice A N C) e⟩, ⟨g5, 31, 562, sigC (lf0 : Nat) ch E j c2⟩, ⟨g2, 31, 562, sigC 0 ch0 none 0 0⟩] [bT (.slice A N C) zs, p16T (.slice E j c2) P] wr) (fun i _ => cnt - (intOf i).toNat)
      case atStart => exact ⟨0, [], none, 0, zs, e, A3, N3, C3, by omega, rfl, Lib.hid rfl, hbz.out, hT.out, fun _ _ => by simp [ndBs], M0.out⟩
      case round =>
        clear M0 hT hbz
        clear zs e A3 N3 C3
        obtain ⟨j, P, E, e2', zs, e, A3, N3, C3, hj, rfl, hPl, hbz, hT, hP, hM⟩ := hrel
        by_cases hlt : j < cnt
        · have hl16 := tkB_length zs e 16
          obtain ⟨y, hy⟩ : ∃ z : Nd, z.val = tkB zs e 16 := ⟨⟨_, hl16, tkB_bytes hbz e 16⟩, rfl⟩
          have hbz2 := Lib.hid (tkR_bytes hbz e 16)
          have HTK := Lib.hid (fun (L : List Ent) (R : List Thing) (w1 : World) (hM : Mem [] w (⟨gr, 158, 2, rdC (.slice A3 N3 C3) e⟩ :: L) (bT (.slice A3 N3 C3) zs :: R) w1) => take_any A3 N3 C3 zs e 16 hM (by decide) (by decide))
          have hT4 := Lib.hid (show TInv ys e0 (563 + 16 * (j + 1)) (tkR zs e 16) (tkE zs e 16) from (by have := hT.step 16; rwa [show 563 + 16 * j + 16 = 563 + 16 * (j + 1) by omega] at this))
          have hP2 := Lib.hid (show e0 = 0 → 563 + 16 * (j + 1) ≤ ys.length → ndBs (P ++ [y]) = (ys.drop 563).take (16 * (j + 1)) from fun h0 hK => by
            rw [ndBs_append, ndBs_one, hP h0 (by omega), hy, hT.val 16 h0 (by omega), Nat.mul_add, List.take_add, List.drop_drop])
          have HCP := Lib.hid (sigC_p (lf0 : Nat) ch E j e2')
          have HSE := Lib.hid (fun B m d => sigC_setp (lf0 : Nat) ch E B j e2' m d)
          have h63 : P.length + [y].length ≤ 1000000000 := by have := hPl.out; simp; omega
          rw [← hy] at HTK
          generalize tkR zs e 16 = zs2 at HTK hT4 hbz2
          generalize tkE zs e 16 = e4 at HTK hT4
          generalize sigC (lf0 : Nat) ch E j e2' = Y at hM HCP HSE
          have k0 : (0 : Int) ≤ (j : Int) := Int.natCast_nonneg _
          have k1 : (j : Int) < (cnt : Int) := by omega
          clear hl16 hy hT hP HCASE hbz hch2
          go_upto_region 11 with fail
          refine wp_region_allTM hM 9 (fun w' => HeldM [⟨g5, 31, 562, Y⟩] w') (by kernel_rfl) ?_
          clear hM
          intro wd hM
          have hS := HeldM.of (hM.subL (L' := [⟨g5, 31, 562, Y⟩]) (List.Sublist.cons _ (List.Sublist.cons_cons _ (List.nil_sublist _))))
          refine wpAllT_takes [0, 2, 1] (by kernel_rfl) (fun _ _ _ _ _ h => h) hS (by kernel_rfl) ?_
          simp only [pickOps, List.filterMap_cons, List.filterMap_nil, List.getElem?_cons_zero, List.getElem?_cons_succ]
          repeat ((with_reducible apply wpHeld_step); (· rfl); (· (intro wq hSw; first | (go_simp; rfl) | ((obtain ⟨_, _, _, hM'⟩ := hSw; exact yields_load (C := fun _ => True) (sqc hM' (hv := HCP.out)) rfl)))); intro K hK; go_simp; (with_reducible refine hK _ ?_); clear hK K)
          refine wpHeld_nil ?_
          refine wpAllT_one 3 rfl (by kernel_rfl) ?_
          go_wp2_with fail
          refine (HTK.out _ _ _ hM).mono ?_
          clear hM hS HTK
          rintro ex w1 ⟨B, c', A4, N4, C4, rfl, hr, hM⟩
          obtain ⟨sg, so, rfl, hX⟩ := nd_rd hr rfl
          replace hX := Lib.hid hX
          clear hr
          have hS := HeldM.of (hM.subL (L' := [⟨g5, 31, 562, Y⟩]) (List.Sublist.cons _ (List.Sublist.cons_cons _ (List.nil_sublist _))))
          go_wp2_with fail
          refine then_normal ⟨.inr hS, ?_⟩
          refine wpAllT_one 4 rfl (by kernel_rfl) ?_
          refine ls2 ?_
          refine wpList_then ⟨.inr hS, ?_⟩
          go_simp
          refine wpAllT_one 5 rfl (by kernel_rfl) ?_
          refine lr hX.out ?_ (hty := row_a16)
          refine wpList_then ⟨.inr hS, ?_⟩
          go_simp
          refine wpAllT_one 6 rfl (by kernel_rfl) ?_
          refine lb16 hM ?_
          clear hM hS
          intro g1 w5 hM
          have hS := HeldM.of (hM.subL (L' := [⟨g5, 31, 562, Y⟩]) (List.Sublist.cons _ (List.Sublist.cons _ (List.Sublist.cons_cons _ (List.nil_sublist _)))))
          refine wpList_then ⟨.inr hS, ?_⟩
          go_simp
          refine wpAllT_one 7 rfl (by kernel_rfl) ?_
          refine la16 (src_16 hM (List.Mem.head _)) hM h63 ?_
          clear hM hS
          intro A5 N5 c5 wx hN5 hM
          have hS := HeldM.of (hM.subL (L' := [⟨g5, 31, 562, Y⟩]) (List.Sublist.cons _ (List.Sublist.cons _ (List.Sublist.cons_cons _ (List.nil_sublist _)))))
          refine wpList_then ⟨.inr hS, ?_⟩
          go_simp
          refine wpAllT_takes [8] (by kernel_rfl) (fun _ _ _ _ _ h => h) hS (by kernel_rfl) ?_
          simp only [pickOps, List.filterMap_cons, List.filterMap_nil, List.getElem?_cons_zero, List.getElem?_cons_succ]
          repeat ((with_reducible apply wpHeld_step); (· rfl); (· (intro wq hSw; first | (go_simp; rfl) | (fail))); intro K hK; go_simp; (with_reducible refine hK _ ?_); clear hK K)
          refine wpHeld_nil ?_
          refine wpAllT_one 9 rfl (by kernel_rfl) ?_
          refine sls hM ?_ (hX := HSE.out _ _ _)
          clear hM hS
          intro wx hM
          refine wpList_then ⟨.inl (by kernel_rfl), wpAllT_drop (by kernel_rfl) ?_⟩
          refine wpAll_done (by kernel_rfl) ?_
          go_wp2_with fail
          obtain rfl : N5 = j + 1 := by have := hN5.out; have := hPl.out; simp at *; omega
          exact ⟨⟨j + 1, P ++ [y], A5, c5, zs2, e4, A4, N4, C4, by omega, by go_num, Lib.hid (by have := hPl.out; simp; omega), hbz2.out, hT4.out, hP2.out, hM.subL (List.sublist_cons_self _ _)⟩, by simp [intOf]; omega⟩
        · obtain rfl : j = cnt := by omega
          obtain ⟨lff, chf, Pf, er, hPS, hcase⟩ := HCASE.out zs e ch P hT hch2.out hP
          have HEN := Lib.hid (fun (L : List Ent) (R : List Thing) (w1 : World) (hM : Mem [] w (⟨gr, 158, 2, rdC (.slice A3 N3 C3) e⟩ :: L) (bT (.slice A3 N3 C3) zs :: R) w1) => end_any A3 N3 C3 zs e hM)
          generalize endE zs e = e9 at HEN hcase
          have HCK := Lib.hid (fun w => gcheck_any (lf0 : Nat) ch E j e2' w)
          replace hPS := Lib.hid hPS
          clear HCASE hT hP hbz hch2 hlt hj
          rcases hcase with ⟨c1, rfl, rfl, rfl, rfl⟩ | ⟨rfl, c2, rfl, rfl, rfl, rfl⟩ | ⟨rfl, c2, rfl, rfl, rfl, rfl⟩
          · have r1 : ((er : Int) != 0) = true := by simp; omega
            have r2 : ¬ ((er : Int) = 0) := by omega
            clear c1
            go_wp2_with fail
            refine (HEN.out _ _ _ hM).mono ?_
            clear hM HEN
            rintro ex w7 ⟨rfl, hM⟩
            go_wp2_with (first | ((with_reducible refine at_load ?_); refine sll hM ?_ (hty := row_sgn)) | ((with_reducible refine (HCK.out _).mono ?_); rintro e w1 ⟨rfl, hb⟩; replace hM := hM.step hb; clear hb) | ((with_reducible refine at_build ?_); refine lbsgn0 ?_) | ((with_reducible refine at_store ?_); refine slw hM ?_ (hs := sigC_size _ _ _ _ _) (h1 := sigC_one _ _ _ _ _) (hty := row_sgn); clear hM; intro wx hM))
            exact bodyPost_ret (results_mem_cell_tmp hM rfl (by rfl) (by repeat (first | exact List.Mem.head _ | apply List.Mem.tail)) row_sgn (by rfl)) rfl ⟨_, _, _, _, _, _, _, rfl, hPS.out, hbecomes_zero none (KeptBut.of_below hM.below)⟩
          · rw [c2] at HCK
            clear c2
            go_wp2_with fail
            refine (HEN.out _ _ _ hM).mono ?_
            clear hM HEN
            rintro ex w7 ⟨rfl, hM⟩
            go_wp2_with (first | ((with_reducible refine at_load ?_); refine sll hM ?_ (hty := row_sgn)) | ((with_reducible refine (HCK.out _).mono ?_); rintro e w1 ⟨rfl, hb⟩; replace hM := hM.step hb; clear hb) | ((with_reducible refine at_build ?_); refine lbsgn0 ?_) | ((with_reducible refine at_store ?_); refine slw hM ?_ (hs := sigC_size _ _ _ _ _) (h1 := sigC_one _ _ _ _ _) (hty := row_sgn); clear hM; intro wx hM))
            exact bodyPost_ret (results_mem_cell_tmp hM rfl (by rfl) (by repeat (first | exact List.Mem.head _ | apply List.Mem.tail)) row_sgn (by rfl)) rfl ⟨_, _, _, _, _, _, _, rfl, hPS.out, hbecomes_zero none (KeptBut.of_below hM.below)⟩
          · rw [c2] at HCK
            clear c2
            go_wp2_with fail
            refine (HEN.out _ _ _ hM).mono ?_
            clear hM HEN
            rintro ex w7 ⟨rfl, hM⟩
            go_wp2_with (first | ((with_reducible refine at_load ?_); refine sll hM ?_ (hty := row_sgn)) | ((with_reducible refine (HCK.out _).mono ?_); rintro e w1 ⟨rfl, hb⟩; replace hM := hM.step hb; clear hb) | ((with_reducible refine at_build ?_); refine lbsgn0 ?_) | ((with_reducible refine at_store ?_); refine slw hM ?_ (hs := sigC_size _ _ _ _ _) (h1 := sigC_one _ _ _ _ _) (hty := row_sgn); clear hM; intro wx hM))
            have hb := (hM.subL (List.nil_sublist _)).becomes (List.Mem.tail _ (List.Mem.head _))
            exact bodyPost_ret (results_mem_cell_tmp hM rfl (by rfl) (by repeat (first | exact List.Mem.head _ | apply List.Mem.tail)) row_sgn (by rfl)) rfl ⟨_, _, _, _, _, _, _, rfl, hPS.out, hb⟩
end Go.Proofs.YtdnnjgjaffkdfaaDoor
