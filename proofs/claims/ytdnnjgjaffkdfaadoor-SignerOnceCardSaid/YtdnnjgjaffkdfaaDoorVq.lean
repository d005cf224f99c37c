/- Contracts of the reference's Leaf, Join. Nothing of its own: what stands behind it in seat m. Rows of the reference's nodes; Own. Contracts of the reference's Height, Node, Root. Contracts of the reference's Root; Root of any leaves. -/
import Derived.Test.YtdnnjgjaffkdfaaDoorVp
import Derived.Test.YtdnnjgjaffkdfaaDoorVn
import Derived.Great.BuildSlice
namespace Go.Proofs.YtdnnjgjaffkdfaaDoor
open Go Go.RowKit Go.Bul Go.Thg Go.Lin
set_option maxRecDepth 20000 in
set_option maxHeartbeats 4000000 in
theorem rleaf_any (z : Int) (A : Option Addr) (n c : Nat) (bs : List Nat) (w : World) (hr : Reads w 1 A n (vals .u8 bs)) (hb : Bytes bs) (hn : n ≤ 1000) :
    Calls Tryd.prog 53 #[.int .i64 z, .slice A n c] w fun e w' => e = .returned (.agg (ndC (leafN z bs))) ∧ Below w.heap.size w w' := by
  have hM := Mem.start [] w
  have hN := wrap_u32 z
  have hl : n = bs.length := by have := hr.1; simp at this; omega
  have HH : Hid (leafN z bs = halfN (headL z ++ bs)) := Lib.hid rfl
  have HHB := Lib.hid (bytes_leaf (z := z) hb)
  have HHL : Hid (headL z = [0, (z % 4294967296).toNat / 16777216, (z % 4294967296).toNat / 65536 % 256, (z % 4294967296).toNat / 256 % 256, (z % 4294967296).toNat % 256]) := Lib.hid rfl
  have hN3 : (z % 4294967296).toNat < 4294967296 := by omega
  generalize (z % 4294967296).toNat = N at hN HHL hN3
  have n0 : (0 : Int) ≤ (N : Int) := Int.natCast_nonneg _
  have n1 : (N : Int) < 4294967296 := by omega
  have HR := Lib.hid (fun w' (hb : Below w.heap.size w w') => (hr.keep hb).src (c := c) (P := Tryd.prog) (tx := 78) Tryd.underlying78 (vals_one _ _))
  have h63 : (headL z).length + bs.length ≤ 1000000000 := by simp [headL]; omega
  have HLN := Lib.hid hl
  generalize leafN z bs = Z at HH ⊢
  clear hr hl hb
  go_enter Tryd.func53, Tryd.ntmps53
  go_wp2_with (first | (refine lbb5 hM ?_; clear hM; intro g5 w5 hM; have hM2 : Mem [] w _ (bT (.slice (some ⟨g5, 0, none⟩) 5 5) (headL z) :: _) w5 := (by rw [HHL.out]; exact ent_row (k := 5) (size := 1) hM (by decide) (by decide) rfl); clear hM; have hM := hM2; clear hM2) | ((with_reducible refine at_append ?_); refine la (HR.out _ hM.below) hM h63 ?_; clear hM; intro A2 N2 c2 wx hN hM) | ((first | with_reducible refine at_load ?_ | ((with_reducible refine at_load_g ?_ ?_); (· rfl))); first | refine ll hM ?_ | refine lc hM ?_ | refine lp hM ?_) | ((with_reducible refine at_store ?_); first | (refine lw hM ?_; clear hM; intro wx hM) | (refine ls hM ?_; clear hM; intro wx hM) | (refine lt hM ?_; clear hM; intro wx hM)) | ((with_reducible refine at_alloc ?_); refine lz hM ?_; clear hM; intro gx wx hM) | ((with_reducible refine at_box ?_); refine lb hM ?_; clear hM; intro gx wx hM))
  obtain ⟨Y, hY⟩ : ∃ Y, headL z ++ bs = Y := ⟨_, rfl⟩
  have hYl : Y.length ≤ 1000000 := by rw [← hY]; have := HLN.out; simp [headL]; omega
  have HZ := Lib.hid (show Z = halfN Y by rw [HH.out, hY])
  have hYb : Bytes Y := by rw [← hY]; exact HHB.out
  obtain rfl : N2 = (headL z ++ bs).length := hN.out
  rw [hY] at hM ⊢
  obtain ⟨hrd, _, hnc⟩ := bT_reads (hM.thing _ (List.Mem.head _))
  have HS := Lib.hid (rhalf_any (c := c2) hrd hYb hYl)
  clear hrd hnc hY hYl hYb hN
  go_wp2_with (first | ((with_reducible refine HS.out.mono ?_); rintro e w4 ⟨rfl, hb⟩; replace hM := hM.step hb; clear hb) | ((first | with_reducible refine at_load ?_ | ((with_reducible refine at_load_g ?_ ?_); (· rfl))); first | refine ll hM ?_ | refine lc hM ?_ | refine lp hM ?_) | ((with_reducible refine at_store ?_); first | (refine lw hM ?_; clear hM; intro wx hM) | (refine ls hM ?_; clear hM; intro wx hM) | (refine lt hM ?_; clear hM; intro wx hM)) | ((with_reducible refine at_alloc ?_); refine lz hM ?_; clear hM; intro gx wx hM) | ((with_reducible refine at_box ?_); refine lb hM ?_; clear hM; intro gx wx hM))
  exact bodyPost_ret (results_mem_cell hM rfl (by rfl) (by repeat (first | exact List.Mem.head _ | apply List.Mem.tail)) (by first | exact row_nd | exact row_n | exact row_half | exact row_a32 | exact row_nd2 | exact row_n2 | exact row_two | exact row_claim | exact row_bld | exact row_bnds)) rfl ⟨by rw [HZ.out], hM.below⟩
theorem src_b1 {w w0 : World} {G : List Nat} {L : List Ent} {R : List Thing} {g x : Nat} {t : TypeId} (hM : Mem G w0 L R w) (hL : ⟨g, t, 1, #[.int .u8 (x : Nat)]⟩ ∈ L) : Src Tryd.prog 1 78 (.slice (some ⟨g, 0, none⟩) 1 1) 1 (vals .u8 [x]) w :=
  (show Reads w 1 (some ⟨g, 0, none⟩) 1 (vals .u8 [x]) from reads_ent hM hL).src (c := 1) Tryd.underlying78 (vals_one _ _)
theorem nd_cell (a : Nd) (k : Nat) (hk : k < 16) : (ndC a)[k]? = some (.int .u8 ((a.val[k]'(by rw [a.len]; exact hk) : Nat) : Int)) := by
  have : k < a.val.length := by rw [a.len]; exact hk
  simp [ndC, cellsOf, vals, this]
set_option maxRecDepth 20000 in
set_option maxHeartbeats 4000000 in
theorem rjoin_any (z : Int) (a b : Nd) (w : World) :
    Calls Tryd.prog 54 #[.int .i64 z, .agg (ndC a), .agg (ndC b)] w fun e w' => e = .returned (.agg (ndC (joinN z a b))) ∧ Below w.heap.size w w' := by
  have hM := Mem.start [] w
  have hN := wrap_u8 z
  have HH : Hid (joinN z a b = halfN ([1, (z % 256).toNat] ++ (a.val ++ b.val))) := Lib.hid rfl
  have HB : Hid (Bytes ([1, (z % 256).toNat] ++ (a.val ++ b.val))) := Lib.hid (bytes_join z a b)
  have hN3 : (z % 256).toNat < 256 := by omega
  generalize (z % 256).toNat = N at hN HH HB hN3
  have n0 : (0 : Int) ≤ (N : Int) := Int.natCast_nonneg _
  have n1 : (N : Int) < 256 := by omega
  generalize joinN z a b = Z at HH ⊢
  go_enter Tryd.func54, Tryd.ntmps54
  go_wp2_with (first | (refine lbb2 hM ?_; clear hM; intro g1 w5 hM; have hM2 : Mem [] w _ (bT (.slice (some ⟨g1, 0, none⟩) 2 2) ([1, N] ++ a.val.take 0) :: _) w5 := ent_row (k := 2) (size := 1) hM (by decide) (by decide) rfl; clear hM; have hM := hM2; clear hM2) | ((first | with_reducible refine at_load ?_ | ((with_reducible refine at_load_g ?_ ?_); (· rfl))); first | refine ll hM ?_ | refine lc hM ?_ | refine lp hM ?_) | ((with_reducible refine at_store ?_); first | (refine lw hM ?_; clear hM; intro wx hM) | (refine ls hM ?_; clear hM; intro wx hM) | (refine lt hM ?_; clear hM; intro wx hM)) | ((with_reducible refine at_alloc ?_); refine lz hM ?_; clear hM; intro gx wx hM) | ((with_reducible refine at_box ?_); refine lb hM ?_; clear hM; intro gx wx hM))
  obtain ⟨g6, hg6⟩ := hM.name1
  obtain ⟨g5, hg5⟩ := (hM.subL (List.sublist_cons_self _ _)).name1
  obtain ⟨g4, hg4⟩ := (hM.subL (List.Sublist.cons _ (List.Sublist.cons _ (List.Sublist.refl _)))).name1
  subst hg6 hg5 hg4
  have M0 := Lib.hid hM
  clear hM
  go_loopw [8, 7] (fun i v wr => ∃ (k : Nat) (A' : Option Addr) (c' : Nat), k ≤ 16 ∧ i = .int .i64 (k : Nat) ∧ v = .slice A' ([1, N] ++ a.val.take k).length c' ∧ Mem [] w [⟨g6, 95, 16, ndC nd0⟩, ⟨g5, 95, 16, ndC b⟩, ⟨g4, 95, 16, ndC a⟩] [bT (.slice A' ([1, N] ++ a.val.take k).length c') ([1, N] ++ a.val.take k)] wr) (fun i _ _ => 16 - (intOf i).toNat)
  case atStart => exact ⟨0, _, 2, by omega, rfl, rfl, M0.out⟩
  case round =>
    clear M0
    obtain ⟨k, A', c', hk, rfl, rfl, hM⟩ := hrel
    by_cases hlt : k < 16
    · have hal := a.len
      have q0 : (0 : Int) ≤ (k : Int) := Int.natCast_nonneg _
      have q1 : (k : Int) < 16 := by omega
      have HG := Lib.hid (nd_cell a k hlt)
      have htk : [1, N] ++ a.val.take (k + 1) = ([1, N] ++ a.val.take k) ++ [a.val[k]'(by omega)] := by rw [List.take_succ_eq_append_getElem (by omega), List.append_assoc]
      obtain ⟨x, hx⟩ : ∃ x, a.val[k]'(by omega) = x := ⟨_, rfl⟩
      rw [hx] at HG htk
      have h63 : ([1, N] ++ a.val.take k).length + [x].length ≤ 1000000000 := by simp; omega
      obtain ⟨cur, hcur⟩ : ∃ c, [1, N] ++ a.val.take k = c := ⟨_, rfl⟩
      rw [hcur] at hM htk h63 ⊢
      have HTK := Lib.hid htk
      clear hx hal htk hcur
      go_wp2_with (first | ((with_reducible refine at_load ?_); refine lcx HG.out hM ?_) | (refine lbb1 hM ?_; clear hM; intro g1 w5 hM) | ((with_reducible refine at_append ?_); refine la (src_b1 hM (List.Mem.head _)) hM h63 ?_; clear hM; intro A2 N2 c2 wx hN2 hM))
      obtain rfl : N2 = (cur ++ [x]).length := hN2.out
      exact ⟨⟨k + 1, A2, c2, by omega, by go_num, by rw [HTK.out], by rw [HTK.out]; exact hM.subL (List.sublist_cons_self _ _)⟩, by simp [intOf]; omega⟩
    · obtain rfl : k = 16 := by omega
      have e : [1, N] ++ a.val.take 16 = ([1, N] ++ a.val) ++ b.val.take 0 := by rw [List.take_of_length_le (by rw [a.len]; exact Nat.le_refl _), List.take_zero, List.append_nil]
      rw [e] at hM ⊢
      rw [show ((16 : Nat) : Int) = (16 : Int) from rfl]
      obtain ⟨pre, hpre⟩ : ∃ p, [1, N] ++ a.val = p := ⟨_, rfl⟩
      have hpl : pre.length = 18 := by rw [← hpre]; simp [a.len]
      rw [hpre] at hM ⊢
      have HPL := Lib.hid hpl
      have HPRE := Lib.hid hpre
      clear hlt hk e hpl hpre
      go_wp2_with fail
      have M1 := Lib.hid hM
      clear hM
      go_loopw [9, 7] (fun i v wr => ∃ (k : Nat) (A' : Option Addr) (c' : Nat), k ≤ 16 ∧ i = .int .i64 (k : Nat) ∧ v = .slice A' (pre ++ b.val.take k).length c' ∧ Mem [] w [⟨g6, 95, 16, ndC nd0⟩, ⟨g5, 95, 16, ndC b⟩, ⟨g4, 95, 16, ndC a⟩] [bT (.slice A' (pre ++ b.val.take k).length c') (pre ++ b.val.take k)] wr) (fun i _ _ => 16 - (intOf i).toNat)
      case atStart => exact ⟨0, _, c', by omega, rfl, rfl, M1.out⟩
      case round =>
        clear M1
        obtain ⟨k, A', c', hk, rfl, rfl, hM⟩ := hrel
        by_cases hlt : k < 16
        · have hbl := b.len
          have hpl := HPL.out
          have q0 : (0 : Int) ≤ (k : Int) := Int.natCast_nonneg _
          have q1 : (k : Int) < 16 := by omega
          have HG := Lib.hid (nd_cell b k hlt)
          have htk : pre ++ b.val.take (k + 1) = (pre ++ b.val.take k) ++ [b.val[k]'(by omega)] := by rw [List.take_succ_eq_append_getElem (by omega), List.append_assoc]
          obtain ⟨x, hx⟩ : ∃ x, b.val[k]'(by omega) = x := ⟨_, rfl⟩
          rw [hx] at HG htk
          have h63 : (pre ++ b.val.take k).length + [x].length ≤ 1000000000 := by simp; omega
          obtain ⟨cur, hcur⟩ : ∃ c, pre ++ b.val.take k = c := ⟨_, rfl⟩
          rw [hcur] at hM htk h63 ⊢
          have HTK := Lib.hid htk
          clear hx hbl hpl htk hcur
          go_wp2_with (first | ((with_reducible refine at_load ?_); refine lcx HG.out hM ?_) | (refine lbb1 hM ?_; clear hM; intro g1 w5 hM) | ((with_reducible refine at_append ?_); refine la (src_b1 hM (List.Mem.head _)) hM h63 ?_; clear hM; intro A2 N2 c2 wx hN2 hM))
          obtain rfl : N2 = (cur ++ [x]).length := hN2.out
          exact ⟨⟨k + 1, A2, c2, by omega, by go_num, by rw [HTK.out], by rw [HTK.out]; exact hM.subL (List.sublist_cons_self _ _)⟩, by simp [intOf]; omega⟩
        · obtain rfl : k = 16 := by omega
          obtain ⟨Y, hY⟩ : ∃ Y, pre ++ b.val.take 16 = Y := ⟨_, rfl⟩
          have hYe : [1, N] ++ (a.val ++ b.val) = Y := by rw [← hY, ← HPRE.out, List.take_of_length_le (by rw [b.len]; exact Nat.le_refl _), List.append_assoc]
          have hYl : Y.length ≤ 1000000 := by rw [← hYe]; simp [a.len, b.len]
          have HZ := Lib.hid (show Z = halfN Y by rw [HH.out, hYe])
          have hYb : Bytes Y := by rw [← hYe]; exact HB.out
          rw [hY] at hM ⊢
          obtain ⟨hrd, _, hnc⟩ := bT_reads (hM.thing _ (List.Mem.head _))
          have HS := Lib.hid (fun w' (hb : Below wr.heap.size wr w') => rhalf_any (c := c') (hrd.keep hb) hYb hYl)
          clear hY hYe hYl hYb hlt hk hrd hnc
          go_wp2_with (first | ((with_reducible refine (HS.out _ (Below.refl _ _)).mono ?_); rintro e w4 ⟨rfl, hb⟩; replace hM := hM.step hb; clear hb) | ((first | with_reducible refine at_load ?_ | ((with_reducible refine at_load_g ?_ ?_); (· rfl))); first | refine ll hM ?_ | refine lc hM ?_ | refine lp hM ?_) | ((with_reducible refine at_store ?_); first | (refine lw hM ?_; clear hM; intro wx hM) | (refine ls hM ?_; clear hM; intro wx hM) | (refine lt hM ?_; clear hM; intro wx hM)) | ((with_reducible refine at_alloc ?_); refine lz hM ?_; clear hM; intro gx wx hM) | ((with_reducible refine at_box ?_); refine lb hM ?_; clear hM; intro gx wx hM))
          exact bodyPost_ret (results_mem_cell hM rfl (by rfl) (by repeat (first | exact List.Mem.head _ | apply List.Mem.tail)) (by first | exact row_nd | exact row_n | exact row_half | exact row_a32 | exact row_nd2 | exact row_n2 | exact row_two | exact row_claim | exact row_bld | exact row_bnds)) rfl ⟨by rw [HZ.out], hM.below⟩
end Go.Proofs.YtdnnjgjaffkdfaaDoor
namespace Go.Proofs.YtdnnjgjaffkdfaaDoor
open Go Go.RowKit Go.Bul Go.Thg Go.Lin
def rnT (v : Value) (l : List Nd) : Thing := rowT 95 16 v l.length (ndCells l)
theorem rnT_form {v : Value} {l : List Nd} {w : World} (h : (rnT v l).P w) : ∃ A c, v = .slice A l.length c ∧ l.length ≤ c ∧ NIn w A l.length l := by
  obtain ⟨A, c, h1, h2, _⟩ := OffRow.form h
  subst h1
  exact ⟨A, c, rfl, h2, OffRow.reads h⟩
theorem rnT_in {A : Option Addr} {n c : Nat} {l : List Nd} {w : World} (h : (rnT (.slice A n c) l).P w) : NIn w A n l := by
  obtain ⟨A', c', he, _, hn⟩ := rnT_form h
  have e1 : A = A' := by injection he
  have e2 : n = l.length := by injection he
  subst e1 e2
  exact hn
theorem rbecomes_zero {G : List Nat} {w w' : World} (A : Option Addr) (h : KeptBut G w w') : Becomes G w (rnT (.slice A 0 0) []) w' :=
  ⟨OffRow.empty w' _ _ A, h, fun g hg => by rw [show (rnT (.slice A 0 0) []).fp = [] from sFp_zero] at hg; cases hg⟩
set_option maxRecDepth 20000 in
theorem run_lbr1 (y0 : Nd) (w : World) : (Instr.buildSlice 104 1 #[(0, .agg (ndC y0))]).run Tryd.prog w = .ok (.slice (some ⟨w.heap.size, 0, none⟩) 1 1) (w.alloc (.cells (ndC y0) 95)) := by
  have h := info_n
  cases hq : Tryd.prog.info? 95 with
  | none => rw [hq] at h; simp at h
  | some i =>
    rw [hq] at h
    simp only [Option.map_some, Option.some.injEq, Prod.mk.injEq] at h
    refine run_buildSlice w _ _ 1 _ _ i _ Tryd.underlying104 hq h.1 (by rw [h.2.1]; decide) (by rw [h.2.1]; decide) ?_
    rw [h.2.1]
    have hz : Array.map (fun x => (Value.agg (ndC nd0)).cells[x % (Value.agg (ndC nd0)).cells.size]!) (Array.range (1 * 16)) = #[Value.int IntKind.u8 0, Value.int IntKind.u8 0, Value.int IntKind.u8 0, Value.int IntKind.u8 0, Value.int IntKind.u8 0, Value.int IntKind.u8 0, Value.int IntKind.u8 0, Value.int IntKind.u8 0, Value.int IntKind.u8 0, Value.int IntKind.u8 0, Value.int IntKind.u8 0, Value.int IntKind.u8 0, Value.int IntKind.u8 0, Value.int IntKind.u8 0, Value.int IntKind.u8 0, Value.int IntKind.u8 0] := by kernel_rfl
    rw [hz]
    obtain ⟨l0, hl0, _⟩ := y0
    obtain ⟨p0_0, p0_1, p0_2, p0_3, p0_4, p0_5, p0_6, p0_7, p0_8, p0_9, p0_10, p0_11, p0_12, p0_13, p0_14, p0_15, rfl⟩ := list16 hl0
    simp [Instr.fill, Value.cells, ndC, cellsOf, vals]
section
variable {w w0 : World} {G : List Nat} {L : List Ent} {R : List Thing} {ops : Array Oper} {rest : List Oper} {o : Oper} {a : Act} {Q : Exit → Act → World → Prop} {s x x0 : Operand} {v y : Value} {xs ys : List Nd} {m : Nat} {F : Thing → List Thing}
theorem lbr1 {y0 : Nd} (hM : Mem G w0 L R w) (h : ∀ g w', Mem G w0 (⟨g, 95, 16, (ndC y0)⟩ :: L) R w' → wpList Tryd.prog ops Q rest (a.put o.dst (.slice (some ⟨g, 0, none⟩) 1 1)) w')
    (hgd : o.guard = none := by rfl) (ho : o.op = .buildSlice 104 1 #[(0, x0)] := by rfl) (hx0 : a.eval x0 = .agg (ndC y0) := by rfl) : wpList Tryd.prog ops Q (o :: rest) a w := by
  refine wpList_plain hgd fun K hK => ?_
  unfold Oper.wp execOp
  simp only [ho, List.map_toArray, List.map_cons, List.map_nil, hx0, Sem.run_bind, run_lbr1, Result.andThen_ok]
  exact hK _ _ (h _ _ (hM.alloc _ _ (by first | rfl | exact ndC_size _ | exact ndC2_size _ _)))
/-- append nodes onto a row of the reference's nodes. -/
theorem lar (hs : Src Tryd.prog 16 104 y m (ndCells ys) w) (hM : Mem G w0 L R w) (h63 : xs.length + ys.length ≤ 1000000000)
    (h : ∀ A' N c' w', Hid (N = (xs ++ ys).length) → Mem G w0 L (F (rnT (.slice A' N c') (xs ++ ys))) w' → wpList Tryd.prog ops Q rest (a.put o.dst (.slice A' N c')) w')
    (hgd : o.guard = none := by rfl) (ho : o.op = .call { callee := .builtin .append, args := #[s, x], argTypes := #[104, 104] } := by rfl) (hv : a.eval s = v := by rfl) (hR : UpdR (rnT v xs) R F := by repeat (first | exact UpdR.head _ _ | apply UpdR.tail)) (hy : a.eval x = y := by rfl) : wpList Tryd.prog ops Q (o :: rest) a w := by
  have hl : m = ys.length := by have := hs.newsLen; rw [ndCells_length] at this; omega
  subst hl
  refine wpList_append_thing hM 104 _ 95 (.agg (ndC nd0)) 16 16 Tryd.underlying104 info_n (by exact ndC_size _) hgd s x ho v hv xs.length (ndCells xs) F hR y hy _ _ hs h63 (by decide) fun A' N c' w' hN hm => ?_
  refine h A' N c' w' (Lib.hid (by simp [hN])) ?_
  have e : rnT (.slice A' N c') (xs ++ ys) = rowT 95 16 (.slice A' N c') N (ndCells xs ++ ndCells ys) := by
    unfold rnT
    rw [hN, ndCells_app]
    simp
  rw [e]
  exact hm
end
theorem src_rn1 {w w0 : World} {G : List Nat} {L : List Ent} {R : List Thing} {g : Nat} {x : Nd} (hM : Mem G w0 L R w) (hL : ⟨g, 95, 16, ndC x⟩ ∈ L) : Src Tryd.prog 16 104 (.slice (some ⟨g, 0, none⟩) 1 1) 1 (ndCells [x]) w :=
  (nin_1 hM hL : Reads w 16 _ 1 (ndCells [x])).src (c := 1) Tryd.underlying104 (ndCells_one _)
end Go.Proofs.YtdnnjgjaffkdfaaDoor
namespace Go.Lin
open Go
def nodeN (leaves : List Nd) : Nat → Nat → Nd
  | 0, k => leaves.getD k nd0
  | l + 1, k => joinN ((l + 1 : Nat) : Int) (nodeN leaves l (2 * k)) (nodeN leaves l (2 * k + 1))
theorem up_get (q : Nat) : ∀ (l : List Nd) (k : Nat) (a b : Nd), l[2 * k]? = some a → l[2 * k + 1]? = some b → (up q l)[k]? = some (joinN (q : Int) a b)
  | [], k, a, b, h, _ => by simp at h
  | [_], k, a, b, _, h => by simp at h
  | x :: y :: l, 0, a, b, h1, h2 => by
    simp at h1 h2
    subst h1 h2
    rfl
  | x :: y :: l, k + 1, a, b, h1, h2 => by
    rw [show 2 * (k + 1) = 2 * k + 1 + 1 by omega] at h1
    rw [show 2 * (k + 1) + 1 = 2 * k + 1 + 1 + 1 by omega] at h2
    simp only [List.getElem?_cons_succ] at h1 h2
    simpa [up] using up_get q l k a b h1 h2
theorem lvl_get (leaves : List Nd) : ∀ lev k : Nat, (k + 1) * 2 ^ lev ≤ leaves.length → (lvl leaves lev)[k]? = some (nodeN leaves lev k)
  | 0, k, h => by
    have hk : k < leaves.length := by simp at h; omega
    simp [lvl, nodeN, List.getD_eq_getElem?_getD, hk]
  | lev + 1, k, h => by
    rw [Nat.pow_succ] at h
    have hp : 0 < 2 ^ lev := Nat.pow_pos (by decide)
    have e : (k + 1) * (2 ^ lev * 2) = (2 * k + 1 + 1) * 2 ^ lev := by
      rw [Nat.mul_comm (2 ^ lev) 2, ← Nat.mul_assoc]; congr 1; omega
    have e2 : (2 * k + 1) * 2 ^ lev ≤ (2 * k + 1 + 1) * 2 ^ lev := Nat.mul_le_mul_right _ (by omega)
    exact up_get (lev + 1) _ k _ _ (lvl_get leaves lev (2 * k) (by omega)) (lvl_get leaves lev (2 * k + 1) (by omega))
theorem rootH_node (leaves : List Nd) (h : Nat) (hn : leaves.length = 2 ^ h) : nodeN leaves h 0 = rootH leaves h := by
  have := lvl_get leaves h 0 (by omega)
  unfold rootH
  rw [List.headD_eq_head?_getD, List.head?_eq_getElem?, this]
  rfl
def heightN (n : Nat) : Nat := if chkE n = 0 then Nat.log2 n else 0
theorem chkE_pow {n h : Nat} (hh : h ≤ 10) (hn : n = 2 ^ h) : chkE n = 0 ∧ Nat.log2 n = h := by
  subst hn
  have h0 : 0 < 2 ^ h := Nat.pow_pos (by decide)
  have h1 : 2 ^ h ≤ 2 ^ 10 := Nat.pow_le_pow_right (by decide) hh
  have hp : pow2 (2 ^ h) = true := by
    unfold pow2
    exact List.any_eq_true.2 ⟨h, List.mem_range.2 (by omega), by simp⟩
  unfold chkE
  rw [if_neg (by omega), if_neg (by omega), if_pos hp]
  exact ⟨rfl, Nat.log2_two_pow⟩
theorem chkE_yes {n : Nat} (h : chkE n = 0) : ∃ k, k ≤ 10 ∧ n = 2 ^ k ∧ Nat.log2 n = k := by
  have hp : pow2 n = true := by
    unfold chkE at h
    split at h
    · omega
    · split at h
      · omega
      · split at h
        · assumption
        · omega
  obtain ⟨k, hk, he⟩ := pow2_height hp
  exact ⟨k, hk, he, (chkE_pow hk he).2⟩
theorem chkE_out {n k : Nat} (h0 : 0 < n) (h1 : n ≤ 1024) (hk : k ≤ 10) (hb : ∀ j, j < k → 2 ^ j < n) (hle : n ≤ 2 ^ k) (hne : 2 ^ k ≠ n) : chkE n = 2 := by
  unfold chkE
  rw [if_neg (by omega), if_neg (by omega)]
  have hp : ¬ pow2 n = true := by
    intro hp
    obtain ⟨j, _, he⟩ := pow2_height hp
    rcases Nat.lt_trichotomy j k with h | h | h
    · have := hb j h; omega
    · subst h; omega
    · have := Nat.pow_lt_pow_right (a := 2) (by decide) h; omega
  rw [if_neg hp]
end Go.Lin
namespace Go.Proofs.YtdnnjgjaffkdfaaDoor
open Go Go.RowKit Go.Bul Go.Thg Go.Lin
set_option maxRecDepth 20000 in
theorem height_any (n : Nat) (w : World) (hn : n ≤ 9223372036854775807) :
    Calls Tryd.prog 86 #[.int .i64 (n : Nat)] w fun e w' => e = .returned (.tuple #[.int .i64 (heightN n : Nat), .int .i64 (chkE n)]) ∧ w = w' := by
  unfold heightN
  by_cases h1 : n = 0
  · subst h1
    go_enter Tryd.func86, Tryd.ntmps86
    go_wp2_with fail
    go_ret2
    exact ⟨rfl, rfl⟩
  · have q1 : ((n : Int) == 0) = false := by simp; omega
    have q1b : (n == 0) = false := by simp; omega
    by_cases h2 : 1024 < n
    · have q2 : decide ((1024 : Int) < (n : Int)) = true := decide_eq_true (by omega)
      have q3 : decide (1024 < n) = true := decide_eq_true h2
      have he : chkE n = 9 := by unfold chkE; rw [if_neg h1, if_pos h2]
      rw [he, if_neg (by decide)]
      clear h2 h1 he hn
      go_enter Tryd.func86, Tryd.ntmps86
      go_wp2_with fail
      go_ret2
      exact ⟨rfl, rfl⟩
    · have q2 : decide ((1024 : Int) < (n : Int)) = false := decide_eq_false (by omega)
      have q3 : decide (1024 < n) = false := decide_eq_false h2
      have h0 : 0 < n := by omega
      have h3 : n ≤ 1024 := by omega
      obtain ⟨hh, hhe⟩ : ∃ hh, (if chkE n = 0 then Nat.log2 n else 0) = hh := ⟨_, rfl⟩
      obtain ⟨ce, hce⟩ : ∃ ce, chkE n = ce := ⟨_, rfl⟩
      rw [hhe, hce]
      have HYES : Hid (∀ k, k ≤ 10 → n = 2 ^ k → hh = k ∧ ce = 0) := Lib.hid fun k hk he => by
        obtain ⟨e1, e2⟩ := chkE_pow hk he
        rw [if_pos e1, e2] at hhe
        exact ⟨hhe.symm, by rw [← hce, e1]⟩
      have HNO : Hid (∀ k, k ≤ 10 → (∀ j, j < k → 2 ^ j < n) → n ≤ 2 ^ k → 2 ^ k ≠ n → hh = 0 ∧ ce = 2) := Lib.hid fun k hk hb hle hne => by
        have e1 := chkE_out h0 h3 hk hb hle hne
        rw [if_neg (by rw [e1]; decide)] at hhe
        exact ⟨hhe.symm, by rw [← hce, e1]⟩
      clear h2 h1 hn hhe hce
      go_enter Tryd.func86, Tryd.ntmps86
      go_wp2_with fail
      go_loopw [4] (fun i wr => wr = w ∧ ∃ k : Nat, k ≤ 10 ∧ i = .int .i64 (k : Nat) ∧ Hid (∀ j, j < k → 2 ^ j < n)) (fun i _ => 11 - (intOf i).toNat)
      case atStart => exact ⟨rfl, 0, by omega, rfl, Lib.hid (fun j hj => absurd hj (by omega))⟩
      case round =>
        obtain ⟨rfl, k, hk, rfl, HB⟩ := hrel
        obtain ⟨p, hp⟩ : ∃ p, 2 ^ k = p := ⟨_, rfl⟩
        have hp10 : p ≤ 1024 := by
          have : 2 ^ k ≤ 2 ^ 10 := Nat.pow_le_pow_right (by decide) hk
          omega
        have c0 : (2 : Int) ^ k = (p : Int) := by rw [← hp]; simp
        have c4 : wrap64 ((2 : Int) ^ k) = (p : Int) := by rw [c0]; unfold wrap64; omega
        have k0 : (0 : Int) ≤ (k : Int) := Int.natCast_nonneg _
        have k1 : (k : Int) ≤ 10 := by omega
        have w1 : IntKind.i64.wrap ((k : Int) + 1) = (k : Int) + 1 := IntWalk.i64_in _ ⟨by omega, by omega⟩
        have HP := Lib.hid hp
        clear hp
        by_cases hlt : p < n
        · have q4 : decide ((p : Int) < (n : Int)) = true := decide_eq_true (by omega)
          have q5 : decide (p < n) = true := decide_eq_true hlt
          have hk2 : k < 10 := by
            rcases Nat.lt_or_ge k 10 with h | h
            · exact h
            · have : k = 10 := by omega
              subst this
              have := HP.out
              omega
          go_wp2_with fail
          refine ⟨⟨trivial, k + 1, by omega, by go_num, Lib.hid fun j hj => ?_⟩, by simp [intOf]; omega⟩
          rcases Nat.lt_or_ge j k with h | h
          · exact HB.out j h
          · have : j = k := by omega
            subst this
            rw [HP.out]
            exact hlt
        · have q4 : decide ((p : Int) < (n : Int)) = false := decide_eq_false (by omega)
          have q5 : decide (p < n) = false := decide_eq_false hlt
          by_cases he : p = n
          · obtain ⟨rfl, rfl⟩ := HYES.out k hk (by rw [HP.out, he])
            have q6 : ((p : Int) != (n : Int)) = false := by simp; omega
            have q7 : (p != n) = false := by simp; omega
            clear hlt he HYES HNO
            go_wp2_with fail
            go_ret2
            exact ⟨rfl, rfl⟩
          · obtain ⟨rfl, rfl⟩ := HNO.out k hk HB.out (by rw [HP.out]; omega) (by rw [HP.out]; exact he)
            have q6 : ((p : Int) != (n : Int)) = true := by simp; omega
            have q7 : (p != n) = true := by simp; omega
            clear hlt he HYES HNO
            go_wp2_with fail
            go_ret2
            exact ⟨rfl, rfl⟩
set_option maxRecDepth 20000 in
set_option maxHeartbeats 4000000 in
theorem rnode_any (A : Option Addr) (n c : Nat) (leaves : List Nd) (hn : n ≤ 2000) : ∀ (lev k : Nat) (w : World), NIn w A n leaves → lev ≤ 10 → (k + 1) * 2 ^ lev ≤ n →
    Calls Tryd.prog 87 #[.slice A n c, .int .i64 (lev : Nat), .int .i64 (k : Nat)] w fun e w' => e = .returned (.agg (ndC (nodeN leaves lev k))) ∧ Below w.heap.size w w' := by
  intro lev
  induction lev with
  | zero =>
    intro k w hr _ hk
    have hkl : k < n := by simp at hk; omega
    have hl := hr.len
    have hM := Mem.start [] w
    obtain ⟨g, off, rfl, _, h5⟩ := hr.row k (by omega)
    have HC := Lib.hid (fun w' (hb : Below w.heap.size w w') => NIn.cell (hr.keep hb) k (by omega))
    have e : leaves[k]'(by omega) = nodeN leaves 0 k := by simp [nodeN, List.getD_eq_getElem?_getD, show k < leaves.length by omega]
    rw [e] at HC
    generalize nodeN leaves 0 k = Z at HC ⊢
    have q0 : (0 : Int) ≤ (k : Int) := Int.natCast_nonneg _
    have q1 : (k : Int) < (n : Int) := by omega
    rw [show ((0 : Nat) : Int) = 0 from rfl]
    clear e h5 hl hr hk
    go_enter Tryd.func87, Tryd.ntmps87
    go_wp2_with (first | ((with_reducible refine at_load ?_); refine lr (HC.out _ hM.below) ?_) | ((first | with_reducible refine at_load ?_ | ((with_reducible refine at_load_g ?_ ?_); (· rfl))); first | refine ll hM ?_ | refine lc hM ?_ | refine lp hM ?_) | ((with_reducible refine at_store ?_); first | (refine lw hM ?_; clear hM; intro wx hM) | (refine ls hM ?_; clear hM; intro wx hM) | (refine lt hM ?_; clear hM; intro wx hM)) | ((with_reducible refine at_alloc ?_); refine lz hM ?_; clear hM; intro gx wx hM) | ((with_reducible refine at_box ?_); refine lb hM ?_; clear hM; intro gx wx hM))
    exact bodyPost_ret (results_mem_cell hM rfl (by rfl) (by repeat (first | exact List.Mem.head _ | apply List.Mem.tail)) (by first | exact row_nd | exact row_n | exact row_half | exact row_a32 | exact row_nd2 | exact row_n2 | exact row_two | exact row_claim | exact row_bld | exact row_bnds)) rfl ⟨rfl, hM.below⟩
  | succ lev ih =>
    intro k w hr hlev hk
    rw [Nat.pow_succ] at hk
    have hp : 0 < 2 ^ lev := Nat.pow_pos (by decide)
    have e : (k + 1) * (2 ^ lev * 2) = (2 * k + 1 + 1) * 2 ^ lev := by
      rw [Nat.mul_comm (2 ^ lev) 2, ← Nat.mul_assoc]; congr 1; omega
    have e2 : (2 * k + 1) * 2 ^ lev ≤ (2 * k + 1 + 1) * 2 ^ lev := Nat.mul_le_mul_right _ (by omega)
    have e3 : k + 1 ≤ (k + 1) * (2 ^ lev * 2) := Nat.le_mul_of_pos_right _ (by omega)
    have hM := Mem.start [] w
    have H1 := Lib.hid (fun w' (hb : Below w.heap.size w w') => ih (2 * k) w' (hr.keep hb) (by omega) (by omega))
    have H2 := Lib.hid (fun w' (hb : Below w.heap.size w w') => ih (2 * k + 1) w' (hr.keep hb) (by omega) (by omega))
    have hz : nodeN leaves (lev + 1) k = joinN ((lev + 1 : Nat) : Int) (nodeN leaves lev (2 * k)) (nodeN leaves lev (2 * k + 1)) := rfl
    rw [hz]
    generalize nodeN leaves lev (2 * k) = X at H1 ⊢
    generalize nodeN leaves lev (2 * k + 1) = Y at H2 ⊢
    have hkn : k ≤ 2000 := by omega
    have hl10 : lev ≤ 10 := by omega
    obtain ⟨m, hm⟩ : ∃ m : Nat, lev + 1 = m := ⟨_, rfl⟩
    rw [hm]
    have HJ := Lib.hid (fun w' => rjoin_any (m : Int) X Y w')
    generalize joinN (m : Int) X Y = Z at HJ ⊢
    have q1 : ((m : Int) == 0) = false := by simp; omega
    have q1b : (m == 0) = false := by simp; omega
    have q2 : IntKind.i64.wrap ((m : Int) - 1) = (lev : Int) := by rw [show (m : Int) - 1 = (lev : Int) by omega]; exact IntWalk.i64_in _ ⟨by omega, by omega⟩
    have q3 : IntKind.i64.wrap (2 * (k : Int)) = ((2 * k : Nat) : Int) := by rw [show 2 * (k : Int) = ((2 * k : Nat) : Int) by omega]; exact IntWalk.i64_in _ ⟨by omega, by omega⟩
    have q4 : IntKind.i64.wrap (((2 * k : Nat) : Int) + 1) = ((2 * k + 1 : Nat) : Int) := by rw [show ((2 * k : Nat) : Int) + 1 = ((2 * k + 1 : Nat) : Int) by omega]; exact IntWalk.i64_in _ ⟨by omega, by omega⟩
    obtain ⟨k2, hk2⟩ : ∃ k2 : Nat, 2 * k = k2 := ⟨_, rfl⟩
    obtain ⟨k3, hk3⟩ : ∃ k3 : Nat, k2 + 1 = k3 := ⟨_, rfl⟩
    rw [hk2] at q3 q4 H1 H2
    rw [hk3] at q4 H2
    clear ih hr hk e e2 e3 hp hz hm hk2 hk3 hlev hkn hl10
    go_enter Tryd.func87, Tryd.ntmps87
    go_wp2_with (first | ((with_reducible refine (H1.out _ hM.below).mono ?_); rintro e w1 ⟨rfl, hb⟩; replace hM := hM.step hb; clear hb) | ((with_reducible refine (H2.out _ hM.below).mono ?_); rintro e w1 ⟨rfl, hb⟩; replace hM := hM.step hb; clear hb) | ((with_reducible refine (HJ.out _).mono ?_); rintro e w1 ⟨rfl, hb⟩; replace hM := hM.step hb; clear hb) | ((first | with_reducible refine at_load ?_ | ((with_reducible refine at_load_g ?_ ?_); (· rfl))); first | refine ll hM ?_ | refine lc hM ?_ | refine lp hM ?_) | ((with_reducible refine at_store ?_); first | (refine lw hM ?_; clear hM; intro wx hM) | (refine ls hM ?_; clear hM; intro wx hM) | (refine lt hM ?_; clear hM; intro wx hM)) | ((with_reducible refine at_alloc ?_); refine lz hM ?_; clear hM; intro gx wx hM) | ((with_reducible refine at_box ?_); refine lb hM ?_; clear hM; intro gx wx hM))
    exact bodyPost_ret (results_mem_cell hM rfl (by rfl) (by repeat (first | exact List.Mem.head _ | apply List.Mem.tail)) (by first | exact row_nd | exact row_n | exact row_half | exact row_a32 | exact row_nd2 | exact row_n2 | exact row_two | exact row_claim | exact row_bld | exact row_bnds)) rfl ⟨rfl, hM.below⟩
end Go.Proofs.YtdnnjgjaffkdfaaDoor
namespace Go.Proofs.YtdnnjgjaffkdfaaDoor
open Go Go.RowKit Go.Bul Go.Thg Go.Lin
theorem arr_nd : ArrTy Tryd.prog 89 := ⟨⟨_, _, 1, Tryd.underlying89, by kernel_rfl⟩⟩
theorem arr_n : ArrTy Tryd.prog 95 := ⟨⟨_, _, 1, Tryd.underlying95, by kernel_rfl⟩⟩
set_option maxRecDepth 20000 in
set_option maxHeartbeats 4000000 in
theorem rroot_any (A : Option Addr) (n c : Nat) (leaves : List Nd) (w : World) (hr : NIn w A n leaves) (hn : n ≤ 2000) :
    Calls Tryd.prog 59 #[.slice A n c] w fun e w' => e = .returned (.tuple #[.agg (ndC (rootN leaves)), .int .i64 (chkE n)]) ∧ Below w.heap.size w w' := by
  have hM := Mem.start [] w
  have hl := hr.len
  have HH := Lib.hid (fun w' => height_any n w' (by omega))
  unfold rootN
  rw [← hl]
  unfold heightN at HH
  by_cases hc : chkE n = 0
  · obtain ⟨h, hh, he, hlog⟩ := chkE_yes hc
    rw [if_pos hc, hlog] at HH
    rw [if_pos hc, hlog, hc]
    rw [hc] at HH
    rw [← rootH_node leaves h (by omega)]
    have HN := Lib.hid (fun w' (hb : Below w.heap.size w w') => rnode_any A n c leaves hn h 0 w' (hr.keep hb) hh (by omega))
    generalize nodeN leaves h 0 = Z at HN ⊢
    rw [show ((0 : Nat) : Int) = 0 from rfl] at HN
    clear hc hh he hlog hr hl
    go_enter Tryd.func59, Tryd.ntmps59
    go_wp2_with (first | ((with_reducible refine (HH.out _).mono ?_); rintro e w1 ⟨rfl, rfl⟩) | ((with_reducible refine (HN.out _ hM.below).mono ?_); rintro e w1 ⟨rfl, hb⟩; replace hM := hM.step hb; clear hb) | ((first | with_reducible refine at_load ?_ | ((with_reducible refine at_load_g ?_ ?_); (· rfl))); first | refine ll hM ?_ | refine lc hM ?_ | refine lp hM ?_) | ((with_reducible refine at_store ?_); first | (refine lw hM ?_; clear hM; intro wx hM) | (refine ls hM ?_; clear hM; intro wx hM) | (refine lt hM ?_; clear hM; intro wx hM)) | ((with_reducible refine at_alloc ?_); refine lz hM ?_; clear hM; intro gx wx hM) | ((with_reducible refine at_box ?_); refine lb hM ?_; clear hM; intro gx wx hM))
    exact bodyPost_ret (results_mem_cell_tmp hM rfl (by rfl) (by repeat (first | exact List.Mem.head _ | apply List.Mem.tail)) (by first | exact row_nd | exact row_n | exact row_half | exact row_a32 | exact row_nd2 | exact row_n2 | exact row_two | exact row_claim | exact row_bld | exact row_bnds) (by rfl)) rfl ⟨rfl, hM.below⟩
  · rw [if_neg hc] at HH
    rw [if_neg hc]
    rw [show ((0 : Nat) : Int) = 0 from rfl] at HH
    have q1 : (chkE n != 0) = true := by simpa using hc
    generalize chkE n = ce at q1 HH ⊢
    clear hc hr hl
    go_enter Tryd.func59, Tryd.ntmps59
    go_wp2_with (first | ((with_reducible refine (HH.out _).mono ?_); rintro e w1 ⟨rfl, rfl⟩) | ((with_reducible refine at_build ?_); refine wpList_build_zero rfl _ (by rfl) _ _ zero_n arr_n ?_) | ((first | with_reducible refine at_load ?_ | ((with_reducible refine at_load_g ?_ ?_); (· rfl))); first | refine ll hM ?_ | refine lc hM ?_ | refine lp hM ?_) | ((with_reducible refine at_store ?_); first | (refine lw hM ?_; clear hM; intro wx hM) | (refine ls hM ?_; clear hM; intro wx hM) | (refine lt hM ?_; clear hM; intro wx hM)) | ((with_reducible refine at_alloc ?_); refine lz hM ?_; clear hM; intro gx wx hM) | ((with_reducible refine at_box ?_); refine lb hM ?_; clear hM; intro gx wx hM))
    exact bodyPost_ret (results_mem_cell_tmp hM rfl (by rfl) (by repeat (first | exact List.Mem.head _ | apply List.Mem.tail)) (by first | exact row_nd | exact row_n | exact row_half | exact row_a32 | exact row_nd2 | exact row_n2 | exact row_two | exact row_claim | exact row_bld | exact row_bnds) (by rfl)) rfl ⟨rfl, hM.below⟩
set_option maxRecDepth 20000 in
set_option maxHeartbeats 4000000 in
theorem root_any (A : Option Addr) (n c : Nat) (leaves : List Nd) (w : World) (hr : NIn w A n leaves) (hn : n ≤ 2000) (hT : Tab w) :
    Calls Tryd.prog 81 #[.slice A n c] w fun e w' => e = .returned (.tuple #[.agg (ndC (rootN leaves)), .int .i64 (chkE n)]) ∧ Below w.heap.size w w' := by
  have hl := hr.len
  unfold rootN
  rw [← hl]
  by_cases hc : chkE n = 0
  · obtain ⟨h, hh, he, hlog⟩ := chkE_yes hc
    rw [if_pos hc, hlog, hc]
    exact root_yes A n c h leaves w hr (by omega) hh hT
  · rw [if_neg hc]
    have hM := Mem.start [] w
    have HC := Lib.hid (fun w => check_any A n c w (by omega))
    have q1 : (chkE n != 0) = true := by simpa using hc
    generalize chkE n = ce at q1 HC ⊢
    clear hc hr hl hT
    go_enter Tryd.func81, Tryd.ntmps81
    go_wp2_with (first | ((with_reducible refine (HC.out _).mono ?_); rintro e w1 ⟨rfl, rfl⟩) | ((with_reducible refine at_build ?_); refine wpList_build_zero rfl _ (by rfl) _ _ zero_nd arr_nd ?_) | ((first | with_reducible refine at_load ?_ | ((with_reducible refine at_load_g ?_ ?_); (· rfl))); first | refine ll hM ?_ | refine lc hM ?_ | refine lp hM ?_) | ((with_reducible refine at_store ?_); first | (refine lw hM ?_; clear hM; intro wx hM) | (refine ls hM ?_; clear hM; intro wx hM) | (refine lt hM ?_; clear hM; intro wx hM)) | ((with_reducible refine at_alloc ?_); refine lz hM ?_; clear hM; intro gx wx hM) | ((with_reducible refine at_box ?_); refine lb hM ?_; clear hM; intro gx wx hM))
    exact bodyPost_ret (results_mem_cell_tmp hM rfl (by rfl) (by repeat (first | exact List.Mem.head _ | apply List.Mem.tail)) (by first | exact row_nd | exact row_n | exact row_half | exact row_a32 | exact row_nd2 | exact row_n2 | exact row_two | exact row_claim | exact row_bld | exact row_bnds) (by rfl)) rfl ⟨rfl, hM.below⟩
end Go.Proofs.YtdnnjgjaffkdfaaDoor
