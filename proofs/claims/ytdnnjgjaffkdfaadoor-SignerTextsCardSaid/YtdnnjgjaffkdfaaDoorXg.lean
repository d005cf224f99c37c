/- The reader of a text. The reader of a text: number, end, read. ParsePublic. -/
import Derived.Test.YtdnnjgjaffkdfaaDoorXf
import Derived.Lib.QuoteBits
namespace Go.Lin
open Go Go.Bul
/-- What the reader takes; its error then; what it has left. -/
def tkB (ys : List Nat) (e n : Nat) : List Nat := if e = 0 ∧ n ≤ ys.length then ys.take n else Go.Thg.zeros n
def tkE (ys : List Nat) (e n : Nat) : Nat := if e = 0 then (if n ≤ ys.length then 0 else 4) else e
def tkR (ys : List Nat) (e n : Nat) : List Nat := if e = 0 ∧ n ≤ ys.length then ys.drop n else ys
theorem tkB_length (ys : List Nat) (e n : Nat) : (tkB ys e n).length = n := by
  unfold tkB
  split
  · rw [List.length_take]; omega
  · exact List.length_replicate
theorem tkB_bytes {ys : List Nat} (hB : Bytes ys) (e n : Nat) : Bytes (tkB ys e n) := by
  intro x hx
  unfold tkB at hx
  split at hx
  · exact hB x (List.take_subset _ _ hx)
  · have := List.eq_of_mem_replicate hx
    omega
theorem tkR_bytes {ys : List Nat} (hB : Bytes ys) (e n : Nat) : Bytes (tkR ys e n) := by
  intro x hx
  unfold tkR at hx
  split at hx
  · exact hB x (List.drop_subset _ _ hx)
  · exact hB x hx
end Go.Lin
namespace Go.Proofs.YtdnnjgjaffkdfaaDoor
open Go Go.RowKit Go.Bul Go.Thg Go.Lin
theorem made_zeros (w : World) (n : Nat) (h0 : 0 < n) (hn : n ≤ 1000000000) : ∃ A W, (Instr.makeSlice 78 (.int .i64 (n : Nat)) (.int .i64 (n : Nat))).run Tryd.prog w = .ok (.slice A n n) W ∧ Reads W 1 A n (vals .u8 (Go.Thg.zeros n)) ∧ Below w.heap.size w W := by
  obtain ⟨i, hi', hz', hs', hb'⟩ := info_parts info_byte
  have h := run_make (P := Tryd.prog) w 78 5 i (.int .u8 0) Tryd.underlying78 hi' hz' .i64 .i64 (n : Nat) (n : Nat) (by omega) (by omega) (by rw [hb']; omega) (by omega)
  simp only [Int.toNat_natCast] at h
  refine ⟨_, _, h, ⟨by simp [Go.Thg.zeros], fun _ => ⟨w.heap.size, 0, rfl, ?_, fun j v hv => ?_⟩⟩, (Below.refl _ w).alloc (Nat.le_refl _) _⟩
  · exact (Array.getElem?_eq_some_iff.1 (heap_alloc_new w _)).1
  · have hB : Blk (w.alloc (.cells (madeCells (Value.cells (.int .u8 0)) (n * i.size)) 5)) w.heap.size 5 (madeCells (Value.cells (.int .u8 0)) (n * i.size)) := heap_alloc_new w _
    refine (hB.cell _).trans ?_
    have hj := (List.getElem?_eq_some_iff.1 hv).1
    simp only [Go.Thg.zeros, vals_length, List.length_replicate] at hj
    simp only [Go.Thg.zeros, vals, List.map_replicate, List.getElem?_replicate, if_pos hj, Option.some.injEq] at hv
    rw [← hv, hs', Nat.zero_add, Nat.mul_one]
    simp [madeCells, Value.cells, hj, Nat.mod_one]
section
variable {w w0 : World} {G : List Nat} {L : List Ent} {R : List Thing} {ops : Array Oper} {rest : List Oper} {o : Oper} {a : Act} {Q : Exit → Act → World → Prop} {x y : Operand}
theorem lmz {n : Nat} (h0 : 0 < n) (hn : n ≤ 1000000000) (hM : Mem G w0 L R w) (h : ∀ A w', Reads w' 1 A n (vals .u8 (Go.Thg.zeros n)) → Mem G w0 L R w' → wpList Tryd.prog ops Q rest (a.put o.dst (.slice A n n)) w') (hgd : o.guard = none := by rfl) (ho : o.op = .makeSlice 78 x y := by rfl) (hx : a.eval x = .int .i64 (n : Nat) := by rfl) (hy : a.eval y = .int .i64 (n : Nat) := by rfl) : wpList Tryd.prog ops Q (o :: rest) a w := by
  obtain ⟨A, W, h1, h2, h3⟩ := made_zeros w n h0 hn
  refine wpList_plain hgd fun K hK => ?_
  unfold Oper.wp execOp
  simp only [ho, hx, hy, Sem.run_bind, Sem.run_pure, Result.andThen_ok, h1]
  exact hK _ _ (h A W h2 (hM.step h3))
end
theorem one_err : OneTy Tryd.prog 33 := ⟨⟨_, Tryd.underlying33, rfl, by kernel_rfl⟩⟩
theorem one_sb : OneTy Tryd.prog 78 := ⟨⟨_, Tryd.underlying78, rfl, by kernel_rfl⟩⟩
/-- The reader's cells. -/
abbrev rdC (v : Value) (e : Nat) : Array Value := #[v, .int .i64 (e : Nat)]
set_option maxRecDepth 20000 in
set_option maxHeartbeats 2000000 in
theorem take_any {w0 w : World} {L : List Ent} {R : List Thing} {g : Nat} (A : Option Addr) (N C : Nat) (ys : List Nat) (e n : Nat) (hM : Mem [] w0 (⟨g, 158, 2, rdC (.slice A N C) e⟩ :: L) (bT (.slice A N C) ys :: R) w) (h0 : 0 < n) (hn : n ≤ 1000) :
    Calls Tryd.prog 72 #[.pointer (some ⟨g, 0, none⟩), .int .i64 (n : Nat)] w fun ex w' => ∃ B c' A' N' C', ex = .returned (.slice B n c') ∧ Reads w' 1 B n (vals .u8 (tkB ys e n)) ∧ Mem [] w0 (⟨g, 158, 2, rdC (.slice A' N' C') (tkE ys e n)⟩ :: L) (bT (.slice A' N' C') (tkR ys e n) :: R) w' := by
  obtain ⟨hrd, hN, hNC⟩ := bT_reads (hM.thing _ (List.Mem.head _))
  have HN := Lib.hid hN
  have HNC := Lib.hid hNC
  have hA0 : advA A 0 C 1 = A := by
    have h := hM.thing _ (List.Mem.head _)
    rw [hN] at h
    exact adv_zero h
  have HA0 := Lib.hid hA0
  clear hA0
  have h1000 := Lib.hid (show n ≤ 1000000000 by omega)
  have n0 := Lib.hid h0
  have q0 : (0 : Int) ≤ (n : Int) := Int.natCast_nonneg _
  have q1 : (n : Int) ≤ 1000 := by omega
  clear hrd hN hNC
  by_cases he : e = 0
  · subst he
    by_cases hs : n ≤ N
    · have e1 : tkB ys 0 n = ys.take n := by unfold tkB; rw [if_pos ⟨rfl, by have := HN.out; omega⟩]
      have e2 : tkE ys 0 n = 0 := by unfold tkE; rw [if_pos rfl, if_pos (by have := HN.out; omega)]
      have e3 : tkR ys 0 n = ys.drop n := by unfold tkR; rw [if_pos ⟨rfl, by have := HN.out; omega⟩]
      rw [e1, e2, e3]
      have r1 : decide ((N : Int) < (n : Int)) = false := decide_eq_false (by omega)
      have r2 : decide (N < n) = false := decide_eq_false (by omega)
      have r3 : ¬ (N < n) := by omega
      have HNN := Lib.hid hs
      have HNK := Lib.hid (show n ≤ C by have := HNC.out; omega)
      clear e1 e2 e3 h0 hn hs
      go_enter Tryd.func72, Tryd.ntmps72
      go_wp2_with (first | ((with_reducible refine at_store ?_); refine sls hM ?_ (hy := by (go_simp; rfl)) (hty := one_sb); clear hM; intro wx hM) | ((first | with_reducible refine at_load ?_ | ((with_reducible refine at_load_g ?_ ?_); (· rfl))); first | refine slc hM ?_ (hty := one_sb) | refine slc hM ?_ (hty := one_err)) | ((with_reducible refine at_slice ?_); first | refine lsl_hi Tryd.underlying78 size_byte HNK.out HA0.out ?_ | refine lsl_lo Tryd.underlying78 size_byte HNN.out HNC.out ?_))
      have hth := hM.thing _ (List.Mem.head _)
      have hR := (bT_reads hth).1.take n HNN.out
      rw [Nat.mul_one, show (vals .u8 ys).take n = vals .u8 (ys.take n) by simp [vals, List.map_take]] at hR
      replace hM := hM.turn (UpdR.head _ _) (bT_rest hth n HNN.out)
      go_ret
      exact ⟨A, C, _, _, _, rfl, hR, hM⟩
    · have hs2 : ¬ n ≤ ys.length := by have := HN.out; omega
      have e1 : tkB ys 0 n = Go.Thg.zeros n := by unfold tkB; rw [if_neg (fun h => hs2 h.2)]
      have e2 : tkE ys 0 n = 4 := by unfold tkE; rw [if_pos rfl, if_neg hs2]
      have e3 : tkR ys 0 n = ys := by unfold tkR; rw [if_neg (fun h => hs2 h.2)]
      rw [e1, e2, e3]
      have r1 : decide ((N : Int) < (n : Int)) = true := decide_eq_true (by omega)
      have r2 : decide (N < n) = true := decide_eq_true (by omega)
      have r3 : N < n := by omega
      clear e1 e2 e3 h0 hn hs hs2
      go_enter Tryd.func72, Tryd.ntmps72
      go_wp2_with (first | ((with_reducible refine at_store ?_); refine sls hM ?_ (hy := by (go_simp; rfl)) (hty := one_err); clear hM; intro wx hM) | ((first | with_reducible refine at_load ?_ | ((with_reducible refine at_load_g ?_ ?_); (· rfl))); first | refine slc hM ?_ (hty := one_sb) | refine slc hM ?_ (hty := one_err)) | ((with_reducible refine at_make ?_); refine lmz n0.out h1000.out hM ?_; clear hM; intro B wy hRB hM))
      go_ret
      exact ⟨B, n, A, N, C, rfl, hRB, hM⟩
  · have e1 : tkB ys e n = Go.Thg.zeros n := by unfold tkB; rw [if_neg (fun h => he h.1)]
    have e2 : tkE ys e n = e := by unfold tkE; rw [if_neg he]
    have e3 : tkR ys e n = ys := by unfold tkR; rw [if_neg (fun h => he h.1)]
    rw [e1, e2, e3]
    have r1 : ((e : Int) == 0) = false := beq_false_of_ne (by omega)
    have r2 : ((e : Int) != 0) = true := by simp; omega
    have r3 : ¬ ((e : Int) = 0) := by omega
    have r4 : ¬ (e = 0) := he
    clear e1 e2 e3 h0 hn he
    go_enter Tryd.func72, Tryd.ntmps72
    go_wp2_with (first | ((first | with_reducible refine at_load ?_ | ((with_reducible refine at_load_g ?_ ?_); (· rfl))); first | refine slc hM ?_ (hty := one_sb) | refine slc hM ?_ (hty := one_err)) | ((with_reducible refine at_make ?_); refine lmz n0.out h1000.out hM ?_; clear hM; intro B wy hRB hM))
    go_ret
    exact ⟨B, n, A, N, C, rfl, hRB, hM⟩
end Go.Proofs.YtdnnjgjaffkdfaaDoor
namespace Go.Lin
open Go Go.Bul
/-- The number that some bytes denote. -/
def numV (l : List Nat) : Nat := l.foldl (fun a b => a * 256 + b) 0
def endE (ys : List Nat) (e : Nat) : Nat := if e = 0 ∧ 0 < ys.length then 5 else e
theorem numV_take {l : List Nat} {j : Nat} (h : j < l.length) : numV (l.take (j + 1)) = numV (l.take j) * 256 + l.getD j 0 := by
  rw [List.take_succ_eq_append_getElem h, numV, List.foldl_append]
  simp [numV, List.getD_eq_getElem?_getD, h]
theorem numV_lt {l : List Nat} (hB : Bytes l) (h : l.length ≤ 1) : numV l < 256 := by
  match l, h with
  | [], _ => decide
  | [a], _ => have := hB a (List.Mem.head _); simpa [numV] using this
theorem or_bits8 {b x : Nat} (hb : b < 256) (hx : x < 256) : bits BinOp.or IntKind.i64 ((b * 256 : Nat) : Int) (x : Int) = ((b * 256 + x : Nat) : Int) := by
  have hs : (b * 256) ||| x = b * 256 + x := by
    rw [show b * 256 = b <<< 8 by rw [Nat.shiftLeft_eq], Nat.shiftLeft_add_eq_or_of_lt hx]
  have h1 : ∀ a : Nat, a < 18446744073709551616 → (BitVec.ofInt 64 (a : Int)).toNat = a := fun a ha => by
    rw [BitVec.ofInt_natCast, BitVec.toNat_ofNat]; exact Nat.mod_eq_of_lt (by omega)
  show IntKind.i64.wrap ((BitVec.ofInt 64 ((b * 256 : Nat) : Int) ||| BitVec.ofInt 64 (x : Int)).toNat : Int) = _
  rw [BitVec.toNat_or, h1 _ (by omega), h1 _ (by omega), hs]
  exact Go.Lib.wrap_i64_small _ (by omega)
end Go.Lin
namespace Go.Proofs.YtdnnjgjaffkdfaaDoor
open Go Go.RowKit Go.Bul Go.Thg Go.Lin
set_option maxRecDepth 20000 in
set_option maxHeartbeats 2000000 in
theorem number_any {w0 w : World} {L : List Ent} {R : List Thing} {g : Nat} (A : Option Addr) (N C : Nat) (ys : List Nat) (e n : Nat) (hM : Mem [] w0 (⟨g, 158, 2, rdC (.slice A N C) e⟩ :: L) (bT (.slice A N C) ys :: R) w) (hB : Bytes ys) (h0 : 0 < n) (hn : n ≤ 2) :
    Calls Tryd.prog 71 #[.pointer (some ⟨g, 0, none⟩), .int .i64 (n : Nat)] w fun ex w' => ∃ A' N' C', ex = .returned (.int .i64 (numV (tkB ys e n) : Nat)) ∧ Mem [] w0 (⟨g, 158, 2, rdC (.slice A' N' C') (tkE ys e n)⟩ :: L) (bT (.slice A' N' C') (tkR ys e n) :: R) w' := by
  have HT := Lib.hid (take_any A N C ys e n hM h0 (by omega))
  have hl := tkB_length ys e n
  have hb := tkB_bytes hB e n
  generalize tkB ys e n = bs at HT hl hb ⊢
  generalize tkE ys e n = e2 at HT ⊢
  generalize tkR ys e n = zs at HT ⊢
  have HNT := Lib.hid (fun (j : Nat) (hj : j < n) => numV_take (l := bs) (j := j) (by omega))
  have HBY := Lib.hid (fun (k : Nat) (hk : k < n) => show bs.getD k 0 < 256 by rw [List.getD_eq_getElem?_getD, List.getElem?_eq_getElem (by omega)]; exact hb _ (List.getElem_mem _))
  have HLT := Lib.hid (fun (j : Nat) (hj : j ≤ 1) => numV_lt (l := bs.take j) (fun x hx => hb x (List.take_subset _ _ hx)) (by rw [List.length_take]; omega))
  have HALL := Lib.hid (show bs.take n = bs by rw [← hl, List.take_length])
  have HGT := Lib.hid (fun (k : Nat) (hk : k < n) => show (vals .u8 bs)[k]? = some (.int .u8 (bs.getD k 0 : Nat)) by simp [vals, List.getD, List.getElem?_eq_getElem (by omega : k < bs.length)])
  have q1 : (n : Int) ≤ 2 := by omega
  have n0 := Lib.hid h0
  clear hM hl hb hB h0
  go_enter Tryd.func71, Tryd.ntmps71
  go_wp2_with fail
  refine HT.out.mono ?_
  rintro ex w1 ⟨B, c', A', N', C', rfl, hr, hM⟩
  obtain ⟨sg, so, rfl, hsg, hcs⟩ := hr.2 n0.out
  have HX := Lib.hid (fun (k : Nat) (hk : k < n) => hcs k _ (HGT.out k hk))
  clear HT hr hcs HGT
  go_wp2_with fail
  have M0 := Lib.hid hM
  clear hM
  go_loopw [5, 12] (fun num i wr => ∃ j : Nat, j ≤ n ∧ i = .int .i64 (j : Nat) ∧ num = .int .i64 (numV (bs.take j) : Nat) ∧ wr = w1) (fun _ i _ => n - (intOf i).toNat)
  case atStart => exact ⟨0, by omega, rfl, rfl, rfl⟩
  case round =>
    obtain ⟨j, hj, rfl, rfl, rfl⟩ := hrel
    have k0 : (0 : Int) ≤ (j : Int) := Int.natCast_nonneg _
    by_cases hlt : j < n
    · have hx := HX.out j hlt
      have hx9 := HBY.out j hlt
      have hnt := HNT.out j hlt
      have hn9 := HLT.out j (by omega)
      generalize bs.getD j 0 = x at hx hx9 hnt
      generalize numV (bs.take j) = a at hn9 hnt
      have HOR := or_bits8 hn9 hx9
      rw [← hnt] at HOR
      rw [show ((a * 256 : Nat) : Int) = (a : Int) * 256 by omega] at HOR
      replace HOR := Lib.hid HOR
      replace hnt := Lib.hid hnt
      replace hx := Lib.hid hx
      have k1 : (j : Int) < (n : Int) := by omega
      clear HX HBY HNT HLT HALL
      go_wp2_with ((with_reducible refine at_load ?_); refine lo hx.out ?_ (hty := one_u8))
      exact ⟨⟨j + 1, by omega, by go_num, by rw [HOR.out], trivial⟩, by simp [intOf]; omega⟩
    · obtain rfl : n = j := by omega
      rw [HALL.out]
      have hM := M0.out
      go_wp2_with fail
      go_ret
      exact ⟨A', N', C', rfl, hM⟩
set_option maxRecDepth 20000 in
set_option maxHeartbeats 1000000 in
theorem end_any {w0 w : World} {L : List Ent} {R : List Thing} {g : Nat} (A : Option Addr) (N C : Nat) (ys : List Nat) (e : Nat) (hM : Mem [] w0 (⟨g, 158, 2, rdC (.slice A N C) e⟩ :: L) (bT (.slice A N C) ys :: R) w) :
    Calls Tryd.prog 73 #[.pointer (some ⟨g, 0, none⟩)] w fun ex w' => ex = .returned (.int .i64 (endE ys e : Nat)) ∧ Mem [] w0 (⟨g, 158, 2, rdC (.slice A N C) (endE ys e)⟩ :: L) (bT (.slice A N C) ys :: R) w' := by
  obtain ⟨_, hN, _⟩ := bT_reads (hM.thing _ (List.Mem.head _))
  by_cases he : e = 0
  · subst he
    by_cases hs : 0 < N
    · rw [show endE ys 0 = 5 by unfold endE; rw [if_pos ⟨rfl, by omega⟩]]
      have r1 : decide ((0 : Int) < (N : Int)) = true := decide_eq_true (by omega)
      have r2 : 0 < N := hs
      have r3 : decide ((N : Int) > 0) = true := decide_eq_true (by omega)
      clear hN hs
      go_enter Tryd.func73, Tryd.ntmps73
      go_wp2_with (first | ((with_reducible refine at_store ?_); refine sls hM ?_ (hy := by (go_simp; rfl)) (hty := one_err); clear hM; intro wx hM) | ((first | with_reducible refine at_load ?_ | ((with_reducible refine at_load_g ?_ ?_); (· rfl))); first | refine slc hM ?_ (hty := one_sb) | refine slc hM ?_ (hty := one_err)))
      go_ret
      exact ⟨rfl, hM⟩
    · rw [show endE ys 0 = 0 by unfold endE; rw [if_neg (fun h => by omega)]]
      obtain rfl : N = 0 := by omega
      clear hN hs
      go_enter Tryd.func73, Tryd.ntmps73
      go_wp2_with (first | ((with_reducible refine at_store ?_); refine sls hM ?_ (hy := by (go_simp; rfl)) (hty := one_err); clear hM; intro wx hM) | ((first | with_reducible refine at_load ?_ | ((with_reducible refine at_load_g ?_ ?_); (· rfl))); first | refine slc hM ?_ (hty := one_sb) | refine slc hM ?_ (hty := one_err)))
      go_ret
      exact ⟨rfl, hM⟩
  · rw [show endE ys e = e by unfold endE; rw [if_neg (fun h => he h.1)]]
    have r1 : ((e : Int) == 0) = false := beq_false_of_ne (by omega)
    clear hN he
    go_enter Tryd.func73, Tryd.ntmps73
    go_wp2_with (first | ((with_reducible refine at_store ?_); refine sls hM ?_ (hy := by (go_simp; rfl)) (hty := one_err); clear hM; intro wx hM) | ((first | with_reducible refine at_load ?_ | ((with_reducible refine at_load_g ?_ ?_); (· rfl))); first | refine slc hM ?_ (hty := one_sb) | refine slc hM ?_ (hty := one_err)))
    go_ret
    exact ⟨rfl, hM⟩
theorem run_rd (v : Value) (e : Nat) (hv : v.cells = #[v]) (w : World) : (Instr.build 158 #[(0, v), (1, .int .i64 (e : Nat))]).run Tryd.prog w = .ok (.agg (rdC v e)) w := by
  refine run_build_struct (places := #[(0, 1), (1, 1)]) (show Tryd.prog.underlying 158 = some (.struct (Tryd.prog.fieldsOf 158)) by kernel_rfl) (show (Tryd.prog.info? 158).map (·.zero) = some (some (.agg (rdC (.slice none 0 0) 0))) by kernel_rfl) (fun w => by kernel_rfl) ?_ w
  show Instr.fill _ (rdC (.slice none 0 0) 0) [(0, v), (1, .int .i64 (e : Nat))] = _
  rw [fill_cons (size := 1) rfl (by rw [hv]; rfl) (by decide), hv, fill_cons (size := 1) rfl rfl (by simp [splice])]
  rfl
theorem row_rd : RowTy Tryd.prog 158 2 := ⟨⟨_, Tryd.underlying158, rfl, by kernel_rfl⟩⟩
set_option maxRecDepth 20000 in
set_option maxHeartbeats 1000000 in
theorem read_any (s : ByteArray) (w : World) (hs : s.size ≤ 90000) (hA : Alp w) :
    Calls Tryd.prog 70 #[.string s] w fun ex w' => ∃ g A N C, ex = .returned (.pointer (some ⟨g, 0, none⟩)) ∧ Mem [] w [⟨g, 158, 2, rdC (.slice A N C) (decE (nums s))⟩] [bT (.slice A N C) (decB (nums s))] w' := by
  have hM := Mem.start [] w
  have HD := Lib.hid (Decode_any s w hs hA)
  generalize decE (nums s) = er at HD ⊢
  generalize decB (nums s) = bs at HD ⊢
  clear hs hA
  go_enter Tryd.func70, Tryd.ntmps70
  go_wp2_with fail
  refine HD.out.mono ?_
  rintro ex w1 ⟨A, N, C, off, rfl, hb⟩
  replace hM := hM.newThing hb
  clear hb HD
  go_wp2_with (first | ((with_reducible refine at_build ?_); refine wpList_build_run rfl _ _ rfl _ rfl _ (run_rd (.slice A N C) er rfl _) ?_) | ((with_reducible refine at_box ?_); refine slb hM ?_ (hty := row_rd) (hn := rfl); clear hM; intro g2 w2 hM))
  go_ret
  exact ⟨g2, A, N, C, rfl, hM⟩
end Go.Proofs.YtdnnjgjaffkdfaaDoor
namespace Go.Lin
open Go Go.Bul
/-- The error of a text of a public key, and what the text denotes. -/
def ppE (ys : List Nat) (e0 : Nat) : Nat := if e0 ≠ 0 then e0 else if ys.length < 17 then 4 else if 17 < ys.length then 5 else if 1 ≤ ys.getD 0 0 ∧ ys.getD 0 0 ≤ 8 then 0 else 2
def PP (ys : List Nat) (e0 : Nat) (h : Int) (r : Nd) (er : Nat) : Prop := er = ppE ys e0 ∧ (er ≠ 0 → h = 0 ∧ r = nd0) ∧ (er = 0 → h = (ys.getD 0 0 : Nat) ∧ r.val = ys.drop 1)
theorem PP.one {ys : List Nat} {e0 er er' : Nat} {h h' : Int} {r r' : Nd} (a : PP ys e0 h r er) (b : PP ys e0 h' r' er') : h = h' ∧ r = r' ∧ er = er' := by
  obtain ⟨a1, a2, a3⟩ := a
  obtain ⟨b1, b2, b3⟩ := b
  have e : er = er' := a1.trans b1.symm
  by_cases h0 : er = 0
  · obtain ⟨c1, c2⟩ := a3 h0
    obtain ⟨d1, d2⟩ := b3 (by omega)
    exact ⟨c1.trans d1.symm, Nd.ext' (c2.trans d2.symm), e⟩
  · obtain ⟨c1, c2⟩ := a2 h0
    obtain ⟨d1, d2⟩ := b2 (by omega)
    exact ⟨c1.trans d1.symm, c2.trans d2.symm, e⟩
/-- The error behind both takings. -/
theorem pp_end (ys : List Nat) (e0 : Nat) : endE (tkR (tkR ys e0 1) (tkE ys e0 1) 16) (tkE (tkR ys e0 1) (tkE ys e0 1) 16) = if e0 ≠ 0 then e0 else if ys.length < 17 then 4 else if 17 < ys.length then 5 else 0 := by
  by_cases h0 : e0 = 0
  · subst h0
    rw [if_neg (by simp)]
    by_cases h1 : 1 ≤ ys.length
    · have e1 : tkR ys 0 1 = ys.drop 1 := by unfold tkR; rw [if_pos ⟨rfl, h1⟩]
      have e2 : tkE ys 0 1 = 0 := by unfold tkE; rw [if_pos rfl, if_pos h1]
      rw [e1, e2]
      by_cases h2 : 16 ≤ (ys.drop 1).length
      · have e3 : tkR (ys.drop 1) 0 16 = (ys.drop 1).drop 16 := by unfold tkR; rw [if_pos ⟨rfl, h2⟩]
        have e4 : tkE (ys.drop 1) 0 16 = 0 := by unfold tkE; rw [if_pos rfl, if_pos h2]
        rw [e3, e4]
        rw [List.length_drop] at h2
        rw [if_neg (by omega)]
        unfold endE
        rw [List.length_drop, List.length_drop]
        by_cases h3 : 17 < ys.length
        · rw [if_pos h3, if_pos ⟨rfl, by omega⟩]
        · rw [if_neg h3, if_neg (fun h => by omega)]
      · have e4 : tkE (ys.drop 1) 0 16 = 4 := by unfold tkE; rw [if_pos rfl, if_neg h2]
        rw [e4]
        rw [List.length_drop] at h2
        rw [if_pos (by omega)]
        unfold endE
        rw [if_neg (fun h => by omega)]
    · have e2 : tkE ys 0 1 = 4 := by unfold tkE; rw [if_pos rfl, if_neg h1]
      rw [e2, if_pos (by omega)]
      have e4 : ∀ zs, tkE zs 4 16 = 4 := fun zs => by unfold tkE; rw [if_neg (by decide)]
      rw [e4]
      unfold endE
      rw [if_neg (fun h => by omega)]
  · rw [if_pos h0]
    have e2 : tkE ys e0 1 = e0 := by unfold tkE; rw [if_neg h0]
    rw [e2]
    have e4 : ∀ zs, tkE zs e0 16 = e0 := fun zs => by unfold tkE; rw [if_neg h0]
    rw [e4]
    unfold endE
    rw [if_neg (fun h => h0 h.1)]
theorem pp_val {ys : List Nat} (h : ys.length = 17) : numV (tkB ys 0 1) = ys.getD 0 0 ∧ tkB (tkR ys 0 1) (tkE ys 0 1) 16 = ys.drop 1 := by
  have e1 : tkR ys 0 1 = ys.drop 1 := by unfold tkR; rw [if_pos ⟨rfl, by omega⟩]
  have e2 : tkE ys 0 1 = 0 := by unfold tkE; rw [if_pos rfl, if_pos (by omega)]
  rw [e1, e2]
  have hl : (ys.drop 1).length = 16 := by rw [List.length_drop]; omega
  refine ⟨?_, ?_⟩
  · unfold tkB
    rw [if_pos ⟨rfl, by omega⟩]
    match ys, h with
    | a :: _, _ => simp [numV]
  · unfold tkB
    rw [if_pos ⟨rfl, by omega⟩, List.take_of_length_le (by omega)]
end Go.Lin
namespace Go.Proofs.YtdnnjgjaffkdfaaDoor
open Go Go.RowKit Go.Bul Go.Thg Go.Lin
section
variable {w : World} {ops : Array Oper} {rest : List Oper} {o : Oper} {a : Act} {Q : Exit → Act → World → Prop} {dst : Option Tmp} {type : TypeId} {pos : String} {after : Array Edge} {x : Operand}
theorem at_s2a {t : TypeId} (h : wpList Tryd.prog ops Q (⟨dst, .sliceToArrayPointer t x, type, pos, after, none⟩ :: rest) a w) : wpList Tryd.prog ops Q (⟨dst, .sliceToArrayPointer t x, type, pos, after, none⟩ :: rest) a w := h
theorem run_s2a {A : Option Addr} {c : Nat} (w : World) : (Instr.arrayAt 22 (.slice A 16 c)).run Tryd.prog w = .ok (.pointer A) w := by
  unfold Instr.arrayAt
  simp [run_underlying Tryd.underlying22, Result.andThen]
theorem ls2 {A : Option Addr} {c : Nat} (h : wpList Tryd.prog ops Q rest (a.put o.dst (.pointer A)) w) (hgd : o.guard = none := by rfl) (ho : o.op = .sliceToArrayPointer 22 x := by rfl) (hx : a.eval x = .slice A 16 c := by rfl) : wpList Tryd.prog ops Q (o :: rest) a w :=
  wpList_plain hgd fun K hK => by
    unfold Oper.wp execOp
    simp only [ho, hx, Sem.run_bind, Sem.run_pure, Result.andThen_ok, run_s2a]
    exact hK _ _ h
end
theorem nd_rd {w : World} {B : Option Addr} {n : Nat} {r : Nd} (hr : Reads w 1 B n (vals .u8 r.val)) (hn : n = 16) : ∃ g o, B = some ⟨g, o, none⟩ ∧ ∀ (j : Nat) (u : Value), (ndC r)[j]? = some u → w.cell? ⟨g, o + j, none⟩ = some u := by
  obtain ⟨g, o, rfl, _, h⟩ := hr.2 (by omega)
  exact ⟨g, o, rfl, fun j u hu => h j u (by simpa [cellsOf] using hu)⟩
set_option maxRecDepth 20000 in
set_option maxHeartbeats 2000000 in
theorem ppub_any (s : ByteArray) (w : World) (hs : s.size ≤ 90000) (hA : Alp w) :
    Calls Tryd.prog 40 #[.string s] w fun e w' => ∃ h r er, e = .returned (.tuple #[.agg (pubC h r), .int .i64 (er : Nat)]) ∧ PP (decB (nums s)) (decE (nums s)) h r er ∧ Below w.heap.size w w' := by
  have hM := Mem.start [] w
  have HR := Lib.hid (fun w' (hb : Below w.heap.size w w') => read_any s w' hs (hA.keep hb))
  have hBy := decB_bytes (bytes_of_nums s)
  generalize decB (nums s) = ys at HR hBy ⊢
  generalize decE (nums s) = e0 at HR ⊢
  have hpe := pp_end ys e0
  have hpv := pp_val (ys := ys)
  have hB1 := tkR_bytes hBy e0 1
  obtain ⟨hn, hhn⟩ : ∃ z, numV (tkB ys e0 1) = z := ⟨_, rfl⟩
  obtain ⟨rr, hrr⟩ : ∃ z : Nd, z.val = tkB (tkR ys e0 1) (tkE ys e0 1) 16 := ⟨⟨_, tkB_length _ _ _, tkB_bytes hB1 _ _⟩, rfl⟩
  have HNU := Lib.hid (fun (L : List Ent) (R : List Thing) (g : Nat) (A : Option Addr) (N C : Nat) (w1 : World) (hM : Mem [] w (⟨g, 158, 2, rdC (.slice A N C) e0⟩ :: L) (bT (.slice A N C) ys :: R) w1) => number_any A N C ys e0 1 hM hBy (by decide) (by decide))
  rw [hhn] at HNU
  have HTK := Lib.hid (fun (L : List Ent) (R : List Thing) (g : Nat) (A : Option Addr) (N C : Nat) (w1 : World) (hM : Mem [] w (⟨g, 158, 2, rdC (.slice A N C) (tkE ys e0 1)⟩ :: L) (bT (.slice A N C) (tkR ys e0 1) :: R) w1) => take_any A N C (tkR ys e0 1) (tkE ys e0 1) 16 hM (by decide) (by decide))
  rw [← hrr] at HTK
  generalize tkR (tkR ys e0 1) (tkE ys e0 1) 16 = y2 at HTK hpe
  generalize tkE (tkR ys e0 1) (tkE ys e0 1) 16 = e2 at HTK hpe
  have HEN := Lib.hid (fun (L : List Ent) (R : List Thing) (g : Nat) (A : Option Addr) (N C : Nat) (w1 : World) (hM : Mem [] w (⟨g, 158, 2, rdC (.slice A N C) e2⟩ :: L) (bT (.slice A N C) y2 :: R) w1) => end_any A N C y2 e2 hM)
  generalize endE y2 e2 = e3 at HEN hpe
  have HCH := Lib.hid (fun w => pcheck_any (hn : Nat) rr w)
  have hP : ∃ (hf : Int) (rf : Nd) (ef : Nat), PP ys e0 hf rf ef ∧ ((e3 ≠ 0 ∧ hf = 0 ∧ rf = nd0 ∧ ef = e3) ∨ (e3 = 0 ∧ hE (hn : Nat) = 2 ∧ hf = 0 ∧ rf = nd0 ∧ ef = 2) ∨ (e3 = 0 ∧ hE (hn : Nat) = 0 ∧ hf = hn ∧ rf = rr ∧ ef = 0)) := by
    by_cases h3 : e3 = 0
    · by_cases h0 : e0 = 0
      · subst h0
        rw [if_neg (by simp)] at hpe
        by_cases h17 : ys.length = 17
        · obtain ⟨v1, v2⟩ := hpv h17
          have e1 : hn = ys.getD 0 0 := by rw [← hhn, v1]
          have e2 : rr.val = ys.drop 1 := by rw [hrr, v2]
          by_cases h8 : 1 ≤ hn ∧ hn ≤ 8
          · refine ⟨hn, rr, 0, ⟨?_, fun h => absurd rfl h, fun _ => ⟨by rw [e1], e2⟩⟩, .inr (.inr ⟨h3, ?_, rfl, rfl, rfl⟩)⟩
            · unfold ppE
              rw [if_neg (by simp), if_neg (by omega), if_neg (by omega), ← e1, if_pos h8]
            · unfold hE
              rw [if_pos (by omega)]
          · refine ⟨0, nd0, 2, ⟨?_, fun _ => ⟨rfl, rfl⟩, fun h => absurd h (by decide)⟩, .inr (.inl ⟨h3, ?_, rfl, rfl, rfl⟩)⟩
            · unfold ppE
              rw [if_neg (by simp), if_neg (by omega), if_neg (by omega), ← e1, if_neg h8]
            · unfold hE
              rw [if_neg (by omega)]
        · exfalso
          by_cases h4 : ys.length < 17
          · rw [if_pos h4] at hpe; omega
          · rw [if_neg h4, if_pos (by omega)] at hpe; omega
      · rw [if_pos h0] at hpe
        omega
    · refine ⟨0, nd0, e3, ⟨?_, fun _ => ⟨rfl, rfl⟩, fun h => absurd h h3⟩, .inl ⟨h3, rfl, rfl, rfl⟩⟩
      unfold ppE
      by_cases h0 : e0 = 0
      · rw [if_neg (by omega)]
        rw [if_neg (by omega)] at hpe
        by_cases h4 : ys.length < 17
        · rw [if_pos h4] at hpe ⊢; exact hpe
        · rw [if_neg h4] at hpe ⊢
          by_cases h5 : 17 < ys.length
          · rw [if_pos h5] at hpe ⊢; exact hpe
          · rw [if_neg h5] at hpe; omega
      · rw [if_pos h0] at hpe ⊢
        exact hpe
  obtain ⟨hf, rf, ef, hPP, hcase⟩ := hP
  replace hPP := Lib.hid hPP
  clear hpe hpv hB1 hhn hrr hBy hs hA
  rcases hcase with ⟨c1, rfl, rfl, rfl⟩ | ⟨rfl, c2, rfl, rfl, rfl⟩ | ⟨rfl, c2, rfl, rfl, rfl⟩
  · have r1 : ((ef : Int) != 0) = true := by simp; omega
    have r2 : ¬ ((ef : Int) = 0) := by omega
    clear c1
    go_enter Tryd.func40, Tryd.ntmps40
    go_wp2_with (first | ((with_reducible refine at_alloc ?_); refine slz hM ?_ (hz := zero_pub); clear hM; intro g2 w1 hM))
    refine (HR.out _ hM.below).mono ?_
    rintro ex w2 ⟨gr, A, N, C, rfl, hF⟩
    replace hM := hM.frame hF
    simp only [List.cons_append, List.nil_append] at hM
    clear hF HR
    go_wp2_with fail
    refine (HNU.out _ _ _ _ _ _ _ hM).mono ?_
    clear hM HNU
    rintro ex w3 ⟨A1, N1, C1, rfl, hM⟩
    go_wp2_with fail
    refine (HTK.out _ _ _ _ _ _ _ hM).mono ?_
    clear hM HTK
    rintro ex w4 ⟨B, c', A2, N2, C2, rfl, hr, hM⟩
    obtain ⟨sg, so, rfl, hX⟩ := nd_rd hr rfl
    replace hX := Lib.hid hX
    clear hr
    go_wp2_with (first | ((with_reducible refine at_s2a ?_); refine ls2 ?_) | ((with_reducible refine at_load ?_); refine lr hX.out ?_ (hty := row_a16)) | ((with_reducible refine at_build ?_); refine lbpub ?_) | ((with_reducible refine at_alloc ?_); refine slz hM ?_ (hz := zero_pub); clear hM; intro g5 w5 hM) | ((with_reducible refine at_store ?_); refine slw hM ?_ (hs := pubC_size _ _) (h1 := pubC_one _ _) (hty := row_pub); clear hM; intro wx hM))
    replace hM := hM.permL (List.Perm.swap _ _ _)
    refine (HEN.out _ _ _ _ _ _ _ hM).mono ?_
    clear hM HEN
    rintro ex w7 ⟨rfl, hM⟩
    go_wp2_with (first | ((with_reducible refine at_load ?_); refine sll hM ?_ (hty := row_pub)) | ((with_reducible refine (HCH.out _).mono ?_); rintro e w1 ⟨rfl, hb⟩; replace hM := hM.step hb; clear hb) | ((with_reducible refine at_build ?_); refine lbpub0 ?_) | ((with_reducible refine at_store ?_); refine slw hM ?_ (hs := pubC_size _ _) (h1 := pubC_one _ _) (hty := row_pub); clear hM; intro wx hM))
    exact bodyPost_ret (results_mem_cell_tmp hM rfl (by rfl) (by repeat (first | exact List.Mem.head _ | apply List.Mem.tail)) row_pub (by rfl)) rfl ⟨_, _, _, rfl, hPP.out, hM.below⟩
  · rw [c2] at HCH
    clear c2
    go_enter Tryd.func40, Tryd.ntmps40
    go_wp2_with (first | ((with_reducible refine at_alloc ?_); refine slz hM ?_ (hz := zero_pub); clear hM; intro g2 w1 hM))
    refine (HR.out _ hM.below).mono ?_
    rintro ex w2 ⟨gr, A, N, C, rfl, hF⟩
    replace hM := hM.frame hF
    simp only [List.cons_append, List.nil_append] at hM
    clear hF HR
    go_wp2_with fail
    refine (HNU.out _ _ _ _ _ _ _ hM).mono ?_
    clear hM HNU
    rintro ex w3 ⟨A1, N1, C1, rfl, hM⟩
    go_wp2_with fail
    refine (HTK.out _ _ _ _ _ _ _ hM).mono ?_
    clear hM HTK
    rintro ex w4 ⟨B, c', A2, N2, C2, rfl, hr, hM⟩
    obtain ⟨sg, so, rfl, hX⟩ := nd_rd hr rfl
    replace hX := Lib.hid hX
    clear hr
    go_wp2_with (first | ((with_reducible refine at_s2a ?_); refine ls2 ?_) | ((with_reducible refine at_load ?_); refine lr hX.out ?_ (hty := row_a16)) | ((with_reducible refine at_build ?_); refine lbpub ?_) | ((with_reducible refine at_alloc ?_); refine slz hM ?_ (hz := zero_pub); clear hM; intro g5 w5 hM) | ((with_reducible refine at_store ?_); refine slw hM ?_ (hs := pubC_size _ _) (h1 := pubC_one _ _) (hty := row_pub); clear hM; intro wx hM))
    replace hM := hM.permL (List.Perm.swap _ _ _)
    refine (HEN.out _ _ _ _ _ _ _ hM).mono ?_
    clear hM HEN
    rintro ex w7 ⟨rfl, hM⟩
    go_wp2_with (first | ((with_reducible refine at_load ?_); refine sll hM ?_ (hty := row_pub)) | ((with_reducible refine (HCH.out _).mono ?_); rintro e w1 ⟨rfl, hb⟩; replace hM := hM.step hb; clear hb) | ((with_reducible refine at_build ?_); refine lbpub0 ?_) | ((with_reducible refine at_store ?_); refine slw hM ?_ (hs := pubC_size _ _) (h1 := pubC_one _ _) (hty := row_pub); clear hM; intro wx hM))
    exact bodyPost_ret (results_mem_cell_tmp hM rfl (by rfl) (by repeat (first | exact List.Mem.head _ | apply List.Mem.tail)) row_pub (by rfl)) rfl ⟨_, _, _, rfl, hPP.out, hM.below⟩
  · rw [c2] at HCH
    clear c2
    go_enter Tryd.func40, Tryd.ntmps40
    go_wp2_with (first | ((with_reducible refine at_alloc ?_); refine slz hM ?_ (hz := zero_pub); clear hM; intro g2 w1 hM))
    refine (HR.out _ hM.below).mono ?_
    rintro ex w2 ⟨gr, A, N, C, rfl, hF⟩
    replace hM := hM.frame hF
    simp only [List.cons_append, List.nil_append] at hM
    clear hF HR
    go_wp2_with fail
    refine (HNU.out _ _ _ _ _ _ _ hM).mono ?_
    clear hM HNU
    rintro ex w3 ⟨A1, N1, C1, rfl, hM⟩
    go_wp2_with fail
    refine (HTK.out _ _ _ _ _ _ _ hM).mono ?_
    clear hM HTK
    rintro ex w4 ⟨B, c', A2, N2, C2, rfl, hr, hM⟩
    obtain ⟨sg, so, rfl, hX⟩ := nd_rd hr rfl
    replace hX := Lib.hid hX
    clear hr
    go_wp2_with (first | ((with_reducible refine at_s2a ?_); refine ls2 ?_) | ((with_reducible refine at_load ?_); refine lr hX.out ?_ (hty := row_a16)) | ((with_reducible refine at_build ?_); refine lbpub ?_) | ((with_reducible refine at_alloc ?_); refine slz hM ?_ (hz := zero_pub); clear hM; intro g5 w5 hM) | ((with_reducible refine at_store ?_); refine slw hM ?_ (hs := pubC_size _ _) (h1 := pubC_one _ _) (hty := row_pub); clear hM; intro wx hM))
    replace hM := hM.permL (List.Perm.swap _ _ _)
    refine (HEN.out _ _ _ _ _ _ _ hM).mono ?_
    clear hM HEN
    rintro ex w7 ⟨rfl, hM⟩
    go_wp2_with (first | ((with_reducible refine at_load ?_); refine sll hM ?_ (hty := row_pub)) | ((with_reducible refine (HCH.out _).mono ?_); rintro e w1 ⟨rfl, hb⟩; replace hM := hM.step hb; clear hb) | ((with_reducible refine at_build ?_); refine lbpub0 ?_) | ((with_reducible refine at_store ?_); refine slw hM ?_ (hs := pubC_size _ _) (h1 := pubC_one _ _) (hty := row_pub); clear hM; intro wx hM))
    exact bodyPost_ret (results_mem_cell_tmp hM rfl (by rfl) (by repeat (first | exact List.Mem.head _ | apply List.Mem.tail)) row_pub (by rfl)) rfl ⟨_, _, _, rfl, hPP.out, hM.below⟩
end Go.Proofs.YtdnnjgjaffkdfaaDoor
