/- Contracts of leaves, publicOf, Public of a secret key. Structures that are built; contracts of leaves, publicOf, Public of a secret key, bytes, Of. -/
import Derived.Test.YtbbdnlcjjcmllaaDoorVn
import Derived.Test.YtbbdnlcjjcmllaaDoorVt
import Derived.Test.YtbbdnlcjjcmllaaDoorXq
namespace Go.Lin
open Go Go.Bul
def compN (leaf : Nat) (E : List Nat) : Nd := ⟨comp leaf E, half_length _, bytes_half _⟩
/-- The public value of a leaf of a key; its node; the nodes of the leaves. -/
def pvN (s : Sd) (k : Nat) : Nd := compN k (valuesV s.val k fun _ => 15)
def lfN (s : Sd) (k : Nat) : Nd := leafN (k : Int) (pvN s k).val
def lvsN (s : Sd) (m : Nat) : List Nd := (List.range m).map (lfN s)
theorem lvsN_succ (s : Sd) (m : Nat) : lvsN s (m + 1) = lvsN s m ++ [lfN s m] := by simp [lvsN, List.range_succ]
theorem lvsN_length (s : Sd) (m : Nat) : (lvsN s m).length = m := by simp [lvsN]
end Go.Lin
namespace Go.Proofs.YtbbdnlcjjcmllaaDoor
open Go Go.RowKit Go.Bul Go.Thg Go.Lin
theorem nd_reads {w w0 : World} {G : List Nat} {L : List Ent} {R : List Thing} {g : Nat} {t : TypeId} {y : Nd} (hM : Mem G w0 L R w) (hL : ⟨g, t, 16, ndC y⟩ ∈ L) : Reads w 1 (some ⟨g, 0, none⟩) 16 (vals .u8 y.val) := by
  have h := reads_ent hM hL
  rw [cells_list] at h
  exact h
/-- A secret key in a block, read only: its seed. -/
theorem seed_cells {w : World} {g : Nat} {t : TypeId} {s : Sd} {h : Int} (hB : Blk w g t (secC s h)) : ∀ j u, (cellsOf .u8 s.val)[j]? = some u → w.cell? ⟨g, 0 + j, none⟩ = some u := by
  intro j u hu
  rw [Nat.zero_add, hB.cell]
  have hj : j < (vals .u8 s.val).length := by simpa [cellsOf] using (Array.getElem?_eq_some_iff.1 hu).1
  simp only [secC, List.getElem?_toArray]
  rw [List.getElem?_append_left hj]
  simpa [cellsOf] using hu
set_option maxRecDepth 20000 in
set_option maxHeartbeats 1000000 in
theorem lfstep_any (w : World) (g1 : Nat) (t1 : TypeId) (s : Sd) (h : Int) (k : Nat) (hB : Blk w g1 t1 (secC s h)) (hk : k ≤ 65535) (hT : Tab w) :
    Calls Tryd.prog 46 #[.int .i64 (k : Nat), .pointer (some ⟨g1, 0, none⟩)] w fun e w' => e = .returned (.agg (ndC (lfN s k))) ∧ Below w.heap.size w w' := by
  have hM := Mem.start [] w
  have HX := Lib.hid (fun w' (hb : Below w.heap.size w w') => seed_cells (hB.kept hb))
  have HP := Lib.hid (fun w' (hb : Below w.heap.size w w') => Once.public_yes s.val k (k : Nat) w' s.len s.byt hk rfl (hT.keep hb))
  have HF := Lib.hid (fun A n c w' (hr : Reads w' 1 A n (vals .u8 (pvN s k).val)) (hn : n ≤ 1000) (hb : Below w.heap.size w w') => leaf_any (k : Nat) A n c (pvN s k).val w' hr (pvN s k).byt hn (hT.keep hb))
  have HSL := Lib.hid s.len
  change Hid (∀ w' (hb : Below w.heap.size w w'), Calls _ _ #[.agg (cellsOf .u8 s.val), .int .i64 (k : Nat)] w' fun e w'' => e = .returned (.tuple #[.agg (ndC (pvN s k)), .int .i64 0]) ∧ _) at HP
  unfold lfN
  generalize leafN (k : Int) (pvN s k).val = Z at HF ⊢
  generalize pvN s k = Y at HP HF
  clear hB hT hk
  go_enter Tryd.func46, Tryd.ntmps46
  go_wp2_with (first | ((with_reducible refine (HP.out _ hM.below).mono ?_); rintro e w1 ⟨rfl, hb⟩; replace hM := hM.step hb; clear hb) | ((with_reducible refine at_load ?_); refine lr (HX.out _ hM.below) ?_ (hty := row_a32) (hs := by rw [cellsOf_size, HSL.out])) | ((first | with_reducible refine at_load ?_ | ((with_reducible refine at_load_g ?_ ?_); (· rfl))); first | refine sll hM ?_ | refine slc hM ?_ | refine slp hM ?_) | ((with_reducible refine at_store ?_); first | (refine slw hM ?_; clear hM; intro wx hM) | (refine sls hM ?_; clear hM; intro wx hM) | (refine slt hM ?_; clear hM; intro wx hM)) | ((with_reducible refine at_alloc ?_); refine slz hM ?_; clear hM; intro gx wx hM) | ((with_reducible refine at_box ?_); refine slb hM ?_; clear hM; intro gx wx hM))
  refine (HF.out _ _ _ _ (nd_reads hM (List.Mem.head _)) (by decide) hM.below).mono ?_
  rintro e w1 ⟨rfl, hb⟩
  replace hM := hM.step hb
  clear hb
  go_wp2_with (first | ((first | with_reducible refine at_load ?_ | ((with_reducible refine at_load_g ?_ ?_); (· rfl))); first | refine sll hM ?_ | refine slc hM ?_ | refine slp hM ?_) | ((with_reducible refine at_store ?_); first | (refine slw hM ?_; clear hM; intro wx hM) | (refine sls hM ?_; clear hM; intro wx hM) | (refine slt hM ?_; clear hM; intro wx hM)) | ((with_reducible refine at_alloc ?_); refine slz hM ?_; clear hM; intro gx wx hM) | ((with_reducible refine at_box ?_); refine slb hM ?_; clear hM; intro gx wx hM))
  exact bodyPost_ret (results_mem_cell hM rfl (by rfl) (by repeat (first | exact List.Mem.head _ | apply List.Mem.tail)) row_nd) rfl ⟨rfl, hM.below⟩
set_option maxRecDepth 20000 in
set_option maxHeartbeats 1000000 in
theorem collect_any (w : World) (g1 : Nat) (t1 : TypeId) (s : Sd) (h : Nat) (z : Int) (hB : Blk w g1 t1 (secC s z)) (hh : h ≤ 8) (hT : Tab w) :
    Calls Tryd.prog 45 #[.int .i64 (h : Nat), .func (.func 46) #[] #[.pointer (some ⟨g1, 0, none⟩)]] w fun e w' => ∃ A c, e = .returned (.slice A (2 ^ h) c) ∧ Becomes [] w (ndT (.slice A (2 ^ h) c) (lvsN s (2 ^ h))) w' := by
  have hM := Mem.start [] w
  have hp : 2 ^ h ≤ 2 ^ 8 := Nat.pow_le_pow_right (by decide) hh
  have hp2 : (2 : Int) ^ h = ((2 ^ h : Nat) : Int) := by simp
  have c4 : wrap64 ((2 : Int) ^ h) = ((2 ^ h : Nat) : Int) := by rw [hp2]; have := Int.natCast_nonneg (2 ^ h); unfold wrap64; omega
  have HS := Lib.hid (fun (k : Nat) (hk : k < 2 ^ h) w' (hb : Below w.heap.size w w') => lfstep_any w' g1 t1 s z k (hB.kept hb) (by omega) (hT.keep hb))
  have h0 : (0 : Int) ≤ (h : Int) := Int.natCast_nonneg _
  have h1 : (h : Int) ≤ 8 := by omega
  clear hB hT hh hp2
  generalize 2 ^ h = N at hp c4 HS ⊢
  go_enter Tryd.func45, Tryd.ntmps45
  go_wp2_with fail
  simp only [c4]
  have M0 := Lib.hid (hM.newThing (nbecomes_zero none (KeptBut.refl _ _)))
  clear hM
  go_loopw [9, 5] (fun i p wr => ∃ (k : Nat) (E : Option Addr) (e2 : Nat), k ≤ N ∧ i = .int .i64 (k : Nat) ∧ p = .slice E k e2 ∧ Mem [] w [] [ndT (.slice E k e2) (lvsN s k)] wr) (fun i _ _ => N - (intOf i).toNat)
  case atStart => exact ⟨0, none, 0, by omega, rfl, rfl, M0.out⟩
  case round =>
    clear M0
    obtain ⟨k, E, e2, hk, rfl, rfl, hM⟩ := hrel
    by_cases hlt : k < N
    · have HSK := Lib.hid (HS.out k hlt)
      have hs := lvsN_succ s k
      have hl := lvsN_length s k
      generalize lfN s k = Z at HSK hs
      generalize lvsN s k = cur at hs hl hM
      have h63 : cur.length + [Z].length ≤ 1000000000 := by simp; omega
      have HSS := Lib.hid hs
      have HL := Lib.hid hl
      have q0 : (0 : Int) ≤ (k : Int) := Int.natCast_nonneg _
      have q1 : (k : Int) < (N : Int) := by omega
      clear hs hl
      go_wp2_with (first | ((with_reducible refine (HSK.out _ hM.below).mono ?_); rintro e w1 ⟨rfl, hb⟩; replace hM := hM.step hb; clear hb) | (refine lbn1 hM ?_; clear hM; intro g1 w5 hM) | ((with_reducible refine at_append ?_); refine lan (src_nd1 hM (List.Mem.head _)) hM h63 ?_; clear hM; intro A2 N2 c2 wx hN2 hM))
      obtain rfl : N2 = k + 1 := by have := hN2.out; have := HL.out; simp at *; omega
      exact ⟨⟨k + 1, A2, c2, by omega, by go_num, rfl, by rw [HSS.out]; exact hM.subL (List.sublist_cons_self _ _)⟩, by simp [intOf]; omega⟩
    · obtain rfl : k = N := by omega
      clear hlt hk
      go_wp2_with fail
      go_ret
      exact ⟨E, e2, rfl, hM.becomes (by exact List.Mem.head _)⟩
end Go.Proofs.YtbbdnlcjjcmllaaDoor
namespace Go.Bul
open Go Go.RowKit Go.Thg
theorem fold_set (off : Nat) : ∀ (vs : List Value) (j : Nat) (cs : Array Value), off + j + vs.length ≤ cs.size →
    ((vs.zipIdx j).foldl (fun cs (p : Value × Nat) => cs.setIfInBounds (off + p.2) p.1) cs).toList = cs.toList.take (off + j) ++ (vs ++ cs.toList.drop (off + j + vs.length))
  | [], j, cs, _ => by simp
  | v :: vs, j, cs, h => by
    simp only [List.length_cons] at h
    have ih := fold_set off vs (j + 1) (cs.setIfInBounds (off + j) v) (by simp; omega)
    simp only [List.zipIdx_cons, List.foldl_cons]
    rw [ih]
    simp only [Array.toList_setIfInBounds, List.length_cons]
    have hlt : off + j < cs.toList.length := by simp; omega
    rw [show off + (j + 1) = (off + j) + 1 by omega, List.take_succ_eq_append_getElem (by simpa using hlt), List.getElem_set_self, List.take_set_of_le (Nat.le_refl _), List.drop_set_of_lt (by omega)]
    simp only [List.append_assoc, List.cons_append, List.nil_append]
    congr 4
    omega
theorem fill_cons {place : Nat → Option (Nat × Nat)} {cells : Array Value} {i off size : Nat} {v : Value} {rest : List (Nat × Value)} (hp : place i = some (off, size)) (hs : v.cells.size = size) (hb : off + size ≤ cells.size) :
    Instr.fill place cells ((i, v) :: rest) = Instr.fill place (splice cells.toList off v.cells.toList).toArray rest := by
  have hcond : (decide (v.cells.size ≠ size) || decide (off + v.cells.size > cells.size)) = false := by simp; omega
  simp only [Instr.fill, hp, hcond, Bool.false_eq_true, if_false]
  congr 1
  apply Array.ext'
  have := fold_set off v.cells.toList 0 cells (by simp; omega)
  simp only [Nat.add_zero] at this
  rw [← Array.foldl_toList, Array.toList_zipIdx]
  exact this
theorem run_build_struct {P : Program} {ty : TypeId} {fields : Array Field} {z : Value} (hu : P.underlying ty = some (.struct fields)) (hz : (P.info? ty).map (·.zero) = some (some z)) {places : Array (Nat × Nat)}
    (hp : ∀ w, (fields.mapM fun f => do pure (f.offset, ← sizeOf f.type) : Sem (Array (Nat × Nat))).run P w = .ok places w) {parts : Array (Nat × Value)} {cs : Array Value} (hf : Instr.fill (places[·]?) z.cells parts.toList = some cs) (w : World) :
    (Instr.build ty parts).run P w = .ok (.agg cs) w := by
  cases hq : P.info? ty with
  | none => simp [hq] at hz
  | some i =>
    have hz' : i.zero = some z := by simpa [hq] using hz
    have hzr : (zeroValue ty).run P w = .ok z w := by simp [zeroValue, typeInfo, hq, hz']
    simp only [Instr.build, Sem.run_bind, hzr, run_underlying hu, Result.andThen_ok, hp, hf, Sem.run_pure]
theorem splice_mid (hd : Value) (A B X : List Value) (hX : X.length = A.length) : splice (hd :: (A ++ B)) 1 X = hd :: (X ++ B) := by
  unfold splice
  rw [hX]
  show [hd] ++ (X ++ (hd :: (A ++ B)).drop (1 + A.length)) = _
  rw [Nat.add_comm, List.drop_succ_cons, List.drop_left]
  rfl
end Go.Bul
namespace Go.Proofs.YtbbdnlcjjcmllaaDoor
open Go Go.RowKit Go.Bul Go.Thg Go.Lin
theorem run_pub (h : Int) (r : Nd) (w : World) : (Instr.build 30 #[(0, .int .i64 h), (1, .agg (ndC r))]).run Tryd.prog w = .ok (.agg (pubC h r)) w := by
  refine run_build_struct (places := #[(0, 1), (1, 16)]) (show Tryd.prog.underlying 30 = some (.struct (Tryd.prog.fieldsOf 30)) by kernel_rfl) (show (Tryd.prog.info? 30).map (·.zero) = some (some (.agg (pubC 0 nd0))) by kernel_rfl) (fun w => by kernel_rfl) ?_ w
  have e0 := nd_len nd0
  have e1 := nd_len r
  show Instr.fill _ (pubC 0 nd0) [(0, .int .i64 h), (1, .agg (ndC r))] = _
  rw [fill_cons (size := 1) rfl rfl (by rw [pubC_size]; omega)]
  have e2 : (splice (pubC 0 nd0).toList 0 (Value.cells (.int .i64 h)).toList).toArray = pubC h nd0 := rfl
  rw [e2, fill_cons (size := 16) rfl (by exact ndC_size _) (by rw [pubC_size]; omega)]
  have e3 : (splice (pubC h nd0).toList 1 (Value.cells (.agg (ndC r))).toList).toArray = pubC h r := by
    have h := splice_mid (.int .i64 h) (vals .u8 nd0.val) [] (vals .u8 r.val) (by omega)
    rw [List.append_nil, List.append_nil] at h
    exact congrArg List.toArray h
  rw [e3]
  rfl
section
variable {w : World} {ops : Array Oper} {rest : List Oper} {o : Oper} {a : Act} {Q : Exit → Act → World → Prop} {x0 x1 : Operand} {h : Int} {r : Nd}
theorem lbpub (hk : wpList Tryd.prog ops Q rest (a.put o.dst (.agg (pubC h r))) w) (hgd : o.guard = none := by rfl) (ho : o.op = .build 30 #[(0, x0), (1, x1)] := by rfl) (h0 : a.eval x0 = .int .i64 h := by rfl) (hx : a.eval x1 = .agg (ndC r) := by rfl) : wpList Tryd.prog ops Q (o :: rest) a w :=
  wpList_build_run hgd _ _ ho _ (by simp only [List.map_toArray, List.map_cons, List.map_nil, h0, hx]) _ (run_pub h r w) hk
end
set_option maxRecDepth 20000 in
set_option maxHeartbeats 1000000 in
theorem leaves_any (s : Sd) (h : Nat) (w : World) (hh : h ≤ 8) (hT : Tab w) :
    Calls Tryd.prog 23 #[.agg (secC s (h : Nat))] w fun e w' => ∃ A c, e = .returned (.slice A (2 ^ h) c) ∧ Becomes [] w (ndT (.slice A (2 ^ h) c) (lvsN s (2 ^ h))) w' := by
  have hM := Mem.start [] w
  have HS := Lib.hid (secC_size s (h : Nat))
  have HH := Lib.hid (secC_h s (h : Nat))
  have HC := Lib.hid (fun w' (g1 : Nat) (t1 : TypeId) (hB : Blk w' g1 t1 (secC s (h : Nat))) (hb : Below w.heap.size w w') => collect_any w' g1 t1 s h (h : Nat) hB hh (hT.keep hb))
  generalize secC s (h : Nat) = X at HS HH HC ⊢
  generalize 2 ^ h = N at HC ⊢
  generalize lvsN s N = LV at HC ⊢
  clear hh hT
  go_enter Tryd.func23, Tryd.ntmps23
  go_wp2_with (first | ((with_reducible refine at_box ?_); refine slb hM ?_ (hty := row_sec) (hn := HS.out); clear hM; intro g1 w1 hM) | ((with_reducible refine at_load ?_); refine slc hM ?_ (hv := HH.out)) | ((with_reducible refine (HC.out _ _ _ (hM.blk (List.Mem.head _)) hM.below).mono ?_); rintro e w1 ⟨A, c, rfl, hb⟩; replace hM := hM.newThing hb; clear hb))
  go_ret
  exact ⟨A, c, rfl, hM.becomes (by exact List.Mem.head _)⟩
set_option maxRecDepth 20000 in
set_option maxHeartbeats 1000000 in
theorem pubof_any (h : Int) (A : Option Addr) (n c : Nat) (leaves : List Nd) (w : World) (hr : NIn w A n leaves) (hn : n ≤ 2000) (hc : chkE n = 0) (hT : Tab w) :
    Calls Tryd.prog 22 #[.int .i64 h, .slice A n c] w fun e w' => e = .returned (.tuple #[.agg (pubC h (rootN leaves)), .int .i64 0]) ∧ Below w.heap.size w w' := by
  have hM := Mem.start [] w
  have HR := Lib.hid (fun w' (hb : Below w.heap.size w w') => root_any A n c leaves w' (hr.keep hb) hn (hT.keep hb))
  rw [hc] at HR
  generalize rootN leaves = Z at HR ⊢
  clear hr hn hc hT
  go_enter Tryd.func22, Tryd.ntmps22
  go_wp2_with (first | ((with_reducible refine (HR.out _ hM.below).mono ?_); rintro e w1 ⟨rfl, hb⟩; replace hM := hM.step hb; clear hb) | ((with_reducible refine at_build ?_); refine lbpub ?_) | ((first | with_reducible refine at_load ?_ | ((with_reducible refine at_load_g ?_ ?_); (· rfl))); first | refine sll hM ?_ | refine slc hM ?_ | refine slp hM ?_) | ((with_reducible refine at_store ?_); first | (refine slw hM ?_; clear hM; intro wx hM) | (refine sls hM ?_; clear hM; intro wx hM) | (refine slt hM ?_; clear hM; intro wx hM)) | ((with_reducible refine at_alloc ?_); refine slz hM ?_; clear hM; intro gx wx hM) | ((with_reducible refine at_box ?_); refine slb hM ?_; clear hM; intro gx wx hM))
  exact bodyPost_ret (results_mem_cell_tmp hM rfl (by rfl) (by repeat (first | exact List.Mem.head _ | apply List.Mem.tail)) row_pub (by rfl)) rfl ⟨rfl, hM.below⟩
end Go.Proofs.YtbbdnlcjjcmllaaDoor
