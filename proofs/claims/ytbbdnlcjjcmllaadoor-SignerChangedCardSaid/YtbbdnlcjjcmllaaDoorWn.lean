/- Contract of sign of a secret key. Contracts of nodes, public, Root, Verify of signatures. -/
import Derived.Test.YtbbdnlcjjcmllaaDoorVv
namespace Go.Proofs.YtbbdnlcjjcmllaaDoor
open Go Go.RowKit Go.Bul Go.Thg Go.Lin
def sgCh (s : Sd) (k : Nat) (d : Nd) : Ch := ⟨Once.sigV s.val k d.val, Once.sigV_length _ _ _, Once.bytes_valuesV _ _ _⟩
def sgPlaces : Array (Nat × Nat) := #[(0, 1), (1, 560), (561, 1)]
set_option maxRecDepth 20000 in
theorem sgn_zero : (Tryd.prog.info? 37).map (·.zero) = some (some (.agg (sigC 0 ch0 none 0 0))) := by kernel_rfl
theorem sgn_struct : Tryd.prog.underlying 37 = some (.struct (Tryd.prog.fieldsOf 37)) := by kernel_rfl
theorem sgn_places (w : World) : (((Tryd.prog.fieldsOf 37).mapM fun f => do pure (f.offset, ← sizeOf f.type) : Sem (Array (Nat × Nat)))).run Tryd.prog w = .ok sgPlaces w := by kernel_rfl
theorem sgn_fill2 (leaf : Int) (ch : Ch) : Instr.fill (sgPlaces[·]?) (sigC 0 ch0 none 0 0) [(0, .int .i64 leaf), (1, .agg (chC ch))] = some (sigC leaf ch none 0 0) := by
  have e0 := ch_len ch0
  have e1 := ch_len ch
  rw [fill_cons (size := 1) rfl rfl (by rw [sigC_size]; omega)]
  have e2 : (splice (sigC 0 ch0 none 0 0).toList 0 (Value.cells (.int .i64 leaf)).toList).toArray = sigC leaf ch0 none 0 0 := rfl
  rw [e2, fill_cons (size := 560) rfl (by exact chC_size _) (by rw [sigC_size]; omega)]
  have e3 : (splice (sigC leaf ch0 none 0 0).toList 1 (Value.cells (.agg (chC ch))).toList).toArray = sigC leaf ch none 0 0 :=
    congrArg List.toArray (splice_mid (.int .i64 leaf) (vals .u8 ch0.val) [Value.slice none 0 0] (vals .u8 ch.val) (by omega))
  rw [e3]
  rfl
theorem run_sgn (leaf : Int) (ch : Ch) (w : World) : (Instr.build 37 #[(0, .int .i64 leaf), (1, .agg (chC ch))]).run Tryd.prog w = .ok (.agg (sigC leaf ch none 0 0)) w :=
  run_build_struct sgn_struct sgn_zero sgn_places (sgn_fill2 leaf ch) w
theorem run_sgn0 (w : World) : (Instr.build 37 #[]).run Tryd.prog w = .ok (.agg (sigC 0 ch0 none 0 0)) w :=
  run_build_struct sgn_struct sgn_zero sgn_places rfl w
section
variable {w : World} {ops : Array Oper} {rest : List Oper} {o : Oper} {a : Act} {Q : Exit → Act → World → Prop} {x0 x1 : Operand} {leaf : Int} {ch : Ch}
theorem lbsgn (hk : wpList Tryd.prog ops Q rest (a.put o.dst (.agg (sigC leaf ch none 0 0))) w) (hgd : o.guard = none := by rfl) (ho : o.op = .build 37 #[(0, x0), (1, x1)] := by rfl) (h0 : a.eval x0 = .int .i64 leaf := by rfl) (hx : a.eval x1 = .agg (chC ch) := by rfl) : wpList Tryd.prog ops Q (o :: rest) a w :=
  wpList_build_run hgd _ _ ho _ (by simp only [List.map_toArray, List.map_cons, List.map_nil, h0, hx]) _ (run_sgn leaf ch w) hk
theorem lbsgn0 (hk : wpList Tryd.prog ops Q rest (a.put o.dst (.agg (sigC 0 ch0 none 0 0))) w) (hgd : o.guard = none := by rfl) (ho : o.op = .build 37 #[] := by rfl) : wpList Tryd.prog ops Q (o :: rest) a w :=
  wpList_build_run hgd _ _ ho #[] (by simp) _ (run_sgn0 w) hk
end
set_option maxRecDepth 20000 in
set_option maxHeartbeats 4000000 in
theorem ssign_yes (s : Sd) (z : Int) (A : Option Addr) (n c : Nat) (lv : List Nd) (k h : Nat) (d : Nd) (w : World) (hr : NIn w A n lv) (hn : lv.length = 2 ^ h) (hh : h ≤ 10) (hk : k < 2 ^ h) (hT : Tab w) :
    Calls Tryd.prog 24 #[.agg (secC s z), .slice A n c, .int .i64 (k : Nat), .agg (ndC d)] w fun e w' => ∃ B c', e = .returned (.tuple #[.agg (sigC (k : Nat) (sgCh s k d) B h c'), .int .i64 0]) ∧ Becomes [] w (p16T (.slice B h c') (sibsF lv k h)) w' := by
  have hM := Mem.start [] w
  have hp : 2 ^ h ≤ 2 ^ 10 := Nat.pow_le_pow_right (by decide) hh
  have hl := hr.len
  have HS := Lib.hid (secC_size s z)
  have HX := Lib.hid (secC_s s z)
  have hpe : pathF lv (k : Int) = (sibsF lv k h, 0) := by
    obtain ⟨hc, hlog⟩ := chkE_pow hh hn
    unfold pathF
    rw [if_neg (by rw [hc]; decide), if_neg (by omega), hlog]
    simp
  have HP := Lib.hid (fun w' (hb : Below w.heap.size w w') => path_any A n c lv (k : Nat) w' (hr.keep hb) (by omega) (hT.keep hb))
  rw [hpe] at HP
  simp only [sibsF_length] at HP
  have HSG := Lib.hid (fun w' (hb : Below w.heap.size w w') => Once.sign_yes s.val d.val k (k : Nat) w' s.len s.byt d.len d.byt (by omega) rfl (hT.keep hb))
  change Hid (∀ w' (hb : Below w.heap.size w w'), Calls _ _ #[.agg (cellsOf .u8 s.val), .int .i64 (k : Nat), .agg (ndC d)] w' fun e w'' => e = .returned (.tuple #[.agg (chC (sgCh s k d)), .int .i64 0]) ∧ _) at HSG
  have hsl := sibsF_length lv k h
  generalize sgCh s k d = ch at HSG ⊢
  generalize sibsF lv k h = P at HP hsl ⊢
  generalize secC s z = X at HS HX ⊢
  have HSL := Lib.hid s.len
  have HPL := Lib.hid hsl
  have h0 : (0 : Int) ≤ (h : Int) := Int.natCast_nonneg _
  have h1 : (h : Int) ≤ 10 := by omega
  clear hr hn hh hk hT hp hl hpe hsl
  go_enter Tryd.func24, Tryd.ntmps24
  go_wp2_with (first | ((with_reducible refine at_box ?_); first | (refine slb hM ?_ (hty := row_sec) (hn := HS.out); clear hM; intro g4 w1 hM) | (refine slb hM ?_ (hty := row_a16) (hn := ndC_size _); clear hM; intro g7 w1 hM)) | ((with_reducible refine (HP.out _ hM.below).mono ?_); rintro e w1 ⟨A2, c2, rfl, hb⟩; replace hM := hM.newThing hb; clear hb) | ((with_reducible refine at_load ?_); first | refine slp hM ?_ (hX := HX.out) (hty := row_a32) | refine sll hM ?_) | ((with_reducible refine (HSG.out _ hM.below).mono ?_); rintro e w1 ⟨rfl, hb⟩; replace hM := hM.step hb; clear hb) | ((with_reducible refine at_build ?_); refine lbsgn ?_) | ((first | with_reducible refine at_load ?_ | ((with_reducible refine at_load_g ?_ ?_); (· rfl))); first | refine sll hM ?_ | refine slc hM ?_ | refine slp hM ?_) | ((with_reducible refine at_store ?_); first | (refine slw hM ?_; clear hM; intro wx hM) | (refine sls hM ?_; clear hM; intro wx hM) | (refine slt hM ?_; clear hM; intro wx hM)) | ((with_reducible refine at_alloc ?_); refine slz hM ?_; clear hM; intro gx wx hM) | ((with_reducible refine at_box ?_); refine slb hM ?_; clear hM; intro gx wx hM))
  obtain ⟨g13, hg13⟩ := hM.name1
  obtain ⟨g8, hg8⟩ := (hM.subL (List.Sublist.cons _ (List.sublist_cons_self _ _))).name1
  subst hg13 hg8
  replace hM := hM.subL (L' := [⟨g13, 37, 562, sigC (k : Nat) ch none 0 0⟩, ⟨g8, 37, 562, sigC 0 ch0 none 0 0⟩]) (List.Sublist.cons_cons _ (List.Sublist.cons _ (List.Sublist.cons_cons _ (List.nil_sublist _))))
  have M0 := Lib.hid (hM.newThing (hbecomes_zero none (KeptBut.refl _ _)))
  clear hM
  go_loopw [43] (fun i wr => ∃ (j : Nat) (E : Option Addr) (e2 : Nat), j ≤ h ∧ i = .int .i64 (j : Nat) ∧ Mem [] w [⟨g13, 37, 562, sigC (k : Nat) ch E j e2⟩, ⟨g8, 37, 562, sigC 0 ch0 none 0 0⟩] [p16T (.slice E j e2) (P.take j), ndT (.slice A2 h c2) P] wr) (fun i _ => h - (intOf i).toNat)
  case atStart => exact ⟨0, none, 0, by omega, rfl, M0.out⟩
  case round =>
    clear M0
    obtain ⟨j, E, e2, hj, rfl, hM⟩ := hrel
    by_cases hlt : j < h
    · have hjl : j < P.length := by have := HPL.out; omega
      obtain ⟨go, oo, rfl, _, h5⟩ := (ndT_in (hM.thing _ (List.Mem.tail _ (List.Mem.head _)))).row j hjl
      have htk : P.take (j + 1) = P.take j ++ [P[j]] := List.take_succ_eq_append_getElem hjl
      have hcl : (P.take j).length = j := by rw [List.length_take]; omega
      generalize P[j] = x at h5 htk
      generalize P.take j = cur at htk hcl hM
      have h63 : cur.length + [x].length ≤ 1000000000 := by simp; omega
      have HX5 := Lib.hid h5
      have HTK := Lib.hid htk
      have HCL := Lib.hid hcl
      have HCP := Lib.hid (sigC_p (k : Nat) ch E j e2)
      have HSP := Lib.hid (fun B m d => sigC_setp (k : Nat) ch E B j e2 m d)
      have q0 : (0 : Int) ≤ (j : Int) := Int.natCast_nonneg _
      have q1 : (j : Int) < (h : Int) := by omega
      generalize sigC (k : Nat) ch E j e2 = Y at hM HCP HSP
      clear h5 htk hcl hjl
      go_wp2_with (first | ((with_reducible refine at_load ?_); first | refine lr HX5.out ?_ (hty := row_nd) | refine slc hM ?_ (hv := HCP.out) | refine sll hM ?_) | (refine lb16 hM ?_; clear hM; intro g1 w5 hM) | ((with_reducible refine at_append ?_); refine la16 (src_16 hM (List.Mem.head _)) hM h63 ?_; clear hM; intro A3 N3 c3 wx hN3 hM) | ((with_reducible refine at_store ?_); first | (refine slw hM ?_; clear hM; intro wx hM) | (refine sls hM ?_ (hX := HSP.out _ _ _); clear hM; intro wx hM)) | ((first | with_reducible refine at_load ?_ | ((with_reducible refine at_load_g ?_ ?_); (· rfl))); first | refine sll hM ?_ | refine slc hM ?_ | refine slp hM ?_) | ((with_reducible refine at_store ?_); first | (refine slw hM ?_; clear hM; intro wx hM) | (refine sls hM ?_; clear hM; intro wx hM) | (refine slt hM ?_; clear hM; intro wx hM)) | ((with_reducible refine at_alloc ?_); refine slz hM ?_; clear hM; intro gx wx hM) | ((with_reducible refine at_box ?_); refine slb hM ?_; clear hM; intro gx wx hM))
      obtain rfl : N3 = j + 1 := by have := hN3.out; have := HCL.out; simp at *; omega
      exact ⟨⟨j + 1, A3, c3, by omega, by go_num, by rw [HTK.out]; exact hM.subL (List.Sublist.cons _ (List.Sublist.cons _ (List.Sublist.refl _)))⟩, by simp [intOf]; omega⟩
    · obtain rfl : j = h := by omega
      rw [List.take_of_length_le (by have := HPL.out; omega)] at hM
      clear hlt hj
      go_wp2_with (first | ((with_reducible refine at_load ?_); refine sll hM ?_ (hty := row_sgn)) | ((with_reducible refine at_store ?_); refine slw hM ?_ (hs := sigC_size _ _ _ _ _) (h1 := sigC_one _ _ _ _ _) (hty := row_sgn); clear hM; intro wx hM))
      have hb := hM.becomes (List.Mem.head _)
      exact bodyPost_ret (results_mem_cell_tmp hM rfl (by rfl) (by repeat (first | exact List.Mem.head _ | apply List.Mem.tail)) row_sgn (by rfl)) rfl ⟨E, e2, rfl, hb⟩
end Go.Proofs.YtbbdnlcjjcmllaaDoor
namespace Go.Proofs.YtbbdnlcjjcmllaaDoor
open Go Go.RowKit Go.Bul Go.Thg Go.Lin
def rcN (k : Nat) (d : Nd) (ch : Ch) : Nd := ⟨Once.recV k d.val ch.val, Once.recV_length _ _ _, bytes_half _⟩
/-- What a signature of a digest leads to. -/
def rootS (k : Nat) (d : Nd) (ch : Ch) (path : List Nd) : Nd := (fromF (leafN (k : Int) (rcN k d ch).val) (k : Int) path).1
theorem arr_a16 : ArrTy Tryd.prog 23 := ⟨⟨_, _, 1, Tryd.underlying23, by kernel_rfl⟩⟩
set_option maxRecDepth 20000 in
set_option maxHeartbeats 1000000 in
theorem gpublic_any (k : Nat) (ch : Ch) (A : Option Addr) (n c : Nat) (d : Nd) (w : World) (hk : k ≤ 65535) (hT : Tab w) :
    Calls Tryd.prog 27 #[.agg (sigC (k : Nat) ch A n c), .agg (ndC d)] w fun e w' => e = .returned (.agg (ndC (rcN k d ch))) ∧ Below w.heap.size w w' := by
  have hM := Mem.start [] w
  have HS := Lib.hid (sigC_size (k : Nat) ch A n c)
  have H0 := Lib.hid (sigC_0 (k : Nat) ch A n c)
  have HC := Lib.hid (sigC_c (k : Nat) ch A n c)
  have HR := Lib.hid (fun w' (hb : Below w.heap.size w w') => Once.recover_yes d.val ch.val k (k : Nat) w' d.len d.byt ch.len ch.byt hk rfl (hT.keep hb))
  change Hid (∀ w' (hb : Below w.heap.size w w'), Calls _ _ #[.int .i64 (k : Nat), .agg (ndC d), .agg (chC ch)] w' fun e w'' => e = .returned (.tuple #[.agg (ndC (rcN k d ch)), .int .i64 0]) ∧ _) at HR
  generalize rcN k d ch = Z at HR ⊢
  generalize sigC (k : Nat) ch A n c = Y at HS H0 HC ⊢
  clear hk hT
  go_enter Tryd.func27, Tryd.ntmps27
  go_wp2_with (first | ((with_reducible refine at_box ?_); first | (refine slb hM ?_ (hty := row_sgn) (hn := HS.out); clear hM; intro g2 w1 hM) | (refine slb hM ?_ (hty := row_a16) (hn := ndC_size _); clear hM; intro g3 w1 hM)) | ((with_reducible refine at_load ?_); first | refine sll hM ?_ (hty := row_a16) | refine slc hM ?_ (hv := H0.out) | refine slp hM ?_ (hX := HC.out) (hty := row_a560)) | ((with_reducible refine (HR.out _ hM.below).mono ?_); rintro e w1 ⟨rfl, hb⟩; replace hM := hM.step hb; clear hb) | ((first | with_reducible refine at_load ?_ | ((with_reducible refine at_load_g ?_ ?_); (· rfl))); first | refine sll hM ?_ | refine slc hM ?_ | refine slp hM ?_) | ((with_reducible refine at_store ?_); first | (refine slw hM ?_; clear hM; intro wx hM) | (refine sls hM ?_; clear hM; intro wx hM) | (refine slt hM ?_; clear hM; intro wx hM)) | ((with_reducible refine at_alloc ?_); refine slz hM ?_; clear hM; intro gx wx hM) | ((with_reducible refine at_box ?_); refine slb hM ?_; clear hM; intro gx wx hM))
  exact bodyPost_ret (results_mem_cell hM rfl (by rfl) (by repeat (first | exact List.Mem.head _ | apply List.Mem.tail)) row_a16) rfl ⟨rfl, hM.below⟩
set_option maxRecDepth 20000 in
set_option maxHeartbeats 1000000 in
theorem gnodes_any (leaf : Int) (ch : Ch) (A : Option Addr) (n c : Nat) (path : List Nd) (w : World) (hr : NIn w A n path) (hn : n ≤ 1000000) :
    Calls Tryd.prog 31 #[.agg (sigC leaf ch A n c)] w fun e w' => ∃ B c', e = .returned (.slice B n c') ∧ Becomes [] w (ndT (.slice B n c') path) w' := by
  have hM := Mem.start [] w
  have HS := Lib.hid (sigC_size leaf ch A n c)
  have HP := Lib.hid (sigC_p leaf ch A n c)
  have HL := Lib.hid hr.len
  have HR := Lib.hid hr
  have n0 : (n : Int) ≤ 1000000 := by omega
  generalize sigC leaf ch A n c = Y at HS HP ⊢
  clear hr
  go_enter Tryd.func31, Tryd.ntmps31
  go_wp2_with (first | ((with_reducible refine at_box ?_); refine slb hM ?_ (hty := row_sgn) (hn := HS.out); clear hM; intro g2 w1 hM) | ((with_reducible refine at_load ?_); refine slc hM ?_ (hv := HP.out)))
  have M0 := Lib.hid ((hM.subL (List.nil_sublist _)).newThing (nbecomes_zero none (KeptBut.refl _ _)))
  clear hM
  go_loopw [9, 3] (fun i p wr => ∃ (j : Nat) (E : Option Addr) (e2 : Nat), j ≤ n ∧ i = .int .i64 (j : Nat) ∧ p = .slice E j e2 ∧ Mem [] w [] [ndT (.slice E j e2) (path.take j)] wr) (fun i _ _ => n - (intOf i).toNat)
  case atStart => exact ⟨0, none, 0, by omega, rfl, rfl, M0.out⟩
  case round =>
    clear M0
    obtain ⟨j, E, e2, hj, rfl, rfl, hM⟩ := hrel
    by_cases hlt : j < n
    · have hjl : j < path.length := by have := HL.out; omega
      obtain ⟨go, oo, rfl, _, h6⟩ := HR.out.row j hjl
      have h5 := Lib.hid (fun w' (hb : Below w.heap.size w w') => NIn.cell (HR.out.keep hb) j hjl)
      have htk : path.take (j + 1) = path.take j ++ [path[j]] := List.take_succ_eq_append_getElem hjl
      have hcl : (path.take j).length = j := by rw [List.length_take]; omega
      generalize path[j] = x at h5 htk
      generalize path.take j = cur at htk hcl hM
      have h63 : cur.length + [x].length ≤ 1000000000 := by simp; omega
      have HTK := Lib.hid htk
      have HCL := Lib.hid hcl
      have q0 : (0 : Int) ≤ (j : Int) := Int.natCast_nonneg _
      have q1 : (j : Int) < (n : Int) := by omega
      clear htk hcl h6 hjl
      go_wp2_with (first | ((with_reducible refine at_load ?_); first | refine lr (h5.out _ hM.below) ?_ (hty := row_a16) | refine sll hM ?_) | (refine lbn1 hM ?_; clear hM; intro g1 w5 hM) | ((with_reducible refine at_append ?_); refine lan (src_nd1 hM (List.Mem.head _)) hM h63 ?_; clear hM; intro A3 N3 c3 wx hN3 hM) | ((first | with_reducible refine at_load ?_ | ((with_reducible refine at_load_g ?_ ?_); (· rfl))); first | refine sll hM ?_ | refine slc hM ?_ | refine slp hM ?_) | ((with_reducible refine at_store ?_); first | (refine slw hM ?_; clear hM; intro wx hM) | (refine sls hM ?_; clear hM; intro wx hM) | (refine slt hM ?_; clear hM; intro wx hM)) | ((with_reducible refine at_alloc ?_); refine slz hM ?_; clear hM; intro gx wx hM) | ((with_reducible refine at_box ?_); refine slb hM ?_; clear hM; intro gx wx hM))
      obtain rfl : N3 = j + 1 := by have := hN3.out; have := HCL.out; simp at *; omega
      exact ⟨⟨j + 1, A3, c3, by omega, by go_num, rfl, by rw [HTK.out]; exact hM.subL (List.nil_sublist _)⟩, by simp [intOf]; omega⟩
    · obtain rfl : j = n := by omega
      rw [List.take_of_length_le (by have := HL.out; omega)] at hM
      clear hlt hj
      go_wp2_with fail
      go_ret
      exact ⟨E, e2, rfl, hM.becomes (by exact List.Mem.head _)⟩
set_option maxRecDepth 20000 in
set_option maxHeartbeats 4000000 in
theorem groot_yes (k : Nat) (ch : Ch) (A : Option Addr) (n c : Nat) (path : List Nd) (d : Nd) (w : World) (hr : NIn w A n path) (hc : sgE (k : Nat) n = 0) (hT : Tab w) :
    Calls Tryd.prog 26 #[.agg (ndC d), .agg (sigC (k : Nat) ch A n c)] w fun e w' => e = .returned (.tuple #[.agg (ndC (rootS k d ch path)), .int .i64 0]) ∧ Below w.heap.size w w' := by
  have hM := Mem.start [] w
  have hl := hr.len
  have hh : hE (n : Nat) = 0 ∧ 0 ≤ (k : Int) ∧ (k : Int) < 2 ^ n := by
    unfold sgE at hc
    split at hc
    · assumption
    · cases hc
  obtain ⟨h1, h8⟩ := hE_nat hh.1
  have hp : 2 ^ n ≤ 2 ^ 8 := Nat.pow_le_pow_right (by decide) h8
  have hp2 : (2 : Int) ^ n = ((2 ^ n : Nat) : Int) := by simp
  have hk : k < 256 := by omega
  have HS := Lib.hid (sigC_size (k : Nat) ch A n c)
  have H0 := Lib.hid (sigC_0 (k : Nat) ch A n c)
  have HC := Lib.hid (fun w => gcheck_any (k : Nat) ch A n c w)
  rw [hc] at HC
  have HPB := Lib.hid (fun w' (hb : Below w.heap.size w w') => gpublic_any k ch A n c d w' (by omega) (hT.keep hb))
  have HND := Lib.hid (fun w' (hb : Below w.heap.size w w') => gnodes_any (k : Nat) ch A n c path w' (hr.keep hb) (by omega))
  have HLF := Lib.hid (fun A' n' c' w' (hr : Reads w' 1 A' n' (vals .u8 (rcN k d ch).val)) (hn : n' ≤ 1000) (hb : Below w.heap.size w w') => leaf_any (k : Nat) A' n' c' (rcN k d ch).val w' hr (rcN k d ch).byt hn (hT.keep hb))
  have hz : (fromF (leafN (k : Int) (rcN k d ch).val) (k : Int) path).2 = 0 := by
    unfold fromF
    rw [if_neg (by omega), if_neg (by rw [← hl]; omega)]
  have HFR := Lib.hid (fun A' c' w' (hr : NIn w' A' n path) (hb : Below w.heap.size w w') => from_any (leafN (k : Int) (rcN k d ch).val) (k : Nat) A' n c' path w' hr (by omega) (hT.keep hb))
  rw [hz] at HFR
  unfold rootS
  generalize (fromF (leafN (k : Int) (rcN k d ch).val) (k : Int) path).1 = Z at HFR ⊢
  generalize leafN (k : Int) (rcN k d ch).val = ZL at HFR HLF
  generalize rcN k d ch = V at HPB HLF
  generalize sigC (k : Nat) ch A n c = Y at HS H0 HC HPB HND ⊢
  clear hr hc hT hl hh h1 h8 hp hp2 hz
  go_enter Tryd.func26, Tryd.ntmps26
  go_upto_region 5 with (first | ((with_reducible refine at_box ?_); first | (refine slb hM ?_ (hty := row_sgn) (hn := HS.out); clear hM; intro g3 w1 hM) | (refine slb hM ?_ (hty := row_a16) (hn := ndC_size _); clear hM; intro g2 w1 hM)) | ((with_reducible refine (HC.out _).mono ?_); rintro e w1 ⟨rfl, hb⟩; replace hM := hM.step hb; clear hb) | ((with_reducible refine (HPB.out _ hM.below).mono ?_); rintro e w1 ⟨rfl, hb⟩; replace hM := hM.step hb; clear hb) | ((with_reducible refine at_load ?_); first | refine sll hM ?_ (hty := row_a16) | refine sll hM ?_ (hty := row_sgn)) | ((first | with_reducible refine at_load ?_ | ((with_reducible refine at_load_g ?_ ?_); (· rfl))); first | refine sll hM ?_ | refine slc hM ?_ | refine slp hM ?_) | ((with_reducible refine at_store ?_); first | (refine slw hM ?_; clear hM; intro wx hM) | (refine sls hM ?_; clear hM; intro wx hM) | (refine slt hM ?_; clear hM; intro wx hM)) | ((with_reducible refine at_alloc ?_); refine slz hM ?_; clear hM; intro gx wx hM) | ((with_reducible refine at_box ?_); refine slb hM ?_; clear hM; intro gx wx hM))
  obtain ⟨g7, hg7⟩ := hM.name1
  obtain ⟨g3', hg3⟩ := (hM.subL (List.Sublist.cons _ (List.sublist_cons_self _ _))).name1
  subst hg7 hg3
  refine wp_region_allHM hM (HeldM [⟨g3', 37, 562, Y⟩]) (by kernel_rfl) ?_
  clear hM
  intro wd hM
  have hS := HeldM.of (hM.subL (L' := [⟨g3', 37, 562, Y⟩]) (List.Sublist.cons _ (List.Sublist.cons _ (List.Sublist.cons_cons _ (List.nil_sublist _)))))
  refine wpAllH_takes [0, 2, 4, 1, 5, 6] (by kernel_rfl) (fun _ _ _ _ _ h => h) hS (by kernel_rfl) ?_
  simp only [pickOps, List.filterMap_cons, List.filterMap_nil, List.getElem?_cons_zero, List.getElem?_cons_succ]
  repeat ((with_reducible apply wpHeld_step); (· rfl); (· (intro w hSw; first | (go_simp; rfl) | ((obtain ⟨_, _, _, hM'⟩ := hSw; first | exact yields_load (C := fun _ => True) (sqc hM' (hv := H0.out)) rfl | exact yields_load (C := fun _ => True) (sql hM' (hty := row_sgn)) rfl)))); intro K hK; go_simp; (with_reducible refine hK _ ?_); clear hK K)
  refine wpHeld_nil ?_
  refine wpAllH_two 3 12 rfl rfl (by kernel_rfl) ?_ ?_
  · go_wp2_with fail
    refine (HLF.out _ _ _ _ (nd_reads hM (List.Mem.head _)) (by decide) hM.below).mono ?_
    rintro e w1 ⟨rfl, hb⟩
    replace hM := hM.step hb
    clear hb hS
    have hS := HeldM.of (hM.subL (L' := [⟨g3', 37, 562, Y⟩]) (List.Sublist.cons _ (List.Sublist.cons _ (List.Sublist.cons_cons _ (List.nil_sublist _)))))
    go_wp2_with fail
    refine then_normal ⟨hS, ?_⟩
    refine wpAllH_two 7 12 rfl rfl (by kernel_rfl) ?_ ?_
    · go_wp2_with fail
      refine (HND.out _ hM.below).mono ?_
      rintro e w1 ⟨A5, c5, rfl, hb⟩
      replace hM := hM.newThing hb
      clear hb hS
      have hS := HeldM.of (hM.subL (L' := [⟨g3', 37, 562, Y⟩]) (List.Sublist.cons _ (List.Sublist.cons _ (List.Sublist.cons_cons _ (List.nil_sublist _)))))
      go_wp2_with fail
      refine then_normal ⟨hS, ?_⟩
      refine wpAllH_two 8 12 rfl rfl (by kernel_rfl) ?_ ?_
      · go_wp2_with fail
        refine (HFR.out _ _ _ (ndT_in (hM.thing _ (List.Mem.head _))) hM.below).mono ?_
        rintro e w1 ⟨rfl, hb⟩
        replace hM := hM.step hb
        clear hb hS
        have hS := HeldM.of (hM.subL (L' := [⟨g3', 37, 562, Y⟩]) (List.Sublist.cons _ (List.Sublist.cons _ (List.Sublist.cons_cons _ (List.nil_sublist _)))))
        go_wp2_with fail
        refine then_normal ⟨hS, ?_⟩
        refine wpAllH_takes [9, 10, 11] (by kernel_rfl) (fun _ _ _ _ _ h => h) hS (by kernel_rfl) ?_
        simp only [pickOps, List.filterMap_cons, List.filterMap_nil, List.getElem?_cons_zero, List.getElem?_cons_succ]
        repeat ((with_reducible apply wpHeld_step); (· rfl); (· (intro w hSw; first | (go_simp; rfl) | (fail))); intro K hK; go_simp; (with_reducible refine hK _ ?_); clear hK K)
        refine wpHeld_nil ?_
        refine wpAllH_one 12 rfl (by kernel_rfl) ?_
        refine slz hM ?_ (hz := zero_nd)
        clear hM hS
        intro g8 wz hM
        have hS := HeldM.of (hM.subL (L' := [⟨g3', 37, 562, Y⟩]) (List.Sublist.cons _ (List.Sublist.cons _ (List.Sublist.cons _ (List.Sublist.cons_cons _ (List.nil_sublist _))))))
        refine wpList_then ⟨hS, ?_⟩
        refine wpAllH_one 13 rfl (by kernel_rfl) ?_
        refine slw hM ?_
        clear hM hS
        intro wy hM
        have hS := HeldM.of (hM.subL (L' := [⟨g3', 37, 562, Y⟩]) (List.Sublist.cons _ (List.Sublist.cons _ (List.Sublist.cons _ (List.Sublist.cons_cons _ (List.nil_sublist _))))))
        refine wpList_then ⟨hS, ?_⟩
        refine wpAllH_takes [14] (by kernel_rfl) (fun _ _ _ _ _ h => h) hS (by kernel_rfl) ?_
        simp only [pickOps, List.filterMap_cons, List.filterMap_nil, List.getElem?_cons_zero, List.getElem?_cons_succ]
        repeat ((with_reducible apply wpHeld_step); (· rfl); (· (intro w hSw; first | (go_simp; rfl) | (fail))); intro K hK; go_simp; (with_reducible refine hK _ ?_); clear hK K)
        refine wpHeld_nil ?_
        refine wpAllH_done (by kernel_rfl) ?_
        clear hS
        go_wp2_with (first | ((first | with_reducible refine at_load ?_ | ((with_reducible refine at_load_g ?_ ?_); (· rfl))); first | refine sll hM ?_ | refine slc hM ?_ | refine slp hM ?_) | ((with_reducible refine at_store ?_); first | (refine slw hM ?_; clear hM; intro wx hM) | (refine sls hM ?_; clear hM; intro wx hM) | (refine slt hM ?_; clear hM; intro wx hM)) | ((with_reducible refine at_alloc ?_); refine slz hM ?_; clear hM; intro gx wx hM) | ((with_reducible refine at_box ?_); refine slb hM ?_; clear hM; intro gx wx hM))
        exact bodyPost_ret (results_mem_cell_tmp hM rfl (by rfl) (by repeat (first | exact List.Mem.head _ | apply List.Mem.tail)) row_a16 (by rfl)) rfl ⟨rfl, hM.below⟩
      · refine slz hM ?_ (hz := zero_nd)
        clear hM hS
        intro g8 wz hM
        have hS := HeldM.of (hM.subL (L' := [⟨g3', 37, 562, Y⟩]) (List.Sublist.cons _ (List.Sublist.cons _ (List.Sublist.cons _ (List.Sublist.cons_cons _ (List.nil_sublist _))))))
        refine wpList_then ⟨hS, ?_⟩
        refine wpAllH_one 8 rfl (by kernel_rfl) ?_
        go_wp2_with fail
        refine (HFR.out _ _ _ (ndT_in (hM.thing _ (List.Mem.head _))) hM.below).mono ?_
        rintro e w1 ⟨rfl, hb⟩
        replace hM := hM.step hb
        clear hb hS
        have hS := HeldM.of (hM.subL (L' := [⟨g3', 37, 562, Y⟩]) (List.Sublist.cons _ (List.Sublist.cons _ (List.Sublist.cons _ (List.Sublist.cons_cons _ (List.nil_sublist _))))))
        go_wp2_with fail
        refine then_normal ⟨hS, ?_⟩
        refine wpAllH_takes [9, 10, 11] (by kernel_rfl) (fun _ _ _ _ _ h => h) hS (by kernel_rfl) ?_
        simp only [pickOps, List.filterMap_cons, List.filterMap_nil, List.getElem?_cons_zero, List.getElem?_cons_succ]
        repeat ((with_reducible apply wpHeld_step); (· rfl); (· (intro w hSw; first | (go_simp; rfl) | (fail))); intro K hK; go_simp; (with_reducible refine hK _ ?_); clear hK K)
        refine wpHeld_nil ?_
        refine wpAllH_one 13 rfl (by kernel_rfl) ?_
        refine slw hM ?_
        clear hM hS
        intro wy hM
        have hS := HeldM.of (hM.subL (L' := [⟨g3', 37, 562, Y⟩]) (List.Sublist.cons _ (List.Sublist.cons _ (List.Sublist.cons _ (List.Sublist.cons_cons _ (List.nil_sublist _))))))
        refine wpList_then ⟨hS, ?_⟩
        refine wpAllH_takes [14] (by kernel_rfl) (fun _ _ _ _ _ h => h) hS (by kernel_rfl) ?_
        simp only [pickOps, List.filterMap_cons, List.filterMap_nil, List.getElem?_cons_zero, List.getElem?_cons_succ]
        repeat ((with_reducible apply wpHeld_step); (· rfl); (· (intro w hSw; first | (go_simp; rfl) | (fail))); intro K hK; go_simp; (with_reducible refine hK _ ?_); clear hK K)
        refine wpHeld_nil ?_
        refine wpAllH_done (by kernel_rfl) ?_
        clear hS
        go_wp2_with (first | ((first | with_reducible refine at_load ?_ | ((with_reducible refine at_load_g ?_ ?_); (· rfl))); first | refine sll hM ?_ | refine slc hM ?_ | refine slp hM ?_) | ((with_reducible refine at_store ?_); first | (refine slw hM ?_; clear hM; intro wx hM) | (refine sls hM ?_; clear hM; intro wx hM) | (refine slt hM ?_; clear hM; intro wx hM)) | ((with_reducible refine at_alloc ?_); refine slz hM ?_; clear hM; intro gx wx hM) | ((with_reducible refine at_box ?_); refine slb hM ?_; clear hM; intro gx wx hM))
        exact bodyPost_ret (results_mem_cell_tmp hM rfl (by rfl) (by repeat (first | exact List.Mem.head _ | apply List.Mem.tail)) row_a16 (by rfl)) rfl ⟨rfl, hM.below⟩
    · refine slz hM ?_ (hz := zero_nd)
      clear hM hS
      intro g8 wz hM
      have hS := HeldM.of (hM.subL (L' := [⟨g3', 37, 562, Y⟩]) (List.Sublist.cons _ (List.Sublist.cons _ (List.Sublist.cons _ (List.Sublist.cons_cons _ (List.nil_sublist _))))))
      refine wpList_then ⟨hS, ?_⟩
      refine wpAllH_one 7 rfl (by kernel_rfl) ?_
      go_wp2_with fail
      refine (HND.out _ hM.below).mono ?_
      rintro e w1 ⟨A5, c5, rfl, hb⟩
      replace hM := hM.newThing hb
      clear hb hS
      have hS := HeldM.of (hM.subL (L' := [⟨g3', 37, 562, Y⟩]) (List.Sublist.cons _ (List.Sublist.cons _ (List.Sublist.cons _ (List.Sublist.cons_cons _ (List.nil_sublist _))))))
      go_wp2_with fail
      refine then_normal ⟨hS, ?_⟩
      refine wpAllH_one 8 rfl (by kernel_rfl) ?_
      go_wp2_with fail
      refine (HFR.out _ _ _ (ndT_in (hM.thing _ (List.Mem.head _))) hM.below).mono ?_
      rintro e w1 ⟨rfl, hb⟩
      replace hM := hM.step hb
      clear hb hS
      have hS := HeldM.of (hM.subL (L' := [⟨g3', 37, 562, Y⟩]) (List.Sublist.cons _ (List.Sublist.cons _ (List.Sublist.cons _ (List.Sublist.cons_cons _ (List.nil_sublist _))))))
      go_wp2_with fail
      refine then_normal ⟨hS, ?_⟩
      refine wpAllH_takes [9, 10, 11] (by kernel_rfl) (fun _ _ _ _ _ h => h) hS (by kernel_rfl) ?_
      simp only [pickOps, List.filterMap_cons, List.filterMap_nil, List.getElem?_cons_zero, List.getElem?_cons_succ]
      repeat ((with_reducible apply wpHeld_step); (· rfl); (· (intro w hSw; first | (go_simp; rfl) | (fail))); intro K hK; go_simp; (with_reducible refine hK _ ?_); clear hK K)
      refine wpHeld_nil ?_
      refine wpAllH_one 13 rfl (by kernel_rfl) ?_
      refine slw hM ?_
      clear hM hS
      intro wy hM
      have hS := HeldM.of (hM.subL (L' := [⟨g3', 37, 562, Y⟩]) (List.Sublist.cons _ (List.Sublist.cons _ (List.Sublist.cons _ (List.Sublist.cons_cons _ (List.nil_sublist _))))))
      refine wpList_then ⟨hS, ?_⟩
      refine wpAllH_takes [14] (by kernel_rfl) (fun _ _ _ _ _ h => h) hS (by kernel_rfl) ?_
      simp only [pickOps, List.filterMap_cons, List.filterMap_nil, List.getElem?_cons_zero, List.getElem?_cons_succ]
      repeat ((with_reducible apply wpHeld_step); (· rfl); (· (intro w hSw; first | (go_simp; rfl) | (fail))); intro K hK; go_simp; (with_reducible refine hK _ ?_); clear hK K)
      refine wpHeld_nil ?_
      refine wpAllH_done (by kernel_rfl) ?_
      clear hS
      go_wp2_with (first | ((first | with_reducible refine at_load ?_ | ((with_reducible refine at_load_g ?_ ?_); (· rfl))); first | refine sll hM ?_ | refine slc hM ?_ | refine slp hM ?_) | ((with_reducible refine at_store ?_); first | (refine slw hM ?_; clear hM; intro wx hM) | (refine sls hM ?_; clear hM; intro wx hM) | (refine slt hM ?_; clear hM; intro wx hM)) | ((with_reducible refine at_alloc ?_); refine slz hM ?_; clear hM; intro gx wx hM) | ((with_reducible refine at_box ?_); refine slb hM ?_; clear hM; intro gx wx hM))
      exact bodyPost_ret (results_mem_cell_tmp hM rfl (by rfl) (by repeat (first | exact List.Mem.head _ | apply List.Mem.tail)) row_a16 (by rfl)) rfl ⟨rfl, hM.below⟩
  · refine slz hM ?_ (hz := zero_nd)
    clear hM hS
    intro g8 wz hM
    have hS := HeldM.of (hM.subL (L' := [⟨g3', 37, 562, Y⟩]) (List.Sublist.cons _ (List.Sublist.cons _ (List.Sublist.cons _ (List.Sublist.cons_cons _ (List.nil_sublist _))))))
    refine wpList_then ⟨hS, ?_⟩
    refine wpAllH_one 3 rfl (by kernel_rfl) ?_
    go_wp2_with fail
    refine (HLF.out _ _ _ _ (nd_reads hM (List.Mem.tail _ (List.Mem.head _))) (by decide) hM.below).mono ?_
    rintro e w1 ⟨rfl, hb⟩
    replace hM := hM.step hb
    clear hb hS
    have hS := HeldM.of (hM.subL (L' := [⟨g3', 37, 562, Y⟩]) (List.Sublist.cons _ (List.Sublist.cons _ (List.Sublist.cons _ (List.Sublist.cons_cons _ (List.nil_sublist _))))))
    go_wp2_with fail
    refine then_normal ⟨hS, ?_⟩
    refine wpAllH_one 7 rfl (by kernel_rfl) ?_
    go_wp2_with fail
    refine (HND.out _ hM.below).mono ?_
    rintro e w1 ⟨A5, c5, rfl, hb⟩
    replace hM := hM.newThing hb
    clear hb hS
    have hS := HeldM.of (hM.subL (L' := [⟨g3', 37, 562, Y⟩]) (List.Sublist.cons _ (List.Sublist.cons _ (List.Sublist.cons _ (List.Sublist.cons_cons _ (List.nil_sublist _))))))
    go_wp2_with fail
    refine then_normal ⟨hS, ?_⟩
    refine wpAllH_one 8 rfl (by kernel_rfl) ?_
    go_wp2_with fail
    refine (HFR.out _ _ _ (ndT_in (hM.thing _ (List.Mem.head _))) hM.below).mono ?_
    rintro e w1 ⟨rfl, hb⟩
    replace hM := hM.step hb
    clear hb hS
    have hS := HeldM.of (hM.subL (L' := [⟨g3', 37, 562, Y⟩]) (List.Sublist.cons _ (List.Sublist.cons _ (List.Sublist.cons _ (List.Sublist.cons_cons _ (List.nil_sublist _))))))
    go_wp2_with fail
    refine then_normal ⟨hS, ?_⟩
    refine wpAllH_takes [9, 10, 11] (by kernel_rfl) (fun _ _ _ _ _ h => h) hS (by kernel_rfl) ?_
    simp only [pickOps, List.filterMap_cons, List.filterMap_nil, List.getElem?_cons_zero, List.getElem?_cons_succ]
    repeat ((with_reducible apply wpHeld_step); (· rfl); (· (intro w hSw; first | (go_simp; rfl) | (fail))); intro K hK; go_simp; (with_reducible refine hK _ ?_); clear hK K)
    refine wpHeld_nil ?_
    refine wpAllH_one 13 rfl (by kernel_rfl) ?_
    refine slw hM ?_
    clear hM hS
    intro wy hM
    have hS := HeldM.of (hM.subL (L' := [⟨g3', 37, 562, Y⟩]) (List.Sublist.cons _ (List.Sublist.cons _ (List.Sublist.cons _ (List.Sublist.cons_cons _ (List.nil_sublist _))))))
    refine wpList_then ⟨hS, ?_⟩
    refine wpAllH_takes [14] (by kernel_rfl) (fun _ _ _ _ _ h => h) hS (by kernel_rfl) ?_
    simp only [pickOps, List.filterMap_cons, List.filterMap_nil, List.getElem?_cons_zero, List.getElem?_cons_succ]
    repeat ((with_reducible apply wpHeld_step); (· rfl); (· (intro w hSw; first | (go_simp; rfl) | (fail))); intro K hK; go_simp; (with_reducible refine hK _ ?_); clear hK K)
    refine wpHeld_nil ?_
    refine wpAllH_done (by kernel_rfl) ?_
    clear hS
    go_wp2_with (first | ((first | with_reducible refine at_load ?_ | ((with_reducible refine at_load_g ?_ ?_); (· rfl))); first | refine sll hM ?_ | refine slc hM ?_ | refine slp hM ?_) | ((with_reducible refine at_store ?_); first | (refine slw hM ?_; clear hM; intro wx hM) | (refine sls hM ?_; clear hM; intro wx hM) | (refine slt hM ?_; clear hM; intro wx hM)) | ((with_reducible refine at_alloc ?_); refine slz hM ?_; clear hM; intro gx wx hM) | ((with_reducible refine at_box ?_); refine slb hM ?_; clear hM; intro gx wx hM))
    exact bodyPost_ret (results_mem_cell_tmp hM rfl (by rfl) (by repeat (first | exact List.Mem.head _ | apply List.Mem.tail)) row_a16 (by rfl)) rfl ⟨rfl, hM.below⟩
set_option maxRecDepth 20000 in
set_option maxHeartbeats 1000000 in
theorem groot_no (leaf : Int) (ch : Ch) (A : Option Addr) (n c : Nat) (d : Nd) (w : World) (hc : sgE leaf n ≠ 0) :
    Calls Tryd.prog 26 #[.agg (ndC d), .agg (sigC leaf ch A n c)] w fun e w' => e = .returned (.tuple #[.agg (ndC nd0), .int .i64 (sgE leaf n)]) ∧ Below w.heap.size w w' := by
  have hM := Mem.start [] w
  have HS := Lib.hid (sigC_size leaf ch A n c)
  have HC := Lib.hid (fun w => gcheck_any leaf ch A n c w)
  have q1 : (sgE leaf n != 0) = true := by simpa using hc
  generalize sgE leaf n = e1 at q1 HC ⊢
  generalize sigC leaf ch A n c = Y at HS HC ⊢
  clear hc
  go_enter Tryd.func26, Tryd.ntmps26
  go_wp2_with (first | ((with_reducible refine at_box ?_); first | (refine slb hM ?_ (hty := row_sgn) (hn := HS.out); clear hM; intro g3 w1 hM) | (refine slb hM ?_ (hty := row_a16) (hn := ndC_size _); clear hM; intro g2 w1 hM)) | ((with_reducible refine (HC.out _).mono ?_); rintro e w1 ⟨rfl, hb⟩; replace hM := hM.step hb; clear hb) | ((with_reducible refine at_load ?_); refine sll hM ?_ (hty := row_sgn)) | ((with_reducible refine at_build ?_); refine wpList_build_zero rfl _ (by rfl) _ _ zero_a16 arr_a16 ?_) | ((first | with_reducible refine at_load ?_ | ((with_reducible refine at_load_g ?_ ?_); (· rfl))); first | refine sll hM ?_ | refine slc hM ?_ | refine slp hM ?_) | ((with_reducible refine at_store ?_); first | (refine slw hM ?_; clear hM; intro wx hM) | (refine sls hM ?_; clear hM; intro wx hM) | (refine slt hM ?_; clear hM; intro wx hM)) | ((with_reducible refine at_alloc ?_); refine slz hM ?_; clear hM; intro gx wx hM) | ((with_reducible refine at_box ?_); refine slb hM ?_; clear hM; intro gx wx hM))
  exact bodyPost_ret (results_mem_cell_tmp hM rfl (by rfl) (by repeat (first | exact List.Mem.head _ | apply List.Mem.tail)) row_a16 (by rfl)) rfl ⟨rfl, hM.below⟩
end Go.Proofs.YtbbdnlcjjcmllaaDoor
