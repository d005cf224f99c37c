/- Contract of sign of a secret key. -/
import Derived.Test.YtbbdnlcjjcmllaaDoorVv
namespace Go.Proofs.YtbbdnlcjjcmllaaDoor
open Go Go.RowKit Go.Bul Go.Thg Go.Lin
def sgCh (s : Sd) (k : Nat) (d : Nd) : Ch := ⟨Once.sigV s.val k d.val, Once.sigV_length _ _ _, Once.bytes_valuesV _ _ _⟩
def sgPlaces : Array (Nat × Nat) := #[(0, 1), (1, 560), (561, 1)]
set_option maxRecDepth 20000 in
theorem sgn_zero : (Tryd.prog.info? 37).map (·.zero) = some (some (.agg (sigC 0 ch0 none 0 0))) := by kernel_rfl
theorem sgn_struct : Tryd.prog.underlying 37 = some (.struct (Tryd.prog.fieldsOf 37)) := by kernel_rfl
theorem sgn_places (w : World) : (((Tryd.prog.fieldsOf 37).mapM fun f => do pure (f.offset, ← sizeOf f.type) : Sem (Array (Nat × Nat)))).run Tryd.prog w = .ok sgPlaces w := by kernel_rfl
theorem sgn_fill2 (leaf : Int) (ch : Ch) : Instr.fill (sgPlaces[·]?) (sigC 0 ch0 none 0 0) [(0, .int .i64 leaf), (1, .agg (chC ch))] = some (sigC leaf ch none 0 0) := by
  have e0 := ch_len ch0
  have e1 := ch_len ch
  rw [fill_cons (size := 1) rfl rfl (by rw [sigC_size]; omega)]
  have e2 : (splice (sigC 0 ch0 none 0 0).toList 0 (Value.cells (.int .i64 leaf)).toList).toArray = sigC leaf ch0 none 0 0 := rfl
  rw [e2, fill_cons (size := 560) rfl (by exact chC_size _) (by rw [sigC_size]; omega)]
  have e3 : (splice (sigC leaf ch0 none 0 0).toList 1 (Value.cells (.agg (chC ch))).toList).toArray = sigC leaf ch none 0 0 :=
    congrArg List.toArray (splice_mid (.int .i64 leaf) (vals .u8 ch0.val) [Value.slice none 0 0] (vals .u8 ch.val) (by omega))
  rw [e3]
  rfl
theorem run_sgn (leaf : Int) (ch : Ch) (w : World) : (Instr.build 37 #[(0, .int .i64 leaf), (1, .agg (chC ch))]).run Tryd.prog w = .ok (.agg (sigC leaf ch none 0 0)) w :=
  run_build_struct sgn_struct sgn_zero sgn_places (sgn_fill2 leaf ch) w
theorem run_sgn0 (w : World) : (Instr.build 37 #[]).run Tryd.prog w = .ok (.agg (sigC 0 ch0 none 0 0)) w :=
  run_build_struct sgn_struct sgn_zero sgn_places rfl w
section
variable {w : World} {ops : Array Oper} {rest : List Oper} {o : Oper} {a : Act} {Q : Exit → Act → World → Prop} {x0 x1 : Operand} {leaf : Int} {ch : Ch}
theorem lbsgn (hk : wpList Tryd.prog ops Q rest (a.put o.dst (.agg (sigC leaf ch none 0 0))) w) (hgd : o.guard = none := by rfl) (ho : o.op = .build 37 #[(0, x0), (1, x1)] := by rfl) (h0 : a.eval x0 = .int .i64 leaf := by rfl) (hx : a.eval x1 = .agg (chC ch) := by rfl) : wpList Tryd.prog ops Q (o :: rest) a w :=
  wpList_build_run hgd _ _ ho _ (by simp only [List.map_toArray, List.map_cons, List.map_nil, h0, hx]) _ (run_sgn leaf ch w) hk
theorem lbsgn0 (hk : wpList Tryd.prog ops Q rest (a.put o.dst (.agg (sigC 0 ch0 none 0 0))) w) (hgd : o.guard = none := by rfl) (ho : o.op = .build 37 #[] := by rfl) : wpList Tryd.prog ops Q (o :: rest) a w :=
  wpList_build_run hgd _ _ ho #[] (by simp) _ (run_sgn0 w) hk
end
set_option maxRecDepth 20000 in
set_option maxHeartbeats 4000000 in
theorem ssign_yes (s : Sd) (z : Int) (A : Option Addr) (n c : Nat) (lv : List Nd) (k h : Nat) (d : Nd) (w : World) (hr : NIn w A n lv) (hn : lv.length = 2 ^ h) (hh : h ≤ 10) (hk : k < 2 ^ h) (hT : Tab w) :
    Calls Tryd.prog 24 #[.agg (secC s z), .slice A n c, .int .i64 (k : Nat), .agg (ndC d)] w fun e w' => ∃ B c', e = .returned (.tuple #[.agg (sigC (k : Nat) (sgCh s k d) B h c'), .int .i64 0]) ∧ Becomes [] w (p16T (.slice B h c') (sibsF lv k h)) w' := by
  have hM := Mem.start [] w
  have hp : 2 ^ h ≤ 2 ^ 10 := Nat.pow_le_pow_right (by decide) hh
  have hl := hr.len
  have HS := Lib.hid (secC_size s z)
  have HX := Lib.hid (secC_s s z)
  have hpe : pathF lv (k : Int) = (sibsF lv k h, 0) := by
    obtain ⟨hc, hlog⟩ := chkE_pow hh hn
    unfold pathF
    rw [if_neg (by rw [hc]; decide), if_neg (by omega), hlog]
    simp
  have HP := Lib.hid (fun w' (hb : Below w.heap.size w w') => path_any A n c lv (k : Nat) w' (hr.keep hb) (by omega) (hT.keep hb))
  rw [hpe] at HP
  simp only [sibsF_length] at HP
  have HSG := Lib.hid (fun w' (hb : Below w.heap.size w w') => Once.sign_yes s.val d.val k (k : Nat) w' s.len s.byt d.len d.byt (by omega) rfl (hT.keep hb))
  change Hid (∀ w' (hb : Below w.heap.size w w'), Calls _ _ #[.agg (cellsOf .u8 s.val), .int .i64 (k : Nat), .agg (ndC d)] w' fun e w'' => e = .returned (.tuple #[.agg (chC (sgCh s k d)), .int .i64 0]) ∧ _) at HSG
  have hsl := sibsF_length lv k h
  generalize sgCh s k d = ch at HSG ⊢
  generalize sibsF lv k h = P at HP hsl ⊢
  generalize secC s z = X at HS HX ⊢
  have HSL := Lib.hid s.len
  have HPL := Lib.hid hsl
  have h0 : (0 : Int) ≤ (h : Int) := Int.natCast_nonneg _
  have h1 : (h : Int) ≤ 10 := by omega
  clear hr hn hh hk hT hp hl hpe hsl
  go_enter Tryd.func24, Tryd.ntmps24
  go_wp2_with (first | ((with_reducible refine at_box ?_); first | (refine slb hM ?_ (hty := row_sec) (hn := HS.out); clear hM; intro g4 w1 hM) | (refine slb hM ?_ (hty := row_a16) (hn := ndC_size _); clear hM; intro g7 w1 hM)) | ((with_reducible refine (HP.out _ hM.below).mono ?_); rintro e w1 ⟨A2, c2, rfl, hb⟩; replace hM := hM.newThing hb; clear hb) | ((with_reducible refine at_load ?_); first | refine slp hM ?_ (hX := HX.out) (hty := row_a32) | refine sll hM ?_) | ((with_reducible refine (HSG.out _ hM.below).mono ?_); rintro e w1 ⟨rfl, hb⟩; replace hM := hM.step hb; clear hb) | ((with_reducible refine at_build ?_); refine lbsgn ?_) | ((first | with_reducible refine at_load ?_ | ((with_reducible refine at_load_g ?_ ?_); (· rfl))); first | refine sll hM ?_ | refine slc hM ?_ | refine slp hM ?_) | ((with_reducible refine at_store ?_); first | (refine slw hM ?_; clear hM; intro wx hM) | (refine sls hM ?_; clear hM; intro wx hM) | (refine slt hM ?_; clear hM; intro wx hM)) | ((with_reducible refine at_alloc ?_); refine slz hM ?_; clear hM; intro gx wx hM) | ((with_reducible refine at_box ?_); refine slb hM ?_; clear hM; intro gx wx hM))
  obtain ⟨g13, hg13⟩ := hM.name1
  obtain ⟨g8, hg8⟩ := (hM.subL (List.Sublist.cons _ (List.sublist_cons_self _ _))).name1
  subst hg13 hg8
  replace hM := hM.subL (L' := [⟨g13, 37, 562, sigC (k : Nat) ch none 0 0⟩, ⟨g8, 37, 562, sigC 0 ch0 none 0 0⟩]) (List.Sublist.cons_cons _ (List.Sublist.cons _ (List.Sublist.cons_cons _ (List.nil_sublist _))))
  have M0 := Lib.hid (hM.newThing (hbecomes_zero none (KeptBut.refl _ _)))
  clear hM
  go_loopw [43] (fun i wr => ∃ (j : Nat) (E : Option Addr) (e2 : Nat), j ≤ h ∧ i = .int .i64 (j : Nat) ∧ Mem [] w [⟨g13, 37, 562, sigC (k : Nat) ch E j e2⟩, ⟨g8, 37, 562, sigC 0 ch0 none 0 0⟩] [p16T (.slice E j e2) (P.take j), ndT (.slice A2 h c2) P] wr) (fun i _ => h - (intOf i).toNat)
  case atStart => exact ⟨0, none, 0, by omega, rfl, M0.out⟩
  case round =>
    clear M0
    obtain ⟨j, E, e2, hj, rfl, hM⟩ := hrel
    by_cases hlt : j < h
    · have hjl : j < P.length := by have := HPL.out; omega
      obtain ⟨go, oo, rfl, _, h5⟩ := (ndT_in (hM.thing _ (List.Mem.tail _ (List.Mem.head _)))).row j hjl
      have htk : P.take (j + 1) = P.take j ++ [P[j]] := List.take_succ_eq_append_getElem hjl
      have hcl : (P.take j).length = j := by rw [List.length_take]; omega
      generalize P[j] = x at h5 htk
      generalize P.take j = cur at htk hcl hM
      have h63 : cur.length + [x].length ≤ 1000000000 := by simp; omega
      have HX5 := Lib.hid h5
      have HTK := Lib.hid htk
      have HCL := Lib.hid hcl
      have HCP := Lib.hid (sigC_p (k : Nat) ch E j e2)
      have HSP := Lib.hid (fun B m d => sigC_setp (k : Nat) ch E B j e2 m d)
      have q0 : (0 : Int) ≤ (j : Int) := Int.natCast_nonneg _
      have q1 : (j : Int) < (h : Int) := by omega
      generalize sigC (k : Nat) ch E j e2 = Y at hM HCP HSP
      clear h5 htk hcl hjl
      go_wp2_with (first | ((with_reducible refine at_load ?_); first | refine lr HX5.out ?_ (hty := row_nd) | refine slc hM ?_ (hv := HCP.out) | refine sll hM ?_) | (refine lb16 hM ?_; clear hM; intro g1 w5 hM) | ((with_reducible refine at_append ?_); refine la16 (src_16 hM (List.Mem.head _)) hM h63 ?_; clear hM; intro A3 N3 c3 wx hN3 hM) | ((with_reducible refine at_store ?_); first | (refine slw hM ?_; clear hM; intro wx hM) | (refine sls hM ?_ (hX := HSP.out _ _ _); clear hM; intro wx hM)) | ((first | with_reducible refine at_load ?_ | ((with_reducible refine at_load_g ?_ ?_); (· rfl))); first | refine sll hM ?_ | refine slc hM ?_ | refine slp hM ?_) | ((with_reducible refine at_store ?_); first | (refine slw hM ?_; clear hM; intro wx hM) | (refine sls hM ?_; clear hM; intro wx hM) | (refine slt hM ?_; clear hM; intro wx hM)) | ((with_reducible refine at_alloc ?_); refine slz hM ?_; clear hM; intro gx wx hM) | ((with_reducible refine at_box ?_); refine slb hM ?_; clear hM; intro gx wx hM))
      obtain rfl : N3 = j + 1 := by have := hN3.out; have := HCL.out; simp at *; omega
      exact ⟨⟨j + 1, A3, c3, by omega, by go_num, by rw [HTK.out]; exact hM.subL (List.Sublist.cons _ (List.Sublist.cons _ (List.Sublist.refl _)))⟩, by simp [intOf]; omega⟩
    · obtain rfl : j = h := by omega
      rw [List.take_of_length_le (by have := HPL.out; omega)] at hM
      clear hlt hj
      go_wp2_with (first | ((with_reducible refine at_load ?_); refine sll hM ?_ (hty := row_sgn)) | ((with_reducible refine at_store ?_); refine slw hM ?_ (hs := sigC_size _ _ _ _ _) (h1 := sigC_one _ _ _ _ _) (hty := row_sgn); clear hM; intro wx hM))
      have hb := hM.becomes (List.Mem.head _)
      exact bodyPost_ret (results_mem_cell_tmp hM rfl (by rfl) (by repeat (first | exact List.Mem.head _ | apply List.Mem.tail)) row_sgn (by rfl)) rfl ⟨E, e2, rfl, hb⟩
end Go.Proofs.YtbbdnlcjjcmllaaDoor
