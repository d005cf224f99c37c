/- Contract of Verify of signatures. The Signer: its cells; contracts of New, last. -/
import Derived.Test.YtbbdnlcjjcmllaaDoorWn
namespace Go.Proofs.YtbbdnlcjjcmllaaDoor
open Go Go.RowKit Go.Bul Go.Thg Go.Lin
theorem eq_16 (x y : Nd) (W : World) : (Op.equalIn 10000 23 (.agg (ndC x)) (.agg (ndC y))).run Tryd.prog W = .ok (decide (x = y)) W := by
  have h := run_equalIn_nums W 9998 x.val y.val Tryd.underlying23 Tryd.underlying5 (by kernel_rfl) x.len y.len
  have e : (x.val == y.val) = decide (x = y) := by
    by_cases hxy : x = y
    · subst hxy; simp
    · have : ¬ x.val = y.val := fun h => hxy (Nd.ext' h)
      simp [hxy, this]
  rw [e] at h
  exact h
/-- What Verify returns. -/
def verE (h : Int) (r d : Nd) (leaf : Int) (ch : Ch) (n : Nat) (path : List Nd) : Int :=
  if hE h ≠ 0 then hE h else if sgE leaf n ≠ 0 then sgE leaf n else if (n : Int) = h ∧ rootS leaf.toNat d ch path = r then 0 else 17
set_option maxRecDepth 20000 in
set_option maxHeartbeats 2000000 in
theorem gver_any (h : Int) (r d : Nd) (leaf : Int) (ch : Ch) (A : Option Addr) (n c : Nat) (path : List Nd) (w : World) (hr : NIn w A n path) (hT : Tab w) :
    Calls Tryd.prog 9 #[.agg (pubC h r), .agg (ndC d), .agg (sigC leaf ch A n c)] w fun e w' => e = .returned (.int .i64 (verE h r d leaf ch n path)) ∧ Below w.heap.size w w' := by
  have hM := Mem.start [] w
  have HPS := Lib.hid (pubC_size h r)
  have HP0 := Lib.hid (pubC_0 h r)
  have HPR := Lib.hid (pubC_r h r)
  have HS := Lib.hid (sigC_size leaf ch A n c)
  have HPP := Lib.hid (sigC_p leaf ch A n c)
  have HC := Lib.hid (fun w => pcheck_any h r w)
  unfold verE
  by_cases h1 : hE h = 0
  · rw [if_neg (by simp [h1])]
    rw [h1] at HC
    by_cases h2 : sgE leaf n = 0
    · rw [if_neg (by simp [h2])]
      obtain ⟨k, rfl⟩ : ∃ k : Nat, leaf = (k : Int) := by
        unfold sgE at h2
        split at h2
        · rename_i h3
          exact ⟨leaf.toNat, by omega⟩
        · cases h2
      have HR := Lib.hid (fun w' (hb : Below w.heap.size w w') => groot_yes k ch A n c path d w' (hr.keep hb) h2 (hT.keep hb))
      rw [Int.toNat_natCast]
      generalize rootS k d ch path = Z at HR ⊢
      generalize pubC h r = X at HPS HP0 HPR HC ⊢
      generalize sigC (k : Nat) ch A n c = Y at HS HPP HR ⊢
      have qe := eq_16 Z r
      clear hr hT h1 h2
      by_cases hn : (n : Int) = h
      · subst hn
        have r1 : ((n : Int) != (n : Int)) = false := by simp
        by_cases hz : Z = r
        · rw [if_pos ⟨rfl, hz⟩]
          rw [decide_eq_true hz] at qe
          clear hz
          go_enter Tryd.func9, Tryd.ntmps9
          go_wp2_with (first | ((with_reducible refine at_box ?_); first | (refine slb hM ?_ (hty := row_pub) (hn := HPS.out); clear hM; intro g3 w1 hM) | (refine slb hM ?_ (hty := row_sgn) (hn := HS.out); clear hM; intro g5 w1 hM) | (refine slb hM ?_ (hty := row_a16) (hn := ndC_size _); clear hM; intro g4 w1 hM)) | ((with_reducible refine (HC.out _).mono ?_); rintro e w1 ⟨rfl, hb⟩; replace hM := hM.step hb; clear hb) | ((with_reducible refine (HR.out _ hM.below).mono ?_); rintro e w1 ⟨rfl, hb⟩; replace hM := hM.step hb; clear hb) | ((first | with_reducible refine at_load ?_ | ((with_reducible refine at_load_g ?_ ?_); (· rfl))); first | refine slc hM ?_ (hv := HP0.out) | refine slc hM ?_ (hv := HPP.out) | refine slp hM ?_ (hX := HPR.out) (hty := row_a16) | refine sll hM ?_ (hty := row_pub) | refine sll hM ?_ (hty := row_sgn) | refine sll hM ?_ (hty := row_a16)) | ((first | with_reducible refine at_load ?_ | ((with_reducible refine at_load_g ?_ ?_); (· rfl))); first | refine sll hM ?_ | refine slc hM ?_ | refine slp hM ?_) | ((with_reducible refine at_store ?_); first | (refine slw hM ?_; clear hM; intro wx hM) | (refine sls hM ?_; clear hM; intro wx hM) | (refine slt hM ?_; clear hM; intro wx hM)) | ((with_reducible refine at_alloc ?_); refine slz hM ?_; clear hM; intro gx wx hM) | ((with_reducible refine at_box ?_); refine slb hM ?_; clear hM; intro gx wx hM))
          go_ret
          exact ⟨rfl, hM.below⟩
        · rw [if_neg (by simp [hz])]
          rw [decide_eq_false hz] at qe
          clear hz
          go_enter Tryd.func9, Tryd.ntmps9
          go_wp2_with (first | ((with_reducible refine at_box ?_); first | (refine slb hM ?_ (hty := row_pub) (hn := HPS.out); clear hM; intro g3 w1 hM) | (refine slb hM ?_ (hty := row_sgn) (hn := HS.out); clear hM; intro g5 w1 hM) | (refine slb hM ?_ (hty := row_a16) (hn := ndC_size _); clear hM; intro g4 w1 hM)) | ((with_reducible refine (HC.out _).mono ?_); rintro e w1 ⟨rfl, hb⟩; replace hM := hM.step hb; clear hb) | ((with_reducible refine (HR.out _ hM.below).mono ?_); rintro e w1 ⟨rfl, hb⟩; replace hM := hM.step hb; clear hb) | ((first | with_reducible refine at_load ?_ | ((with_reducible refine at_load_g ?_ ?_); (· rfl))); first | refine slc hM ?_ (hv := HP0.out) | refine slc hM ?_ (hv := HPP.out) | refine slp hM ?_ (hX := HPR.out) (hty := row_a16) | refine sll hM ?_ (hty := row_pub) | refine sll hM ?_ (hty := row_sgn) | refine sll hM ?_ (hty := row_a16)) | ((first | with_reducible refine at_load ?_ | ((with_reducible refine at_load_g ?_ ?_); (· rfl))); first | refine sll hM ?_ | refine slc hM ?_ | refine slp hM ?_) | ((with_reducible refine at_store ?_); first | (refine slw hM ?_; clear hM; intro wx hM) | (refine sls hM ?_; clear hM; intro wx hM) | (refine slt hM ?_; clear hM; intro wx hM)) | ((with_reducible refine at_alloc ?_); refine slz hM ?_; clear hM; intro gx wx hM) | ((with_reducible refine at_box ?_); refine slb hM ?_; clear hM; intro gx wx hM))
          go_ret
          exact ⟨rfl, hM.below⟩
      · rw [if_neg (by simp [hn])]
        have r1 : ((n : Int) != h) = true := by simpa using hn
        clear hn qe
        go_enter Tryd.func9, Tryd.ntmps9
        go_wp2_with (first | ((with_reducible refine at_box ?_); first | (refine slb hM ?_ (hty := row_pub) (hn := HPS.out); clear hM; intro g3 w1 hM) | (refine slb hM ?_ (hty := row_sgn) (hn := HS.out); clear hM; intro g5 w1 hM) | (refine slb hM ?_ (hty := row_a16) (hn := ndC_size _); clear hM; intro g4 w1 hM)) | ((with_reducible refine (HC.out _).mono ?_); rintro e w1 ⟨rfl, hb⟩; replace hM := hM.step hb; clear hb) | ((with_reducible refine (HR.out _ hM.below).mono ?_); rintro e w1 ⟨rfl, hb⟩; replace hM := hM.step hb; clear hb) | ((first | with_reducible refine at_load ?_ | ((with_reducible refine at_load_g ?_ ?_); (· rfl))); first | refine slc hM ?_ (hv := HP0.out) | refine slc hM ?_ (hv := HPP.out) | refine slp hM ?_ (hX := HPR.out) (hty := row_a16) | refine sll hM ?_ (hty := row_pub) | refine sll hM ?_ (hty := row_sgn) | refine sll hM ?_ (hty := row_a16)) | ((first | with_reducible refine at_load ?_ | ((with_reducible refine at_load_g ?_ ?_); (· rfl))); first | refine sll hM ?_ | refine slc hM ?_ | refine slp hM ?_) | ((with_reducible refine at_store ?_); first | (refine slw hM ?_; clear hM; intro wx hM) | (refine sls hM ?_; clear hM; intro wx hM) | (refine slt hM ?_; clear hM; intro wx hM)) | ((with_reducible refine at_alloc ?_); refine slz hM ?_; clear hM; intro gx wx hM) | ((with_reducible refine at_box ?_); refine slb hM ?_; clear hM; intro gx wx hM))
        go_ret
        exact ⟨rfl, hM.below⟩
    · rw [if_pos (by simpa using h2)]
      have HR := Lib.hid (fun w' (_ : Below w.heap.size w w') => groot_no leaf ch A n c d w' h2)
      have q1 : (sgE leaf n != 0) = true := by simpa using h2
      generalize sgE leaf n = e1 at q1 HR ⊢
      generalize pubC h r = X at HPS HP0 HPR HC ⊢
      generalize sigC leaf ch A n c = Y at HS HPP HR ⊢
      clear hr hT h1 h2
      go_enter Tryd.func9, Tryd.ntmps9
      go_wp2_with (first | ((with_reducible refine at_box ?_); first | (refine slb hM ?_ (hty := row_pub) (hn := HPS.out); clear hM; intro g3 w1 hM) | (refine slb hM ?_ (hty := row_sgn) (hn := HS.out); clear hM; intro g5 w1 hM) | (refine slb hM ?_ (hty := row_a16) (hn := ndC_size _); clear hM; intro g4 w1 hM)) | ((with_reducible refine (HC.out _).mono ?_); rintro e w1 ⟨rfl, hb⟩; replace hM := hM.step hb; clear hb) | ((with_reducible refine (HR.out _ hM.below).mono ?_); rintro e w1 ⟨rfl, hb⟩; replace hM := hM.step hb; clear hb) | ((first | with_reducible refine at_load ?_ | ((with_reducible refine at_load_g ?_ ?_); (· rfl))); first | refine slc hM ?_ (hv := HP0.out) | refine slc hM ?_ (hv := HPP.out) | refine slp hM ?_ (hX := HPR.out) (hty := row_a16) | refine sll hM ?_ (hty := row_pub) | refine sll hM ?_ (hty := row_sgn) | refine sll hM ?_ (hty := row_a16)) | ((first | with_reducible refine at_load ?_ | ((with_reducible refine at_load_g ?_ ?_); (· rfl))); first | refine sll hM ?_ | refine slc hM ?_ | refine slp hM ?_) | ((with_reducible refine at_store ?_); first | (refine slw hM ?_; clear hM; intro wx hM) | (refine sls hM ?_; clear hM; intro wx hM) | (refine slt hM ?_; clear hM; intro wx hM)) | ((with_reducible refine at_alloc ?_); refine slz hM ?_; clear hM; intro gx wx hM) | ((with_reducible refine at_box ?_); refine slb hM ?_; clear hM; intro gx wx hM))
      go_ret
      exact ⟨rfl, hM.below⟩
  · rw [if_pos (by simpa using h1)]
    have q1 : (hE h != 0) = true := by simpa using h1
    have HR := Lib.hid (fun w' (_ : Below w.heap.size w w') => (trivial : True))
    generalize hE h = e1 at q1 HC ⊢
    generalize pubC h r = X at HPS HP0 HPR HC ⊢
    generalize sigC leaf ch A n c = Y at HS HPP ⊢
    clear hr hT h1
    go_enter Tryd.func9, Tryd.ntmps9
    go_wp2_with (first | ((with_reducible refine at_box ?_); first | (refine slb hM ?_ (hty := row_pub) (hn := HPS.out); clear hM; intro g3 w1 hM) | (refine slb hM ?_ (hty := row_sgn) (hn := HS.out); clear hM; intro g5 w1 hM) | (refine slb hM ?_ (hty := row_a16) (hn := ndC_size _); clear hM; intro g4 w1 hM)) | ((with_reducible refine (HC.out _).mono ?_); rintro e w1 ⟨rfl, hb⟩; replace hM := hM.step hb; clear hb) | ((with_reducible refine (HR.out _ hM.below).mono ?_); rintro e w1 ⟨rfl, hb⟩; replace hM := hM.step hb; clear hb) | ((first | with_reducible refine at_load ?_ | ((with_reducible refine at_load_g ?_ ?_); (· rfl))); first | refine slc hM ?_ (hv := HP0.out) | refine slc hM ?_ (hv := HPP.out) | refine slp hM ?_ (hX := HPR.out) (hty := row_a16) | refine sll hM ?_ (hty := row_pub) | refine sll hM ?_ (hty := row_sgn) | refine sll hM ?_ (hty := row_a16)) | ((first | with_reducible refine at_load ?_ | ((with_reducible refine at_load_g ?_ ?_); (· rfl))); first | refine sll hM ?_ | refine slc hM ?_ | refine slp hM ?_) | ((with_reducible refine at_store ?_); first | (refine slw hM ?_; clear hM; intro wx hM) | (refine sls hM ?_; clear hM; intro wx hM) | (refine slt hM ?_; clear hM; intro wx hM)) | ((with_reducible refine at_alloc ?_); refine slz hM ?_; clear hM; intro gx wx hM) | ((with_reducible refine at_box ?_); refine slb hM ?_; clear hM; intro gx wx hM))
    go_ret
    exact ⟨rfl, hM.below⟩
end Go.Proofs.YtbbdnlcjjcmllaaDoor
namespace Go.Lin
open Go Go.Bul
def sgrC (s : Sd) (h : Int) (A : Option Addr) (n c : Nat) (next : Int) : Array Value := (vals .u8 s.val ++ [Value.int .i64 h, .slice A n c, .int .i64 next]).toArray
theorem sgrC_size (s : Sd) (h : Int) (A : Option Addr) (n c : Nat) (next : Int) : (sgrC s h A n c next).size = 35 := by simp [sgrC, s.len]
theorem sgrC_s (s : Sd) (h : Int) (A : Option Addr) (n c : Nat) (next : Int) : (sgrC s h A n c next).extract 0 (0 + 33) = secC s h := by
  have := sd_len s
  apply Array.ext'
  simp only [sgrC, secC, List.extract_toArray, List.extract_eq_take_drop, List.drop_zero, Nat.sub_zero, Nat.zero_add]
  rw [List.take_append, this, List.take_of_length_le (by omega)]
  rfl
theorem sgrC_at (s : Sd) (h : Int) (A : Option Addr) (n c : Nat) (next : Int) (i : Nat) : (sgrC s h A n c next)[32 + i]? = ([Value.int .i64 h, .slice A n c, .int .i64 next] : List Value)[i]? := by
  have := sd_len s
  simp only [sgrC, List.getElem?_toArray]
  rw [List.getElem?_append_right (by omega), this, Nat.add_sub_cancel_left]
theorem sgrC_h (s : Sd) (h : Int) (A : Option Addr) (n c : Nat) (next : Int) : (sgrC s h A n c next)[32]? = some (.int .i64 h) := sgrC_at s h A n c next 0
theorem sgrC_l (s : Sd) (h : Int) (A : Option Addr) (n c : Nat) (next : Int) : (sgrC s h A n c next)[33]? = some (.slice A n c) := sgrC_at s h A n c next 1
theorem sgrC_n (s : Sd) (h : Int) (A : Option Addr) (n c : Nat) (next : Int) : (sgrC s h A n c next)[34]? = some (.int .i64 next) := sgrC_at s h A n c next 2
theorem sgrC_setn (s : Sd) (h : Int) (A : Option Addr) (n c : Nat) (next m : Int) : (sgrC s h A n c next).setIfInBounds 34 (.int .i64 m) = sgrC s h A n c m := by
  have := sd_len s
  apply Array.ext'
  simp only [sgrC, List.setIfInBounds_toArray]
  rw [List.set_append_right _ _ (by omega), this]
  rfl
end Go.Lin
namespace Go.Proofs.YtbbdnlcjjcmllaaDoor
open Go Go.RowKit Go.Bul Go.Thg Go.Lin
def sd0 : Sd := ⟨Go.Thg.zeros 32, List.length_replicate, by intro x hx; have := List.eq_of_mem_replicate hx; omega⟩
def sgrPlaces : Array (Nat × Nat) := #[(0, 33), (33, 1), (34, 1)]
theorem splice_at (A B C X : List Value) (hX : X.length = B.length) : splice (A ++ (B ++ C)) A.length X = A ++ (X ++ C) := by
  unfold splice
  rw [List.take_left, hX, ← List.drop_drop, List.drop_left, List.drop_left]
theorem run_sgr (s : Sd) (h : Int) (A : Option Addr) (n c : Nat) (next : Int) (w : World) : (Instr.build 90 #[(0, .agg (secC s h)), (1, .slice A n c), (2, .int .i64 next)]).run Tryd.prog w = .ok (.agg (sgrC s h A n c next)) w := by
  refine run_build_struct (places := sgrPlaces) (show Tryd.prog.underlying 90 = some (.struct (Tryd.prog.fieldsOf 90)) by kernel_rfl) (show (Tryd.prog.info? 90).map (·.zero) = some (some (.agg (sgrC sd0 0 none 0 0 0))) by kernel_rfl) (fun w => by kernel_rfl) ?_ w
  have e0 := sd_len sd0
  have e1 := sd_len s
  show Instr.fill _ (sgrC sd0 0 none 0 0 0) [(0, .agg (secC s h)), (1, .slice A n c), (2, .int .i64 next)] = _
  rw [fill_cons (size := 33) rfl (by exact secC_size _ _) (by rw [sgrC_size]; omega)]
  have e2 : (splice (sgrC sd0 0 none 0 0 0).toList 0 (Value.cells (.agg (secC s h))).toList).toArray = sgrC s h none 0 0 0 := by
    have h := splice_at [] (vals .u8 sd0.val ++ [Value.int .i64 0]) [.slice none 0 0, .int .i64 0] (vals .u8 s.val ++ [Value.int .i64 h]) (by simp only [List.length_append, e0, e1, List.length_singleton])
    simp only [List.nil_append, List.append_assoc, List.length_nil] at h
    exact congrArg List.toArray h
  rw [e2, fill_cons (size := 1) rfl rfl (by rw [sgrC_size]; omega)]
  have e3 : (splice (sgrC s h none 0 0 0).toList 33 (Value.cells (.slice A n c)).toList).toArray = sgrC s h A n c 0 := by
    have h := splice_at (vals .u8 s.val ++ [Value.int .i64 h]) [.slice none 0 0] [.int .i64 0] [.slice A n c] rfl
    simp only [List.append_assoc, List.length_append, e1, List.length_singleton] at h
    exact congrArg List.toArray h
  rw [e3, fill_cons (size := 1) rfl rfl (by rw [sgrC_size]; omega)]
  have e4 : (splice (sgrC s h A n c 0).toList 34 (Value.cells (.int .i64 next)).toList).toArray = sgrC s h A n c next := by
    have h := splice_at (vals .u8 s.val ++ [Value.int .i64 h, .slice A n c]) [.int .i64 0] [] [.int .i64 next] rfl
    simp only [List.append_assoc, List.length_append, e1, List.length_cons, List.length_nil, List.append_nil] at h
    exact congrArg List.toArray h
  rw [e4]
  rfl
section
variable {w : World} {o : Oper} {a : Act} {x0 x1 x2 : Operand} {s : Sd} {h next : Int} {A : Option Addr} {n c : Nat}
theorem held_sgr (ho : o.op = .build 90 #[(0, x0), (1, x1), (2, x2)] := by rfl) (h0 : a.eval x0 = .agg (secC s h) := by rfl) (hx : a.eval x1 = .slice A n c := by rfl) (hy : a.eval x2 = .int .i64 next := by rfl) : (execOp a.eval o).run Tryd.prog w = .ok (.value (.agg (sgrC s h A n c next))) w := by
  unfold execOp
  simp only [ho, List.map_toArray, List.map_cons, List.map_nil, h0, hx, hy, Sem.run_bind, run_sgr, Result.andThen_ok, Sem.run_pure]
end
set_option maxRecDepth 20000 in
set_option maxHeartbeats 2000000 in
theorem new_yes (s : Sd) (h : Nat) (next : Int) (w : World) (h1 : 1 ≤ h) (hh : h ≤ 8) (n0 : 0 ≤ next) (n1 : next ≤ 2 ^ h) (hT : Tab w) :
    Calls Tryd.prog 16 #[.agg (secC s (h : Nat)), .int .i64 next] w fun e w' => ∃ g A c, e = .returned (.tuple #[.pointer (some ⟨g, 0, none⟩), .int .i64 0]) ∧ Mem [] w [⟨g, 90, 35, sgrC s (h : Nat) A (2 ^ h) c next⟩] [ndT (.slice A (2 ^ h) c) (lvsN s (2 ^ h))] w' := by
  have hM := Mem.start [] w
  have HS := Lib.hid (secC_size s (h : Nat))
  have HH := Lib.hid (secC_h s (h : Nat))
  have HC := Lib.hid (fun w => scheck_any s (h : Nat) w)
  rw [show hE (h : Nat) = 0 by unfold hE; rw [if_pos (by omega)]] at HC
  have HL := Lib.hid (fun w' (hb : Below w.heap.size w w') => leaves_any s h w' hh (hT.keep hb))
  have hp : 2 ^ h ≤ 2 ^ 8 := Nat.pow_le_pow_right (by decide) hh
  have hp2 : (2 : Int) ^ h = ((2 ^ h : Nat) : Int) := by simp
  have c4 : wrap64 ((2 : Int) ^ h) = (2 : Int) ^ h := by rw [hp2]; have := Int.natCast_nonneg (2 ^ h); unfold wrap64; omega
  have c1 : decide (next < 0) = false := decide_eq_false (by omega)
  have c2 : decide ((2 : Int) ^ h < next) = false := decide_eq_false (by omega)
  have q0 : (0 : Int) ≤ (h : Int) := Int.natCast_nonneg _
  have q1 : (h : Int) ≤ 8 := by omega
  generalize lvsN s (2 ^ h) = LV at HL ⊢
  generalize 2 ^ h = N at HL ⊢
  obtain ⟨X, hX⟩ : ∃ X, secC s (h : Nat) = X := ⟨_, rfl⟩
  have HX := Lib.hid hX
  rw [hX] at HS HH HC HL ⊢
  clear hh h1 hT hp hp2 n0 n1 hX
  go_enter Tryd.func16, Tryd.ntmps16
  go_upto_region 6 with (first | ((with_reducible refine at_box ?_); refine slb hM ?_ (hty := row_sec) (hn := HS.out); clear hM; intro g2 w1 hM) | ((with_reducible refine (HC.out _).mono ?_); rintro e w1 ⟨rfl, hb⟩; replace hM := hM.step hb; clear hb) | ((first | with_reducible refine at_load ?_ | ((with_reducible refine at_load_g ?_ ?_); (· rfl))); first | refine slc hM ?_ (hv := HH.out) | refine sll hM ?_ (hty := row_sec)))
  obtain ⟨g2, hg2⟩ := hM.name1
  subst hg2
  refine wp_region_allHM hM (HeldM [⟨g2, 28, 33, X⟩]) (by kernel_rfl) ?_
  clear hM
  intro wd hM
  have hS := HeldM.of (hM.subL (L' := [⟨g2, 28, 33, X⟩]) (List.Sublist.refl _))
  refine wpAllH_takes [3, 0, 1] (by kernel_rfl) (fun _ _ _ _ _ h => h) hS (by kernel_rfl) ?_
  simp only [pickOps, List.filterMap_cons, List.filterMap_nil, List.getElem?_cons_zero, List.getElem?_cons_succ]
  repeat ((with_reducible apply wpHeld_step); (· rfl); (· (intro w hSw; first | (go_simp; rfl) | ((obtain ⟨_, _, _, hM'⟩ := hSw; exact yields_load (C := fun _ => True) (sql hM' (hty := row_sec)) rfl)))); intro K hK; go_simp; (with_reducible refine hK _ ?_); clear hK K)
  refine wpHeld_nil ?_
  refine wpAllH_one 2 rfl (by kernel_rfl) ?_
  go_wp2_with fail
  refine (HL.out _ hM.below).mono ?_
  rintro e w1 ⟨A, c, rfl, hb⟩
  replace hM := hM.newThing hb
  clear hb hS
  have hS := HeldM.of (hM.subL (L' := [⟨g2, 28, 33, X⟩]) (List.Sublist.refl _))
  go_wp2_with fail
  refine then_normal ⟨hS, ?_⟩
  refine wpAllH_takes [4] (by kernel_rfl) (fun _ _ _ _ _ h => h) hS (by kernel_rfl) ?_
  simp only [pickOps, List.filterMap_cons, List.filterMap_nil, List.getElem?_cons_zero, List.getElem?_cons_succ]
  repeat ((with_reducible apply wpHeld_step); (· rfl); (· (intro w hSw; first | (go_simp; rfl) | (exact held_sgr (h0 := by rw [← HX.out]; rfl)))); intro K hK; go_simp; (with_reducible refine hK _ ?_); clear hK K)
  refine wpHeld_nil ?_
  refine wpAllH_one 5 rfl (by kernel_rfl) ?_
  refine slb hM ?_ (hty := row_sgr) (hn := sgrC_size _ _ _ _ _ _)
  clear hM hS
  intro g wz hM
  have hS := HeldM.of (hM.subL (L' := [⟨g2, 28, 33, X⟩]) (List.sublist_cons_self _ _))
  refine wpList_then ⟨hS, ?_⟩
  refine wpAllH_takes [6, 7] (by kernel_rfl) (fun _ _ _ _ _ h => h) hS (by kernel_rfl) ?_
  simp only [pickOps, List.filterMap_cons, List.filterMap_nil, List.getElem?_cons_zero, List.getElem?_cons_succ]
  repeat ((with_reducible apply wpHeld_step); (· rfl); (· (intro w hSw; first | (go_simp; rfl) | (fail))); intro K hK; go_simp; (with_reducible refine hK _ ?_); clear hK K)
  refine wpHeld_nil ?_
  refine wpAllH_done (by kernel_rfl) ?_
  go_wp2_with fail
  go_ret2
  exact ⟨g, A, c, rfl, hM.subL (List.Sublist.cons_cons _ (List.nil_sublist _))⟩
set_option maxRecDepth 20000 in
theorem last_any (g : Nat) (h : Nat) (w : World) (hc : w.cell? ⟨g, 32, none⟩ = some (.int .i64 (h : Nat))) (hh : h ≤ 8) :
    Calls Tryd.prog 38 #[.pointer (some ⟨g, 0, none⟩)] w fun e w' => e = .returned (.int .i64 ((2 : Int) ^ h - 1)) ∧ w = w' := by
  have HC := Lib.hid hc
  have hp : 2 ^ h ≤ 2 ^ 8 := Nat.pow_le_pow_right (by decide) hh
  have hp2 : (2 : Int) ^ h = ((2 ^ h : Nat) : Int) := by simp
  have hp3 : (0 : Int) ≤ (2 : Int) ^ h := by rw [hp2]; exact Int.natCast_nonneg _
  have hp4 : (2 : Int) ^ h ≤ 256 := by rw [hp2]; omega
  have c4 : wrap64 ((2 : Int) ^ h) = (2 : Int) ^ h := by unfold wrap64; omega
  have c5 : IntKind.i64.wrap ((2 : Int) ^ h - 1) = (2 : Int) ^ h - 1 := IntWalk.i64_in _ ⟨by omega, by omega⟩
  have q0 : (0 : Int) ≤ (h : Int) := Int.natCast_nonneg _
  have q1 : (h : Int) ≤ 8 := by omega
  clear hc hh hp hp2 hp3 hp4
  go_enter Tryd.func38, Tryd.ntmps38
  go_wp2_with ((with_reducible refine at_load ?_); refine lo HC.out ?_ (hty := one_int))
  go_ret
  exact ⟨rfl, rfl⟩
end Go.Proofs.YtbbdnlcjjcmllaaDoor
