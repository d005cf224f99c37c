/- Rows of the reference's windows. The laws' helper cut. -/
import Derived.Test.YtenflgbaibjeoaaLne
import Derived.Great.BuildSlice
namespace Go.Proofs.Ytenflgbaibjeoaa
open Go Go.RowKit Go.Bul Go.Thg Go.Lin
/-- A row of the reference's windows. -/
def wT (v : Value) (ws : List Win) : Thing := rowT 92 2 v ws.length (winCells ws)
theorem wT_wins {A : Option Addr} {n c : Nat} {ws : List Win} {w : World} (h : (wT (.slice A n c) ws).P w) : Wins w A n ws := by
  have h' : OffRow w 92 2 (.slice A n c) ws.length (winCells ws) := h
  obtain ⟨A', c', he, _⟩ := h'.form
  have e : n = ws.length := by injection he
  subst e
  exact OffRow.reads h'
section
variable {w w0 : World} {G : List Nat} {L : List Ent} {R : List Thing} {ops : Array Oper} {rest : List Oper} {o : Oper} {a : Act} {Q : Exit → Act → World → Prop}
theorem wT_zero (A : Option Addr) (w : World) : (wT (.slice A 0 0) []).P w := OffRow.empty w _ _ A
theorem becomes_wzero {G : List Nat} {w w' : World} (A : Option Addr) (h : KeptBut G w w') : Becomes G w (wT (.slice A 0 0) []) w' :=
  ⟨wT_zero A w', h, fun g hg => by rw [show (wT (.slice A 0 0) []).fp = [] from sFp_zero] at hg; cases hg⟩
theorem run_none (w : World) : (Instr.buildSlice 40 0 #[]).run Try.prog w = .ok (.slice (some ⟨w.heap.size, 0, none⟩) 0 0) (w.alloc (.cells #[] 92)) := by
  have h : (Try.prog.info? 92).map (·.size) = some 2 := by kernel_rfl
  cases hq : Try.prog.info? 92 with
  | none => rw [hq] at h; simp at h
  | some i =>
    rw [hq] at h
    simp [Instr.buildSlice, run_underlying Try.underlying40, sizeOf, typeInfo, hq, newRow, Instr.fill]
    have e : (Array.map (fun _ => (default : Value)) (Array.range 0)) = #[] := Array.eq_empty_of_size_eq_zero (by simp)
    rw [e]
variable {s x : Operand} {v y : Value} {xs ys : List Win} {m : Nat} {F : Thing → List Thing}
/-- append the reference's windows onto a row of them. -/
theorem laW (hs : Src Try.prog 2 40 y m (winCells ys) w) (hM : Mem G w0 L R w) (h63 : xs.length + ys.length ≤ 1000000000)
    (h : ∀ A' N c' w', Hid (N = (xs ++ ys).length) → Mem G w0 L (F (wT (.slice A' N c') (xs ++ ys))) w' → wpList Try.prog ops Q rest (a.put o.dst (.slice A' N c')) w')
    (hgd : o.guard = none := by rfl) (ho : o.op = .call { callee := .builtin .append, args := #[s, x], argTypes := #[40, 40] } := by rfl) (hv : a.eval s = v := by rfl) (hR : UpdR (wT v xs) R F := by repeat (first | exact UpdR.head _ _ | apply UpdR.tail)) (hy : a.eval x = y := by rfl) : wpList Try.prog ops Q (o :: rest) a w := by
  have hl : m = ys.length := by have := hs.newsLen; rw [winCells_length] at this; omega
  subst hl
  refine wpList_append_thing hM 40 _ 92 (.agg #[.int .i64 0, .int .i64 0]) 2 16 Try.underlying40 info_W rfl hgd s x ho v hv xs.length (winCells xs) F hR y hy _ _ hs h63 (by decide) fun A' N c' w' hN hm => ?_
  refine h A' N c' w' (Lib.hid (by simp [hN])) ?_
  have e : wT (.slice A' N c') (xs ++ ys) = rowT 92 2 (.slice A' N c') N (winCells xs ++ winCells ys) := by
    unfold wT
    rw [hN]
    simp [winCells]
  rw [e]
  exact hm
/-- A slice literal of no window. -/
theorem lbn (hM : Mem G w0 L R w) (h : ∀ g w', Mem G w0 L (wT (.slice (some ⟨g, 0, none⟩) 0 0) [] :: R) w' → wpList Try.prog ops Q rest (a.put o.dst (.slice (some ⟨g, 0, none⟩) 0 0)) w')
    (hgd : o.guard = none := by rfl) (ho : o.op = .buildSlice 40 0 #[] := by rfl) : wpList Try.prog ops Q (o :: rest) a w := by
  refine wpList_plain hgd fun K hK => ?_
  unfold Oper.wp execOp
  simp only [ho, List.map_toArray, List.map_nil, Sem.run_bind, run_none, Result.andThen_ok]
  exact hK _ _ (h _ _ ((hM.step ((Below.refl _ _).alloc (Nat.le_refl _) (.cells #[] 92))).newThing (becomes_wzero _ (KeptBut.refl _ _))))
end
section
variable {w w0 : World} {G : List Nat} {L : List Ent} {R : List Thing} {ops : Array Oper} {rest : List Oper} {o : Oper} {a : Act} {Q : Exit → Act → World → Prop} {x : Operand} {f t : Int}
theorem run_win (f t : Int) (w : World) : (Instr.buildSlice 25 1 #[(0, .agg #[.int .i64 f, .int .i64 t])]).run Try.prog w = .ok (.slice (some ⟨w.heap.size, 0, none⟩) 1 1) (w.alloc (.cells #[.int .i64 f, .int .i64 t] 24)) := by
  have h := info_win
  cases hq : Try.prog.info? 24 with
  | none => rw [hq] at h; simp at h
  | some i =>
    rw [hq] at h
    simp only [Option.map_some, Option.some.injEq, Prod.mk.injEq] at h
    refine run_buildSlice w _ _ 1 _ _ i _ Try.underlying25 hq h.1 (by rw [h.2.1]; decide) (by rw [h.2.1]; decide) ?_
    rw [h.2.1]
    have hz : Array.map (fun x => (Value.agg #[Value.int IntKind.i64 0, Value.int IntKind.i64 0]).cells[x % (Value.agg #[Value.int IntKind.i64 0, Value.int IntKind.i64 0]).cells.size]!) (Array.range (1 * 2)) = #[Value.int IntKind.i64 0, Value.int IntKind.i64 0] := by kernel_rfl
    rw [hz]
    simp [Instr.fill, Value.cells]
/-- A slice of one window, written out. -/
theorem lbw (hM : Mem G w0 L R w) (h : ∀ g w', Mem G w0 (⟨g, 24, 2, #[.int .i64 f, .int .i64 t]⟩ :: L) R w' → wpList Try.prog ops Q rest (a.put o.dst (.slice (some ⟨g, 0, none⟩) 1 1)) w')
    (hgd : o.guard = none := by rfl) (ho : o.op = .buildSlice 25 1 #[(0, x)] := by rfl) (hx : a.eval x = .agg #[.int .i64 f, .int .i64 t] := by rfl) : wpList Try.prog ops Q (o :: rest) a w := by
  refine wpList_plain hgd fun K hK => ?_
  unfold Oper.wp execOp
  simp only [ho, List.map_toArray, List.map_cons, List.map_nil, hx, Sem.run_bind, run_win, Result.andThen_ok]
  exact hK _ _ (h _ _ (hM.alloc _ _ rfl))
theorem wins_one {g : Nat} (hM : Mem G w0 L R w) (hL : ⟨g, 24, 2, #[.int .i64 f, .int .i64 t]⟩ ∈ L) : Wins w (some ⟨g, 0, none⟩) 1 [(f, t)] := by
  have hB := hM.blk hL
  refine ⟨rfl, fun _ => ⟨g, 0, rfl, hB.lt, fun j u hu => (hB.cell _).trans ?_⟩⟩
  rw [Nat.zero_add]
  simpa [winCells] using hu
end
end Go.Proofs.Ytenflgbaibjeoaa
namespace Go.Proofs.Ytenflgbaibjeoaa
open Go Go.RowKit Go.Bul Go.Thg Go.Lin
theorem size_W : (Try.prog.info? 92).map (·.size) = some 2 := by kernel_rfl
theorem winCells_take : ∀ (k : Nat) (ws : List Win), (winCells ws).take (k * 2) = winCells (ws.take k)
  | 0, _ => by simp [winCells]
  | k + 1, [] => by simp [winCells]
  | k + 1, w :: ws => by
    have := winCells_take k ws
    show (Value.int .i64 w.1 :: .int .i64 w.2 :: winCells ws).take ((k + 1) * 2) = .int .i64 w.1 :: .int .i64 w.2 :: winCells (ws.take k)
    rw [show (k + 1) * 2 = k * 2 + 1 + 1 by omega, List.take_succ_cons, List.take_succ_cons, this]
theorem Wins.take {w : World} {A : Option Addr} {n : Nat} {ws : List Win} (h : Wins w A n ws) (k : Nat) (hk : k ≤ n) : Wins w A k (ws.take k) := by
  have := Reads.take h k hk
  rwa [winCells_take] at this
theorem wins_src {w : World} {A : Option Addr} {n c : Nat} {ws : List Win} (h : Wins w A n ws) : Src Try.prog 2 40 (.slice A n c) (ws.length) (winCells ws) w := by
  have e := h.len
  subst e
  exact Reads.src h Try.underlying40 (winCells_one _)
set_option maxRecDepth 20000 in
theorem cut_any (r d p : Int) (A : Option Addr) (n c : Nat) (ws : List Win) (w : World) (hW : Wins w A n ws) (hnc : n ≤ c) (hA : advA A 0 c 2 = A) :
    Calls Try.prog 20 #[cfgV r d p A n c] w fun e w' => ∃ A' N c', N = (ws.take 40).length ∧ e = .returned (cfgV r d p A' N c') ∧ Becomes [] w (wT (.slice A' N c') (ws.take 40)) w' := by
  have hM := Mem.start [] w
  obtain ⟨k, hk⟩ : ∃ k : Nat, (if (40 : Int) < (n : Int) then (40 : Int) else (n : Int)) = k := by
    by_cases h : (40 : Int) < (n : Int)
    · exact ⟨40, by rw [if_pos h]; rfl⟩
    · exact ⟨n, by rw [if_neg h]⟩
  have hk2 : (k = 40 ∧ 40 < n) ∨ (k = n ∧ n ≤ 40) := by split at hk <;> omega
  have hkc : k ≤ c := by omega
  have hkn : k ≤ n := by omega
  have HW := Lib.hid (hW.take k hkn)
  have e : ws.take k = ws.take 40 := by
    have := hW.len
    rcases hk2 with ⟨h, _⟩ | ⟨h, h2⟩
    · rw [h]
    · rw [List.take_of_length_le (by omega), List.take_of_length_le (by omega)]
  rw [e] at HW
  have HL := Lib.hid (show ([] : List Win).length + (ws.take 40).length ≤ 1000000000 by simp; omega)
  have HK := Lib.hid hk
  have HA := Lib.hid hA
  generalize ws.take 40 = us at HW HL ⊢
  clear e hW hkn hk hk2 hA hnc
  go_enter Try.func20, Try.ntmps20
  go_wp2_with (first | (refine lbn hM ?_; clear hM; intro gw ww hM) | ((with_reducible refine at_slice ?_); refine lsl_hi Try.underlying40 size_W hkc HA.out ?_ (hy := by exact congrArg (Value.int .i64) HK.out)) | ((with_reducible refine at_append ?_); refine laW (wins_src (HW.out.keep hM.below)) hM HL.out ?_; clear hM; intro A' N c' wx hN hM) | ((with_reducible refine at_store ?_); refine ls hM ?_ (v := .slice A' N c'); clear hM; intro wx hM) | ((first | with_reducible refine at_load ?_ | ((with_reducible refine at_load_g ?_ ?_); (· rfl))); first | refine lc hM ?_ | refine ll hM ?_ | refine lp hM ?_) | ((with_reducible refine at_store ?_); first | (refine ls hM ?_; clear hM; intro wx hM) | (refine lw hM ?_; clear hM; intro wx hM) | (refine lt hM ?_; clear hM; intro wx hM)) | ((with_reducible refine at_alloc ?_); refine lz hM ?_; clear hM; intro gx wx hM) | ((with_reducible refine at_box ?_); refine lb hM ?_; clear hM; intro gx wx hM))
  all_goals obtain rfl : N = us.length := by rw [hN.out]; rfl
  all_goals exact bodyPost_ret (results_mem_cell hM rfl (by rfl) (by repeat (first | exact List.Mem.head _ | apply List.Mem.tail)) (by first | exact row_cfg | exact row_win | exact row_line | exact row_end | exact row_ends | exact row_pkt | exact row_C | exact row_W | exact row_L | exact row_End | exact row_Ends | exact row_B | exact row_op | exact row_str2 | exact row_b3)) rfl ⟨A', c', rfl, hM.becomes (by exact List.Mem.head _)⟩
end Go.Proofs.Ytenflgbaibjeoaa
