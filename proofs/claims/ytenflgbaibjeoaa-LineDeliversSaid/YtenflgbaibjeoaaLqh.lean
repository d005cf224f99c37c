/- LineDelivers: the walk. -/
import Derived.Test.YtenflgbaibjeoaaLqg
import Derived.Test.YtenflgbaibjeoaaLnw
import Derived.Test.YtenflgbaibjeoaaRgm
import Derived.Test.YtenflgbaibjeoaaLqa
namespace Go.Lin
open Go Go.Bul
/-- The line's states. -/
theorem nums_lt (s : ByteArray) : ∀ x ∈ nums s, x < 256 := bytes_of_nums s
end Go.Lin
namespace Go.Proofs.Ytenflgbaibjeoaa
open Go Go.RowKit Go.Bul Go.Thg Go.Lin
section
variable {w w0 : World} {G : List Nat} {L : List Ent} {R : List Thing} {ops : Array Oper} {rest : List Oper} {o : Oper} {a : Act} {Q : Exit → Act → World → Prop} {x y : Operand} {f t f' t' : Int}
theorem run_win2 (f t f' t' : Int) (w : World) : (Instr.buildSlice 25 2 #[(0, .agg #[.int .i64 f, .int .i64 t]), (1, .agg #[.int .i64 f', .int .i64 t'])]).run Try.prog w = .ok (.slice (some ⟨w.heap.size, 0, none⟩) 2 2) (w.alloc (.cells #[.int .i64 f, .int .i64 t, .int .i64 f', .int .i64 t'] 24)) := by
  have h := info_win
  cases hq : Try.prog.info? 24 with
  | none => rw [hq] at h; simp at h
  | some i =>
    rw [hq] at h
    simp only [Option.map_some, Option.some.injEq, Prod.mk.injEq] at h
    refine run_buildSlice w _ _ 2 _ _ i _ Try.underlying25 hq h.1 (by rw [h.2.1]; decide) (by rw [h.2.1]; decide) ?_
    rw [h.2.1]
    have hz : Array.map (fun x => (Value.agg #[Value.int IntKind.i64 0, Value.int IntKind.i64 0]).cells[x % (Value.agg #[Value.int IntKind.i64 0, Value.int IntKind.i64 0]).cells.size]!) (Array.range (2 * 2)) = #[Value.int IntKind.i64 0, Value.int IntKind.i64 0, Value.int IntKind.i64 0, Value.int IntKind.i64 0] := by kernel_rfl
    rw [hz]
    simp [Instr.fill, Value.cells]
/-- A slice of two windows, written out. -/
theorem lbw2 (hM : Mem G w0 L R w) (h : ∀ g w', Mem G w0 (⟨g, 24, 4, #[.int .i64 f, .int .i64 t, .int .i64 f', .int .i64 t']⟩ :: L) R w' → wpList Try.prog ops Q rest (a.put o.dst (.slice (some ⟨g, 0, none⟩) 2 2)) w')
    (hgd : o.guard = none := by rfl) (ho : o.op = .buildSlice 25 2 #[(0, x), (1, y)] := by rfl) (hx : a.eval x = .agg #[.int .i64 f, .int .i64 t] := by rfl) (hy : a.eval y = .agg #[.int .i64 f', .int .i64 t'] := by rfl) : wpList Try.prog ops Q (o :: rest) a w := by
  refine wpList_plain hgd fun K hK => ?_
  unfold Oper.wp execOp
  simp only [ho, List.map_toArray, List.map_cons, List.map_nil, hx, hy, Sem.run_bind, run_win2, Result.andThen_ok]
  exact hK _ _ (h _ _ (hM.alloc _ _ rfl))
theorem wins_two {g : Nat} (hM : Mem G w0 L R w) (hL : ⟨g, 24, 4, #[.int .i64 f, .int .i64 t, .int .i64 f', .int .i64 t']⟩ ∈ L) : Wins w (some ⟨g, 0, none⟩) 2 [(f, t), (f', t')] := by
  have hB := hM.blk hL
  refine ⟨rfl, fun _ => ⟨g, 0, rfl, hB.lt, fun j u hu => (hB.cell _).trans ?_⟩⟩
  rw [Nat.zero_add]
  simpa [winCells] using hu
end
attribute [local irreducible] HasLine
set_option maxRecDepth 20000 in
set_option maxHeartbeats 8000000 in
theorem deliver_empty (zr zd : Int) (text b : ByteArray) (w : World) (R D C : Nat) (s : Int) (S0 S1 : Ln) (hr0 : 0 ≤ zr) (hd0 : 0 ≤ zd) (hr1 : zr < 65536) (hd1 : zd < 65536)
    (M : Int) (hm : (if (200 : Int) < (text.size : Int) then (200 : Int) else (text.size : Int)) = M) (hb : text.extract 0 M.toNat = b) (hbs : min M.toNat text.size = b.size)
    (hR : 1 + zr % 300 = (R : Int)) (hD : zd % 50 = (D : Int)) (hpar : (b.size : Int) % 2 = s) (hb200 : b.size ≤ 200) (hb0 : b.size = 0) (hC : ((b.size : Int) + (R : Int) - 1).tdiv (R : Int) = (C : Int)) (hC2 : (C : Int) ≤ 1000)
    (H0 : Hid (∀ (A : Option Addr) (c : Nat) w', Wins w' A 2 alw → Calls Try.prog 14 #[cfgV R D 10 A 2 c] w' fun e w'' => ∃ g, e = .returned (.tuple #[.pointer (some ⟨g, 0, none⟩), .int .i64 0]) ∧ HasLine [] w' [] [] g S0 w''))
    (H1 : Hid (∀ (L : List Ent) (T : List Thing) p w', HasLine [] w L T p S0 w' → Calls Try.prog 16 #[.pointer (some ⟨p, 0, none⟩), .int .i64 s, .string b] w' fun e w'' => e = .returned (.int .i64 0) ∧ HasLine [] w L T p S1 w'')) :
    Calls Try.prog 3 #[.int .u16 zr, .int .u16 zd, .string text] w fun e w' => e = .returned (.bool true) ∧ Below w.heap.size w w' := by
  have e : b = ⟨#[]⟩ := by
    obtain ⟨⟨l⟩⟩ := b
    simp [ByteArray.size] at hb0
    rw [hb0]
  have c1 : (b.toList == []) = true := by rw [e, ByteArray.toList_eq]; rfl
  clear e hb0
  have hM := Mem.start [] w
  have hRp : 1 ≤ (R : Int) ∧ (R : Int) ≤ 300 := by omega
  have hDp : 0 ≤ (D : Int) ∧ (D : Int) ≤ 50 := by omega
  have hC0 : (0 : Int) ≤ (C : Int) := by omega
  have hRn : ¬ (R = 0) := by omega
  have hbp : 0 ≤ (b.size : Int) ∧ (b.size : Int) ≤ 200 := by omega
  have w1 : IntKind.i64.wrap ((b.size : Int) + R) = (b.size : Int) + R := IntWalk.i64_in _ ⟨by omega, by omega⟩
  have w2 : IntKind.i64.wrap ((b.size : Int) + R - 1) = (b.size : Int) + R - 1 := IntWalk.i64_in _ ⟨by omega, by omega⟩
  have w3 : IntKind.i64.wrap (C : Int) = C := IntWalk.i64_in _ ⟨by omega, by omega⟩
  have w4 : IntKind.i64.wrap ((C : Int) + D) = C + D := IntWalk.i64_in _ ⟨by omega, by omega⟩
  clear hb200
  go_enter Try.func3, Try.ntmps3
  go_upto_region 5 with (first | (refine lbw2 hM ?_; clear hM; intro gw ww hM) | ((with_reducible refine (H0.out _ _ _ (wins_two hM (List.Mem.tail _ (List.Mem.head _)))).mono ?_); rintro e w2 ⟨g, rfl, hH⟩; replace hH := HasLine.frame hM hH) | ((first | with_reducible refine at_load ?_ | ((with_reducible refine at_load_g ?_ ?_); (· rfl))); first | refine lc hM ?_ | refine ll hM ?_ | refine lp hM ?_) | ((with_reducible refine at_store ?_); first | (refine ls hM ?_; clear hM; intro wx hM) | (refine lw hM ?_; clear hM; intro wx hM) | (refine lt hM ?_; clear hM; intro wx hM)) | ((with_reducible refine at_alloc ?_); refine lz hM ?_; clear hM; intro gx wx hM) | ((with_reducible refine at_box ?_); refine lb hM ?_; clear hM; intro gx wx hM))
  clear hM
  go_upto_region 8 with (first | ((with_reducible refine (known_any _).mono ?_); rintro e w2 ⟨rfl, hb⟩; replace hH := hH.step hb; clear hb))
  obtain ⟨fp, hM⟩ := hH.ex
  clear hH
  refine Go.Bul.wp_region_class (Mem _ w _ _) (by kernel_rfl) (by kernel_rfl) hM.drew ?_
  repeat ((with_reducible refine wpQuiet_step (fun K hK => ?_)); (first | ((first | ((with_reducible refine quiet_some ?_ ?_); (· rfl)) | ((with_reducible refine quiet_wanted ?_ ?_); (· rfl))); apply Exists.intro; refine ⟨fun w' hM' => ?_, ?_⟩; (· first | (go_simp; rfl) | exact qc hM' | fail | exact ql hM' | exact qp hM')) | ((with_reducible refine quiet_unwanted ?_ ?_); (· rfl))); go_simp; (with_reducible refine hK _ ?_); clear hK K)
  refine wpQuiet_nil ?_
  intro wx hM
  replace hM := HasLine.of hM
  go_wp2_with (first | ((with_reducible refine (H1.out _ _ _ _ hM).mono ?_); clear hM; rintro e w2 ⟨rfl, hM⟩))
  go_ret
  exact ⟨rfl, HasLine.below hM⟩
set_option maxRecDepth 20000 in
set_option maxHeartbeats 8000000 in
theorem deliver_at (zr zd : Int) (text b : ByteArray) (w : World) (R D C : Nat) (s u : Int) (S0 S1 S2 S3 S4 S5 : Ln) (X Y : List Nat) (hr0 : 0 ≤ zr) (hd0 : 0 ≤ zd) (hr1 : zr < 65536) (hd1 : zd < 65536)
    (M : Int) (hm : (if (200 : Int) < (text.size : Int) then (200 : Int) else (text.size : Int)) = M) (hb : text.extract 0 M.toNat = b) (hbs : min M.toNat text.size = b.size)
    (hR : 1 + zr % 300 = (R : Int)) (hD : zd % 50 = (D : Int)) (hpar : (b.size : Int) % 2 = s) (hu : 1 - s = u) (hb200 : b.size ≤ 200) (hb0 : b.size ≠ 0) (hXs : (bstr X).size < b.size) (hXY : bstr X ++ bstr Y = b) (hC : ((b.size : Int) + (R : Int) - 1).tdiv (R : Int) = (C : Int)) (hC2 : (C : Int) ≤ 1000)
    (H0 : Hid (∀ (A : Option Addr) (c : Nat) w', Wins w' A 2 alw → Calls Try.prog 14 #[cfgV R D 10 A 2 c] w' fun e w'' => ∃ g, e = .returned (.tuple #[.pointer (some ⟨g, 0, none⟩), .int .i64 0]) ∧ HasLine [] w' [] [] g S0 w''))
    (H1 : Hid (∀ (L : List Ent) (T : List Thing) p w', HasLine [] w L T p S0 w' → Calls Try.prog 16 #[.pointer (some ⟨p, 0, none⟩), .int .i64 s, .string b] w' fun e w'' => e = .returned (.int .i64 0) ∧ HasLine [] w L T p S1 w''))
    (H2 : Hid (∀ (L : List Ent) (T : List Thing) p w', HasLine [] w L T p S1 w' → Calls Try.prog 17 #[.pointer (some ⟨p, 0, none⟩), .int .i64 ((C : Int) + (D : Int) - 1)] w' fun e w'' => e = .returned (.int .i64 0) ∧ HasLine [] w L T p S2 w''))
    (H3 : Hid (∀ (L : List Ent) (T : List Thing) p w', HasLine [] w L T p S2 w' → Calls Try.prog 18 #[.pointer (some ⟨p, 0, none⟩), .int .i64 u, .int .i64 1000] w' fun e w'' => e = .returned (.tuple #[.string (bstr X), .int .i64 0]) ∧ HasLine [] w L T p S3 w''))
    (H4 : Hid (∀ (L : List Ent) (T : List Thing) p w', HasLine [] w L T p S3 w' → Calls Try.prog 17 #[.pointer (some ⟨p, 0, none⟩), .int .i64 1] w' fun e w'' => e = .returned (.int .i64 0) ∧ HasLine [] w L T p S4 w''))
    (H5 : Hid (∀ (L : List Ent) (T : List Thing) p w', HasLine [] w L T p S4 w' → Calls Try.prog 18 #[.pointer (some ⟨p, 0, none⟩), .int .i64 u, .int .i64 1000] w' fun e w'' => e = .returned (.tuple #[.string (bstr Y), .int .i64 0]) ∧ HasLine [] w L T p S5 w''))
    (H6 : Hid (∀ (L : List Ent) (T : List Thing) p w', HasLine [] w L T p S5 w' → Calls Try.prog 19 #[.pointer (some ⟨p, 0, none⟩)] w' fun e w'' => e = .returned (.int .i64 1) ∧ w' = w'')) :
    Calls Try.prog 3 #[.int .u16 zr, .int .u16 zd, .string text] w fun e w' => e = .returned (.bool true) ∧ Below w.heap.size w w' := by
  have c1 : (b.toList == []) = false := by
    rw [ByteArray.toList_eq]
    obtain ⟨⟨l⟩⟩ := b
    cases l with
    | nil => exact absurd rfl hb0
    | cons x l => rfl
  have c2 : decide (((bstr X).size : Int) < (b.size : Int)) = true := decide_eq_true (by omega)
  have c3 : decide ((bstr X).size < b.size) = true := decide_eq_true hXs
  have c4 : ¬ (9223372036854775807 < (bstr X).size + (bstr Y).size) := by
    have := congrArg ByteArray.size hXY
    rw [ByteArray.size_append] at this
    omega
  clear hb0
  have hM := Mem.start [] w
  have hRp : 1 ≤ (R : Int) ∧ (R : Int) ≤ 300 := by omega
  have hDp : 0 ≤ (D : Int) ∧ (D : Int) ≤ 50 := by omega
  have hC0 : (0 : Int) ≤ (C : Int) := by omega
  have hRn : ¬ (R = 0) := by omega
  have hbp : 0 ≤ (b.size : Int) ∧ (b.size : Int) ≤ 200 := by omega
  have w1 : IntKind.i64.wrap ((b.size : Int) + R) = (b.size : Int) + R := IntWalk.i64_in _ ⟨by omega, by omega⟩
  have w2 : IntKind.i64.wrap ((b.size : Int) + R - 1) = (b.size : Int) + R - 1 := IntWalk.i64_in _ ⟨by omega, by omega⟩
  have w3 : IntKind.i64.wrap (C : Int) = C := IntWalk.i64_in _ ⟨by omega, by omega⟩
  have w4 : IntKind.i64.wrap ((C : Int) + D) = C + D := IntWalk.i64_in _ ⟨by omega, by omega⟩
  clear hb200
  go_enter Try.func3, Try.ntmps3
  go_upto_region 5 with (first | (refine lbw2 hM ?_; clear hM; intro gw ww hM) | ((with_reducible refine (H0.out _ _ _ (wins_two hM (List.Mem.tail _ (List.Mem.head _)))).mono ?_); rintro e w2 ⟨g, rfl, hH⟩; replace hH := HasLine.frame hM hH) | ((first | with_reducible refine at_load ?_ | ((with_reducible refine at_load_g ?_ ?_); (· rfl))); first | refine lc hM ?_ | refine ll hM ?_ | refine lp hM ?_) | ((with_reducible refine at_store ?_); first | (refine ls hM ?_; clear hM; intro wx hM) | (refine lw hM ?_; clear hM; intro wx hM) | (refine lt hM ?_; clear hM; intro wx hM)) | ((with_reducible refine at_alloc ?_); refine lz hM ?_; clear hM; intro gx wx hM) | ((with_reducible refine at_box ?_); refine lb hM ?_; clear hM; intro gx wx hM))
  clear hM
  go_upto_region 8 with (first | ((with_reducible refine (known_any _).mono ?_); rintro e w2 ⟨rfl, hb⟩; replace hH := hH.step hb; clear hb))
  obtain ⟨fp, hM⟩ := hH.ex
  clear hH
  refine Go.Bul.wp_region_class (Mem _ w _ _) (by kernel_rfl) (by kernel_rfl) hM.drew ?_
  repeat ((with_reducible refine wpQuiet_step (fun K hK => ?_)); (first | ((first | ((with_reducible refine quiet_some ?_ ?_); (· rfl)) | ((with_reducible refine quiet_wanted ?_ ?_); (· rfl))); apply Exists.intro; refine ⟨fun w' hM' => ?_, ?_⟩; (· first | (go_simp; rfl) | exact qc hM' | fail | exact ql hM' | exact qp hM')) | ((with_reducible refine quiet_unwanted ?_ ?_); (· rfl))); go_simp; (with_reducible refine hK _ ?_); clear hK K)
  refine wpQuiet_nil ?_
  intro wx hM
  replace hM := HasLine.of hM
  go_wp2_with (first | ((with_reducible refine (H1.out _ _ _ _ hM).mono ?_); clear hM; rintro e w2 ⟨rfl, hM⟩) | ((with_reducible refine (H2.out _ _ _ _ hM).mono ?_); clear hM; rintro e w2 ⟨rfl, hM⟩) | ((with_reducible refine (H3.out _ _ _ _ hM).mono ?_); clear hM; rintro e w2 ⟨rfl, hM⟩) | ((with_reducible refine (H4.out _ _ _ _ hM).mono ?_); clear hM; rintro e w2 ⟨rfl, hM⟩) | ((with_reducible refine (H5.out _ _ _ _ hM).mono ?_); clear hM; rintro e w2 ⟨rfl, hM⟩) | ((with_reducible refine (H6.out _ _ _ _ hM).mono ?_); rintro e w2 ⟨rfl, rfl⟩))
  go_ret
  exact ⟨rfl, HasLine.below hM⟩
end Go.Proofs.Ytenflgbaibjeoaa
