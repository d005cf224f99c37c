/- Seat n: slices of one cell an element; Compile of the star. -/
import Derived.Test.YtpjphjokhccdaaaGreatNjb
namespace Go.Proofs.YtpjphjokhccdaaaGreat
open Go Go.RowKit Go.Bul Go.Thg Go.Lin Go.Maps
structure OneEl (ts e : TypeId) (bytes : Nat) (z : Value) : Prop where
  u : Tryz.prog.underlying ts = some (.slice e)
  i : (Tryz.prog.info? e).map (fun i => (i.zero, i.size, i.bytes)) = some (some z, 1, bytes)
  z : z.cells.size = 1
  b : bytes ≤ 1000
theorem oel_elem : OneEl 126 182 16 .nilIface := ⟨Tryz.underlying126, by kernel_rfl, rfl, by decide⟩
theorem oel_patt : OneEl 75 99 8 (.pointer none) := ⟨Tryz.underlying75, by kernel_rfl, rfl, by decide⟩
theorem oel_str : OneEl 48 9 16 (.string ⟨#[]⟩) := ⟨Tryz.underlying48, by kernel_rfl, rfl, by decide⟩
section
variable {w w0 : World} {G : List Nat} {L : List Ent} {R : List Thing} {F : Thing → List Thing} {ops : Array Oper} {rest : List Oper} {o : Oper} {a : Act} {Q : Exit → Act → World → Prop} {x y s : Operand} {ts e : TypeId} {bytes n g m : Nat} {z v v0 : Value} {xs : List Value}
theorem run_bone (hT : OneEl ts e bytes z) (h1 : v.oneCell' = true) (w : World) : (Instr.buildSlice ts 1 #[(0, v)]).run Tryz.prog w = .ok (.slice (some ⟨w.heap.size, 0, none⟩) 1 1) (w.alloc (.cells #[v] e)) := by
  have hi := hT.i
  cases hq : Tryz.prog.info? e with
  | none => simp [hq] at hi
  | some i =>
    have h2 : i.zero = some z ∧ i.size = 1 ∧ i.bytes = bytes := by simpa [hq] using hi
    have hc : v.cells = #[v] := by cases v <;> simp_all [Value.cells, Value.oneCell']
    refine run_buildSlice w _ _ 1 _ _ i _ hT.u hq h2.1 (by rw [h2.2.1]; omega) (by rw [h2.2.1]; omega) ?_
    rw [h2.2.1]
    show Instr.fill _ _ [(0, v)] = _
    rw [fill_cons (place := fun i => some (i * 1, 1)) (i := 0) (v := v) (off := 0) (size := 1) (by simp) (by rw [hc]; rfl) (by simp)]
    simp only [Instr.fill, splice, List.take_zero, List.nil_append, hc, Option.some.injEq]
    rw [List.drop_of_length_le (by simp), List.append_nil]
theorem nbo (hM : Mem G w0 L R w) (hT : OneEl ts e bytes z) (h : ∀ g w', Mem G w0 (⟨g, e, 1, #[v]⟩ :: L) R w' → wpList Tryz.prog ops Q rest (a.put o.dst (.slice (some ⟨g, 0, none⟩) 1 1)) w')
    (hgd : o.guard = none := by rfl) (ho : o.op = .buildSlice ts 1 #[(0, x)] := by rfl) (hx : a.eval x = v := by rfl) (h1 : v.oneCell' = true := by rfl) : wpList Tryz.prog ops Q (o :: rest) a w := by
  refine wpList_plain hgd fun K hK => ?_
  unfold Oper.wp execOp
  simp only [ho, List.map_toArray, List.map_cons, List.map_nil, hx, Sem.run_bind, run_bone hT h1, Result.andThen_ok]
  exact hK _ _ (h _ _ (hM.alloc _ _ rfl))
theorem nao (hM : Mem G w0 L R w) (hT : OneEl ts e bytes z) (h63 : m < 1000000)
    (h : ∀ A' N c' w', Hid (N = m + 1) → Mem G w0 L (F (rowT e 1 (.slice A' N c') N (xs ++ [v]))) w' → wpList Tryz.prog ops Q rest (a.put o.dst (.slice A' N c')) w')
    (hgd : o.guard = none := by rfl) (ho : o.op = .call { callee := .builtin .append, args := #[s, x], argTypes := #[ts, ts] } := by rfl) (hv : a.eval s = v0 := by rfl) (hx : a.eval x = .slice (some ⟨g, 0, none⟩) 1 1 := by rfl) (hL : ⟨g, e, n, #[v]⟩ ∈ L := by repeat (first | exact List.Mem.head _ | assumption | apply List.Mem.tail)) (hR : UpdR (rowT e 1 v0 m xs) R F := by repeat (first | exact UpdR.head _ _ | assumption | apply UpdR.tail)) (h1 : v.oneCell' = true := by rfl) : wpList Tryz.prog ops Q (o :: rest) a w := by
  have hB : Blk w g e #[v] := hM.blk hL
  have hs : Src Tryz.prog 1 ts (.slice (some ⟨g, 0, none⟩) 1 1) 1 [v] w := by
    refine Src.ofSlice w hT.u _ 1 1 _ rfl (fun j u hu => ?_) (by simpa using h1)
    rw [addr_at]
    exact (hB.cell _).trans (by rw [Nat.zero_add]; simpa using hu)
  refine wpList_append_thing hM ts ts e z 1 bytes hT.u hT.i hT.z hgd s x ho v0 hv m xs F hR _ hx 1 _ hs (by omega) hT.b fun A' N c' w' hN hm => ?_
  exact h A' N c' w' (Lib.hid hN) hm
theorem Mem.rowNil (hM : Mem G w0 L R w) (e : TypeId) (size : Nat) : Mem G w0 L (rowT e size (.slice none 0 0) 0 [] :: R) w :=
  hM.newThing ⟨OffRow.nil w e size, KeptBut.refl _ _, fun g hg => by cases hg⟩
end
abbrev starB : ByteArray := { data := #[42] }
theorem run_patt (s : ByteArray) (w : World) : (Instr.build 128 #[(0, .string s)]).run Tryz.prog w = .ok (.agg #[.string s, .slice none 0 0]) w := by kernel_rfl
theorem run_star0 (w : World) : (Instr.build 131 #[]).run Tryz.prog w = .ok (.agg #[]) w := by kernel_rfl
set_option maxRecDepth 20000 in
set_option maxHeartbeats 4000000 in
theorem wcompile_any (w : World) : Calls Tryz.prog 34 #[.string starB] w fun e w' => ∃ gp ge off c, e = .returned (.tuple #[.pointer (some ⟨gp, 0, none⟩), .int .i64 0, .int .i64 0]) ∧ Mem [] w [⟨gp, 128, 2, patC starB ge off c⟩] [eleT (some ⟨ge, off, none⟩) c] w' := by
  have hM := Mem.start [] w
  have hp := run_patt starB
  have hs := run_mkstar
  go_enter Tryz.func34, Tryz.ntmps34
  go_wp2_with (first | ((with_reducible refine at_build ?_); refine wpList_build_run rfl _ _ rfl _ rfl _ (run_patt starB _) ?_) | ((first | with_reducible refine at_load ?_ | ((with_reducible refine at_load_g ?_ ?_); (· rfl))); first | refine nll hM ?_ | refine nlc hM ?_ | refine nlp hM ?_) | ((with_reducible refine at_store ?_); first | (refine nlw hM ?_; clear hM; intro wx hM) | (refine nls hM ?_; clear hM; intro wx hM) | (refine nlt hM ?_; clear hM; intro wx hM)) | ((with_reducible refine at_alloc ?_); refine nlz hM ?_; clear hM; intro gx wx hM) | ((with_reducible refine at_box ?_); first | (refine nlb hM ?_; clear hM; intro gx wx hM) | (refine nlx hM ?_; clear hM; intro gx wx hM)))
  obtain ⟨gp, hgp⟩ := hM.name1
  subst hgp
  have M0 := Lib.hid hM
  clear hM
  go_loopw [6] (fun i wr => (i = .int .i64 0 ∧ Mem [] w [⟨gp, 128, 2, #[.string starB, .slice none 0 0]⟩] [] wr) ∨ (i = .int .i64 1 ∧ ∃ ge off c, Mem [] w [⟨gp, 128, 2, patC starB ge off c⟩] [eleT (some ⟨ge, off, none⟩) c] wr)) (fun i _ => 1 - (intOf i).toNat)
  case atStart => exact .inl ⟨rfl, M0.out⟩
  case round =>
    clear M0
    obtain ⟨rfl, hM⟩ | ⟨rfl, ge, off, c, hM⟩ := hrel
    · replace hM := Mem.rowNil hM 182 1
      go_wp2_with (first | ((with_reducible refine at_build ?_); refine wpList_build_run rfl _ _ rfl #[] (by simp) _ (run_star0 _) ?_) | ((with_reducible refine at_bslice ?_); refine nbo (v := starV) hM oel_elem ?_; clear hM; intro gb wb hM) | ((with_reducible refine at_append ?_); refine nao (xs := []) (m := 0) (v := starV) hM oel_elem (by omega) ?_; clear hM; intro A' N' c' wz HN hM; obtain rfl := HN.out; obtain ⟨ge, off, rfl, _⟩ := OffRow.cells (hM.thing _ (List.Mem.head _)) (by omega)) | ((first | with_reducible refine at_load ?_ | ((with_reducible refine at_load_g ?_ ?_); (· rfl))); first | refine nll hM ?_ | refine nlc hM ?_ | refine nlp hM ?_) | ((with_reducible refine at_store ?_); first | (refine nlw hM ?_; clear hM; intro wx hM) | (refine nls hM ?_; clear hM; intro wx hM) | (refine nlt hM ?_; clear hM; intro wx hM)) | ((with_reducible refine at_alloc ?_); refine nlz hM ?_; clear hM; intro gx wx hM) | ((with_reducible refine at_box ?_); first | (refine nlb hM ?_; clear hM; intro gx wx hM) | (refine nlx hM ?_; clear hM; intro gx wx hM)))
      exact ⟨.inr ⟨rfl, ge, off, c', hM.subL (by repeat (first | exact List.Sublist.refl _ | exact List.nil_sublist _ | apply List.Sublist.cons_cons | apply List.Sublist.cons))⟩, by simp [intOf]⟩
    · go_wp2_with (first | ((first | with_reducible refine at_load ?_ | ((with_reducible refine at_load_g ?_ ?_); (· rfl))); first | refine nll hM ?_ | refine nlc hM ?_ | refine nlp hM ?_) | ((with_reducible refine at_store ?_); first | (refine nlw hM ?_; clear hM; intro wx hM) | (refine nls hM ?_; clear hM; intro wx hM) | (refine nlt hM ?_; clear hM; intro wx hM)) | ((with_reducible refine at_alloc ?_); refine nlz hM ?_; clear hM; intro gx wx hM) | ((with_reducible refine at_box ?_); first | (refine nlb hM ?_; clear hM; intro gx wx hM) | (refine nlx hM ?_; clear hM; intro gx wx hM)))
      exact bodyPost_ret (results_tmp3 rfl _ _ _) rfl ⟨gp, ge, off, c, rfl, hM⟩
end Go.Proofs.YtpjphjokhccdaaaGreat
