/- Seat c: WriteRune. (Printed by mkgzd.py.) Seat c: AppendRune and WriteRune at a code; Encode(Replacement). -/
import Derived.Test.YtlidpdjainmaiaaGreatDoorGzc
import Derived.Laws.BitsLemmas
namespace Go.Proofs.YtlidpdjainmaiaaGreatDoor
open Go Go.RowKit Go.Bul Go.Thg Go.Lin Go.Cht
theorem info_u8 : (Tryz.prog.info? 5).map (fun i => (i.zero, i.size)) = some (some (.int .u8 0), 1) := by kernel_rfl
theorem run_by2 (b0 b1 : Nat) (w : World) : (Instr.buildSlice 61 2 #[(0, .int .u8 (b0 : Nat)), (1, .int .u8 (b1 : Nat))]).run Tryz.prog w = .ok (.slice (some ⟨w.heap.size, 0, none⟩) 2 2) (w.alloc (.cells #[.int .u8 (b0 : Nat), .int .u8 (b1 : Nat)] 5)) := by
  have h := info_u8
  cases hq : Tryz.prog.info? 5 with
  | none => rw [hq] at h; simp at h
  | some i =>
    rw [hq] at h
    simp only [Option.map_some, Option.some.injEq, Prod.mk.injEq] at h
    refine run_buildSlice w _ _ 2 _ _ i _ Tryz.underlying61 hq h.1 (by rw [h.2]; decide) (by rw [h.2]; decide) ?_
    rw [h.2]
    have hz : Array.map (fun x => (Value.int IntKind.u8 0).cells[x % (Value.int IntKind.u8 0).cells.size]!) (Array.range (2 * 1)) = #[Value.int IntKind.u8 0, Value.int IntKind.u8 0] := by kernel_rfl
    rw [hz]
    simp [Instr.fill, Value.cells]
theorem run_by3 (b0 b1 b2 : Nat) (w : World) : (Instr.buildSlice 61 3 #[(0, .int .u8 (b0 : Nat)), (1, .int .u8 (b1 : Nat)), (2, .int .u8 (b2 : Nat))]).run Tryz.prog w = .ok (.slice (some ⟨w.heap.size, 0, none⟩) 3 3) (w.alloc (.cells #[.int .u8 (b0 : Nat), .int .u8 (b1 : Nat), .int .u8 (b2 : Nat)] 5)) := by
  have h := info_u8
  cases hq : Tryz.prog.info? 5 with
  | none => rw [hq] at h; simp at h
  | some i =>
    rw [hq] at h
    simp only [Option.map_some, Option.some.injEq, Prod.mk.injEq] at h
    refine run_buildSlice w _ _ 3 _ _ i _ Tryz.underlying61 hq h.1 (by rw [h.2]; decide) (by rw [h.2]; decide) ?_
    rw [h.2]
    have hz : Array.map (fun x => (Value.int IntKind.u8 0).cells[x % (Value.int IntKind.u8 0).cells.size]!) (Array.range (3 * 1)) = #[Value.int IntKind.u8 0, Value.int IntKind.u8 0, Value.int IntKind.u8 0] := by kernel_rfl
    rw [hz]
    simp [Instr.fill, Value.cells]
theorem run_by4 (b0 b1 b2 b3 : Nat) (w : World) : (Instr.buildSlice 61 4 #[(0, .int .u8 (b0 : Nat)), (1, .int .u8 (b1 : Nat)), (2, .int .u8 (b2 : Nat)), (3, .int .u8 (b3 : Nat))]).run Tryz.prog w = .ok (.slice (some ⟨w.heap.size, 0, none⟩) 4 4) (w.alloc (.cells #[.int .u8 (b0 : Nat), .int .u8 (b1 : Nat), .int .u8 (b2 : Nat), .int .u8 (b3 : Nat)] 5)) := by
  have h := info_u8
  cases hq : Tryz.prog.info? 5 with
  | none => rw [hq] at h; simp at h
  | some i =>
    rw [hq] at h
    simp only [Option.map_some, Option.some.injEq, Prod.mk.injEq] at h
    refine run_buildSlice w _ _ 4 _ _ i _ Tryz.underlying61 hq h.1 (by rw [h.2]; decide) (by rw [h.2]; decide) ?_
    rw [h.2]
    have hz : Array.map (fun x => (Value.int IntKind.u8 0).cells[x % (Value.int IntKind.u8 0).cells.size]!) (Array.range (4 * 1)) = #[Value.int IntKind.u8 0, Value.int IntKind.u8 0, Value.int IntKind.u8 0, Value.int IntKind.u8 0] := by kernel_rfl
    rw [hz]
    simp [Instr.fill, Value.cells]
section
variable {w w0 : World} {G : List Nat} {L : List Ent} {R : List Thing} {ops : Array Oper} {rest : List Oper} {o : Oper} {a : Act} {Q : Exit → Act → World → Prop} {x0 x1 x2 x3 : Operand} {b0 b1 b2 b3 g n : Nat}
theorem gby2 (hM : Mem G w0 L R w) (h : ∀ g w', Mem G w0 (⟨g, 5, 2, #[.int .u8 (b0 : Nat), .int .u8 (b1 : Nat)]⟩ :: L) R w' → wpList Tryz.prog ops Q rest (a.put o.dst (.slice (some ⟨g, 0, none⟩) 2 2)) w')
    (hgd : o.guard = none := by rfl) (ho : o.op = .buildSlice 61 2 #[(0, x0), (1, x1)] := by rfl) (e0 : a.eval x0 = .int .u8 (b0 : Nat) := by rfl) (e1 : a.eval x1 = .int .u8 (b1 : Nat) := by rfl) : wpList Tryz.prog ops Q (o :: rest) a w := by
  refine wpList_plain hgd fun K hK => ?_
  unfold Oper.wp execOp
  simp only [ho, List.map_toArray, List.map_cons, List.map_nil, e0, e1, Sem.run_bind, run_by2, Result.andThen_ok]
  exact hK _ _ (h _ _ (hM.alloc _ _ rfl))
theorem gby3 (hM : Mem G w0 L R w) (h : ∀ g w', Mem G w0 (⟨g, 5, 3, #[.int .u8 (b0 : Nat), .int .u8 (b1 : Nat), .int .u8 (b2 : Nat)]⟩ :: L) R w' → wpList Tryz.prog ops Q rest (a.put o.dst (.slice (some ⟨g, 0, none⟩) 3 3)) w')
    (hgd : o.guard = none := by rfl) (ho : o.op = .buildSlice 61 3 #[(0, x0), (1, x1), (2, x2)] := by rfl) (e0 : a.eval x0 = .int .u8 (b0 : Nat) := by rfl) (e1 : a.eval x1 = .int .u8 (b1 : Nat) := by rfl) (e2 : a.eval x2 = .int .u8 (b2 : Nat) := by rfl) : wpList Tryz.prog ops Q (o :: rest) a w := by
  refine wpList_plain hgd fun K hK => ?_
  unfold Oper.wp execOp
  simp only [ho, List.map_toArray, List.map_cons, List.map_nil, e0, e1, e2, Sem.run_bind, run_by3, Result.andThen_ok]
  exact hK _ _ (h _ _ (hM.alloc _ _ rfl))
theorem gby4 (hM : Mem G w0 L R w) (h : ∀ g w', Mem G w0 (⟨g, 5, 4, #[.int .u8 (b0 : Nat), .int .u8 (b1 : Nat), .int .u8 (b2 : Nat), .int .u8 (b3 : Nat)]⟩ :: L) R w' → wpList Tryz.prog ops Q rest (a.put o.dst (.slice (some ⟨g, 0, none⟩) 4 4)) w')
    (hgd : o.guard = none := by rfl) (ho : o.op = .buildSlice 61 4 #[(0, x0), (1, x1), (2, x2), (3, x3)] := by rfl) (e0 : a.eval x0 = .int .u8 (b0 : Nat) := by rfl) (e1 : a.eval x1 = .int .u8 (b1 : Nat) := by rfl) (e2 : a.eval x2 = .int .u8 (b2 : Nat) := by rfl) (e3 : a.eval x3 = .int .u8 (b3 : Nat) := by rfl) : wpList Tryz.prog ops Q (o :: rest) a w := by
  refine wpList_plain hgd fun K hK => ?_
  unfold Oper.wp execOp
  simp only [ho, List.map_toArray, List.map_cons, List.map_nil, e0, e1, e2, e3, Sem.run_bind, run_by4, Result.andThen_ok]
  exact hK _ _ (h _ _ (hM.alloc _ _ rfl))
theorem by_src (l : List Nat) (hM : Mem G w0 L R w) (hL : ⟨g, 5, n, (rows byF l).toArray⟩ ∈ L) (hn : l.length = n) : Src Tryz.prog 1 61 (.slice (some ⟨g, 0, none⟩) n n) n (rows byF l) w := by
  have hB : Blk w g 5 (rows byF l).toArray := hM.blk hL
  refine Src.ofSlice w rt_by.u _ n n _ (by rw [rows_length cf_by, hn]) (fun i u hu => ?_) (rows_ones cf_by l)
  rw [addr_at]
  exact (hB.cell _).trans (by rw [Nat.zero_add]; simpa using hu)
end
section
variable {w w0 : World} {G : List Nat} {L : List Ent} {R : List Thing} {FL : Array Value → List Ent} {FR : Thing → List Thing}
set_option maxRecDepth 20000 in
set_option maxHeartbeats 2000000 in
theorem nonascii_2 (r a b : Nat) (V : Value) (l : List Nat) (hz : Zf V) (hM : Mem G w0 L R w) (hR : UpdR (bT V l) R FR) (hs : l.length + 4 ≤ 1000000000) (hr : r = (a % 32) * 64 + b % 64) (ha : 194 ≤ a ∧ a ≤ 223) (hb : 128 ≤ b ∧ b ≤ 191) :
    Calls Tryz.prog 105 #[V, .int .i32 (r : Nat)] w fun e w' => ∃ A n c, e = .returned (.slice A n c) ∧ Zf (.slice A n c) ∧ Mem G w0 L (FR (bT (.slice A n c) (l ++ [a, b]))) w' := by
  have r1 : (r : Int) ≤ 2047 := by omega
  have r0 : (128 : Int) ≤ (r : Int) := by omega
  have HR := Lib.hid (And.intro hr (And.intro ha hb))
  have HZ := Lib.hid hz
  have hs2 : l.length + 2 ≤ 1000000000 := by omega
  clear hr ha hb hz hs
  go_enter Tryz.func105, Tryz.ntmps105
  go_wp2_with (first | ((with_reducible refine at_bslice ?_); refine gby2 (b0 := a) (b1 := b) hM ?_ (e0 := by (refine congrArg (Value.int IntKind.u8) (?_ : _ = _); have := HR.out; omega)) (e1 := by (refine congrArg (Value.int IntKind.u8) (?_ : _ = _); have := HR.out; omega)); clear hM; intro gb wb hM) | ((with_reducible refine at_append ?_); refine gapz (l := l) hM rt_by (by_src [a, b] hM (List.Mem.head _) rfl) hs2 HZ.out ?_; clear hM; intro A2 N2 c2 wz hz2 HNN hM))
  go_ret
  exact ⟨A2, N2, c2, rfl, hz2, hM.subL (List.sublist_cons_self _ _)⟩
set_option maxRecDepth 20000 in
set_option maxHeartbeats 2000000 in
theorem nonascii_3 (r a b d : Nat) (V : Value) (l : List Nat) (hz : Zf V) (hM : Mem G w0 L R w) (hR : UpdR (bT V l) R FR) (hs : l.length + 4 ≤ 1000000000) (hr : r = ((a % 16) * 64 + b % 64) * 64 + d % 64) (ha : 224 ≤ a ∧ a ≤ 239) (hb : 128 ≤ b ∧ b ≤ 191) (hd : 128 ≤ d ∧ d ≤ 191) (h8 : 2048 ≤ r) (hsur : r < 55296 ∨ 57343 < r) :
    Calls Tryz.prog 105 #[V, .int .i32 (r : Nat)] w fun e w' => ∃ A n c, e = .returned (.slice A n c) ∧ Zf (.slice A n c) ∧ Mem G w0 L (FR (bT (.slice A n c) (l ++ [a, b, d]))) w' := by
  obtain ⟨z, hzr⟩ : ∃ z : Int, (r : Int) = z := ⟨_, rfl⟩
  rw [hzr]
  have r1 : z ≤ 65535 := by omega
  have r0 : 2047 < z := by omega
  have rz : 0 ≤ z := by omega
  have HR := Lib.hid (And.intro (show z = (r : Int) from hzr.symm) (And.intro hr (And.intro ha (And.intro hb hd))))
  have HZ := Lib.hid hz
  have hs2 : l.length + 3 ≤ 1000000000 := by omega
  replace hsur : z < 55296 ∨ 57343 < z := by omega
  clear hzr hr ha hb hd hz hs h8
  rcases hsur with hsur | hsur
  · have r2 : z < 55296 := by omega
    clear hsur
    go_enter Tryz.func105, Tryz.ntmps105
    go_wp2_with (first | ((with_reducible refine at_bslice ?_); refine gby3 (b0 := a) (b1 := b) (b2 := d) hM ?_ (e0 := by (refine congrArg (Value.int IntKind.u8) (?_ : _ = _); have := HR.out; omega)) (e1 := by (refine congrArg (Value.int IntKind.u8) (?_ : _ = _); have := HR.out; omega)) (e2 := by (refine congrArg (Value.int IntKind.u8) (?_ : _ = _); have := HR.out; omega)); clear hM; intro gb wb hM) | ((with_reducible refine at_append ?_); refine gapz (l := l) hM rt_by (by_src [a, b, d] hM (List.Mem.head _) rfl) hs2 HZ.out ?_; clear hM; intro A2 N2 c2 wz hz2 HNN hM))
    go_ret
    exact ⟨A2, N2, c2, rfl, hz2, hM.subL (List.sublist_cons_self _ _)⟩
  · have r2 : 55296 ≤ z := by omega
    have r3 : 57343 < z := by omega
    clear hsur
    go_enter Tryz.func105, Tryz.ntmps105
    go_wp2_with (first | ((with_reducible refine at_bslice ?_); refine gby3 (b0 := a) (b1 := b) (b2 := d) hM ?_ (e0 := by (refine congrArg (Value.int IntKind.u8) (?_ : _ = _); have := HR.out; omega)) (e1 := by (refine congrArg (Value.int IntKind.u8) (?_ : _ = _); have := HR.out; omega)) (e2 := by (refine congrArg (Value.int IntKind.u8) (?_ : _ = _); have := HR.out; omega)); clear hM; intro gb wb hM) | ((with_reducible refine at_append ?_); refine gapz (l := l) hM rt_by (by_src [a, b, d] hM (List.Mem.head _) rfl) hs2 HZ.out ?_; clear hM; intro A2 N2 c2 wz hz2 HNN hM))
    go_ret
    exact ⟨A2, N2, c2, rfl, hz2, hM.subL (List.sublist_cons_self _ _)⟩
set_option maxRecDepth 20000 in
set_option maxHeartbeats 2000000 in
theorem nonascii_4 (r a b d f : Nat) (V : Value) (l : List Nat) (hz : Zf V) (hM : Mem G w0 L R w) (hR : UpdR (bT V l) R FR) (hs : l.length + 4 ≤ 1000000000) (hr : r = (((a % 8) * 64 + b % 64) * 64 + d % 64) * 64 + f % 64) (ha : 240 ≤ a ∧ a ≤ 244) (hb : 128 ≤ b ∧ b ≤ 191) (hd : 128 ≤ d ∧ d ≤ 191) (hf : 128 ≤ f ∧ f ≤ 191) (h8 : 65536 ≤ r) (h9 : r ≤ 1114111) :
    Calls Tryz.prog 105 #[V, .int .i32 (r : Nat)] w fun e w' => ∃ A n c, e = .returned (.slice A n c) ∧ Zf (.slice A n c) ∧ Mem G w0 L (FR (bT (.slice A n c) (l ++ [a, b, d, f]))) w' := by
  obtain ⟨z, hzr⟩ : ∃ z : Int, (r : Int) = z := ⟨_, rfl⟩
  rw [hzr]
  have r1 : z ≤ 1114111 := by omega
  have r0 : 2047 < z := by omega
  have r2 : 55296 ≤ z := by omega
  have r3 : 65535 < z := by omega
  have r4 : 57343 < z := by omega
  have rz : 0 ≤ z := by omega
  have HR := Lib.hid (And.intro (show z = (r : Int) from hzr.symm) (And.intro hr (And.intro ha (And.intro hb (And.intro hd hf)))))
  have HZ := Lib.hid hz
  have hs2 : l.length + 4 ≤ 1000000000 := by omega
  clear hzr hr ha hb hd hf hz hs h8 h9
  go_enter Tryz.func105, Tryz.ntmps105
  go_wp2_with (first | ((with_reducible refine at_bslice ?_); refine gby4 (b0 := a) (b1 := b) (b2 := d) (b3 := f) hM ?_ (e0 := by (refine congrArg (Value.int IntKind.u8) (?_ : _ = _); have := HR.out; omega)) (e1 := by (refine congrArg (Value.int IntKind.u8) (?_ : _ = _); have := HR.out; omega)) (e2 := by (refine congrArg (Value.int IntKind.u8) (?_ : _ = _); have := HR.out; omega)) (e3 := by (refine congrArg (Value.int IntKind.u8) (?_ : _ = _); have := HR.out; omega)); clear hM; intro gb wb hM) | ((with_reducible refine at_append ?_); refine gapz (l := l) hM rt_by (by_src [a, b, d, f] hM (List.Mem.head _) rfl) hs2 HZ.out ?_; clear hM; intro A2 N2 c2 wz hz2 HNN hM))
  go_ret
  exact ⟨A2, N2, c2, rfl, hz2, hM.subL (List.sublist_cons_self _ _)⟩
end
end Go.Proofs.YtlidpdjainmaiaaGreatDoor
namespace Go.Proofs.YtlidpdjainmaiaaGreatDoor
open Go Go.RowKit Go.Bul Go.Thg Go.Lin Go.Cht
section
variable {w w0 : World} {G : List Nat} {L : List Ent} {R : List Thing} {FL : Array Value → List Ent} {FR : Thing → List Thing}
theorem nonascii_any (c : List Nat) (hc : Cd c) (h1 : 127 < valB c) (V : Value) (l : List Nat) (hz : Zf V) (hM : Mem G w0 L R w) (hR : UpdR (bT V l) R FR) (hs : l.length + 4 ≤ 1000000000) :
    Calls Tryz.prog 105 #[V, .int .i32 (valB c : Nat)] w fun e w' => ∃ A n c', e = .returned (.slice A n c') ∧ Zf (.slice A n c') ∧ Mem G w0 L (FR (bT (.slice A n c') (l ++ c))) w' := by
  rcases hc.form with ⟨a, rfl, h, hv⟩ | ⟨a, b, rfl, h, h2, hv⟩ | ⟨a, b, d, rfl, h, h2, h3, h4, h5, hv⟩ | ⟨a, b, d, e, rfl, h, h2, h3, h6, h4, h5, hv⟩
  · omega
  · exact nonascii_2 _ a b V l hz hM hR hs hv h h2
  · exact nonascii_3 _ a b d V l hz hM hR hs hv h h2 h3 (by omega) (by omega)
  · exact nonascii_4 _ a b d e V l hz hM hR hs hv h h2 h3 h6 (by omega) (by omega)
set_option maxRecDepth 20000 in
set_option maxHeartbeats 2000000 in
theorem arune_any (c : List Nat) (hc : Cd c) (V : Value) (l : List Nat) (hz : Zf V) (hM : Mem G w0 L R w) (hR : UpdR (bT V l) R FR) (hs : l.length + 4 ≤ 1000000000) :
    Calls Tryz.prog 90 #[V, .int .i32 (valB c : Nat)] w fun e w' => ∃ A n c', e = .returned (.slice A n c') ∧ Zf (.slice A n c') ∧ Mem G w0 L (FR (bT (.slice A n c') (l ++ c))) w' := by
  have hmx := val_max hc
  obtain ⟨z, hzr⟩ : ∃ z : Int, (valB c : Int) = z := ⟨_, rfl⟩
  have z0 : 0 ≤ z := by omega
  have z1 : z ≤ 1114111 := by omega
  by_cases h : valB c ≤ 127
  · obtain ⟨a, rfl, ha⟩ : ∃ a, c = [a] ∧ valB c = a := by
      rcases hc.form with ⟨a, rfl, h, hv⟩ | ⟨a, b, rfl, h, h2, hv⟩ | ⟨a, b, d, rfl, h, h2, h3, h4, h5, hv⟩ | ⟨a, b, d, e, rfl, h, h2, h3, h6, h4, h5, hv⟩
      · exact ⟨a, rfl, hv⟩
      · omega
      · omega
      · omega
    have z2 : z ≤ 127 := by omega
    have HR := Lib.hid (show z = (a : Int) by omega)
    have HZ := Lib.hid hz
    have hs1 : l.length + 1 ≤ 1000000000 := by omega
    rw [hzr]
    clear hz hs hmx hzr ha h
    go_enter Tryz.func90, Tryz.ntmps90
    go_wp2_with (first | ((with_reducible refine at_bslice ?_); refine gbs hM rt_by (v := .int .u8 (a : Nat)) (cs := #[.int .u8 (a : Nat)]) rfl rfl (by decide) ?_ (hx := by (refine congrArg (Value.int IntKind.u8) (?_ : _ = _); have := HR.out; omega)); clear hM; intro gb wb hM) | ((with_reducible refine at_append ?_); refine gapz (l := l) hM rt_by (ent_src (x := a) hM rt_by rfl (List.Mem.head _)) hs1 HZ.out ?_; clear hM; intro A2 N2 c2 wz hz2 HNN hM))
    go_ret
    exact ⟨A2, N2, c2, rfl, hz2, hM.subL (List.sublist_cons_self _ _)⟩
  · have HN := Lib.hid (fun w hM => nonascii_any (w := w) (w0 := w0) (G := G) (L := L) (R := R) c hc (by omega) V l hz hM hR hs)
    rw [hzr] at HN
    have z2 : 127 < z := by omega
    rw [hzr]
    clear hz hs hmx hzr h hR
    go_enter Tryz.func90, Tryz.ntmps90
    go_wp2_with ((with_reducible refine (HN.out _ hM).mono ?_); rintro e w1 ⟨A2, N2, c2, rfl, hz2, hM1⟩; clear hM; have hM := hM1; clear hM1)
    go_ret
    exact ⟨A2, N2, c2, rfl, hz2, hM⟩
set_option maxRecDepth 20000 in
set_option maxHeartbeats 2000000 in
theorem wrune_any (b : Nat) (p V : Value) (l c : List Nat) (hc : Cd c) (hp : PB b p) (hz : Zf V) (hM : Mem G w0 L R w) (hL : UpdL b 63 2 #[p, V] L FL) (hR : UpdR (bT V l) R FR) (hs : l.length + 4 ≤ 1000000000) :
    Calls Tryz.prog 73 #[pbl b, .int .i32 (valB c : Nat)] w fun e w' => (∃ v, e = .returned v) ∧ ∃ A n c', Zf (.slice A n c') ∧ Mem G w0 (FL #[pbl b, .slice A n c']) (FR (bT (.slice A n c') (l ++ c))) w' := by
  have HC := Lib.hid (fun w hM => ccheck_any (w := w) (w0 := w0) (G := G) (L := L) (R := R) b p V hp hM hL)
  have hL2 := hL.again #[pbl b, V]
  have hL1 := mem_of_updL hL2
  have HA := Lib.hid (fun w hM => arune_any (w := w) (w0 := w0) (G := G) (L := FL #[pbl b, V]) (R := R) c hc V l hz hM hR hs)
  have HV : ∃ A n c', V = .slice A n c' := by
    obtain ⟨A, c', h1, _⟩ := gT_form (hM.thing _ (mem_of_updR hR))
    exact ⟨A, _, c', h1⟩
  obtain ⟨vA, vn, vc, rfl⟩ := HV
  have hvn : vn ≤ 1000000000 := by
    have := (gT_len (hM.thing _ (mem_of_updR hR))).1
    omega
  have v0 : (0 : Int) ≤ (vn : Int) := Int.natCast_nonneg _
  have v1 : (vn : Int) ≤ 1000000000 := by omega
  have HLN := Lib.hid (show ∀ A n c' W, (bT (.slice A n c') (l ++ c)).P W → (n : Int) ≤ 1000000000 from fun A n c' W h => by
    have h1 := (gT_len h).1
    have h2 := hc.size
    rw [List.length_append] at h1
    omega)
  generalize (valB c : Int) = z at HA ⊢
  clear hp hs hz hvn
  go_enter Tryz.func73, Tryz.ntmps73
  go_wp2_with (first | ((with_reducible refine (HC.out _ hM).mono ?_); rintro e w1 ⟨rfl, hM1⟩; clear hM; have hM := hM1; clear hM1) | ((with_reducible refine (HA.out _ hM).mono ?_); rintro e w1 ⟨A2, N2, c2, rfl, hz2, hM1⟩; clear hM; have hM := hM1; clear hM1; have hL3 := mem_of_updL (hL.again #[pbl b, .slice A2 N2 c2]); have n2 := HLN.out _ _ _ _ (hM.thing _ (mem_of_updR (hR.again (bT (.slice A2 N2 c2) (l ++ c))))); have n20 : (0 : Int) ≤ (N2 : Int) := Int.natCast_nonneg _) | ((first | with_reducible refine at_load ?_ | ((with_reducible refine at_load_g ?_ ?_); (· rfl))); first | refine nll hM ?_ | refine nlc hM ?_ | refine nlp hM ?_) | ((with_reducible refine at_store ?_); first | (refine nlw hM ?_; clear hM; intro wx hM) | (refine nls hM ?_; clear hM; intro wx hM) | (refine nlt hM ?_; clear hM; intro wx hM)) | ((with_reducible refine at_alloc ?_); refine nlz hM ?_; clear hM; intro gx wx hM) | ((with_reducible refine at_box ?_); first | (refine nlb hM ?_; clear hM; intro gx wx hM) | (refine nlx hM ?_; clear hM; intro gx wx hM)))
  go_ret2
  exact ⟨⟨_, rfl⟩, A2, N2, c2, hz2, hM⟩
end
section
variable {w w0 : World} {G : List Nat} {L : List Ent} {R : List Thing} {ops : Array Oper} {rest : List Oper} {o : Oper} {a : Act} {Q : Exit → Act → World → Prop} {dst : Option Tmp} {type : TypeId} {pos : String} {after : Array Edge} {x y : Operand} {g n : Nat} {t : TypeId} {cs : Array Value}
theorem at_mslice {t : TypeId} (h : wpList Tryz.prog ops Q (⟨dst, .makeSlice t x y, type, pos, after, none⟩ :: rest) a w) : wpList Tryz.prog ops Q (⟨dst, .makeSlice t x y, type, pos, after, none⟩ :: rest) a w := h
theorem run_mk3 (w : World) : (Instr.makeSlice 61 (.int .i64 3) (.int .i64 3)).run Tryz.prog w = .ok (.slice (some ⟨w.heap.size, 0, none⟩) 3 3) (w.alloc (.cells #[.int .u8 0, .int .u8 0, .int .u8 0] 5)) := by kernel_rfl
theorem gmk3 (hM : Mem G w0 L R w) (h : ∀ g w', Mem G w0 (⟨g, 5, 3, #[.int .u8 0, .int .u8 0, .int .u8 0]⟩ :: L) R w' → wpList Tryz.prog ops Q rest (a.put o.dst (.slice (some ⟨g, 0, none⟩) 3 3)) w') (hgd : o.guard = none := by rfl) (ho : o.op = .makeSlice 61 x y := by rfl) (hx : a.eval x = .int .i64 3 := by rfl) (hy : a.eval y = .int .i64 3 := by rfl) : wpList Tryz.prog ops Q (o :: rest) a w := by
  refine wpList_plain hgd fun K hK => ?_
  unfold Oper.wp execOp
  simp only [ho, hx, hy, Sem.run_bind, run_mk3, Result.andThen_ok, Sem.run_pure]
  exact hK _ _ (h _ _ (hM.alloc _ _ rfl))
theorem blk_reads {bs : List Nat} (hM : Mem G w0 L R w) (hL : ⟨g, t, n, cs⟩ ∈ L) (hcs : cs = (vals .u8 bs).toArray) : Reads w 1 (some ⟨g, 0, none⟩) bs.length (vals .u8 bs) := by
  subst hcs
  have hB := hM.blk hL
  exact ⟨by rw [vals_length, Nat.mul_one], fun _ => ⟨g, 0, rfl, hB.lt, fun j u hu => by rw [Nat.zero_add]; exact (hB.cell j).trans (by simpa using hu)⟩⟩
end
/-- The table of the greatest code points. -/
structure Bnd (w : World) : Prop where
  lt : 1 < w.heap.size
  c0 : w.cell? ⟨1, 0, none⟩ = some (.int .i32 127)
  c1 : w.cell? ⟨1, 1, none⟩ = some (.int .i32 2047)
  c2 : w.cell? ⟨1, 2, none⟩ = some (.int .i32 65535)
theorem Bnd.keep {w w' : World} (h : Bnd w) (hb : Below w.heap.size w w') : Bnd w' :=
  ⟨Nat.lt_of_lt_of_le h.lt hb.size, (hb.cell (p := ⟨1, 0, none⟩) h.lt).trans h.c0, (hb.cell (p := ⟨1, 1, none⟩) h.lt).trans h.c1, (hb.cell (p := ⟨1, 2, none⟩) h.lt).trans h.c2⟩
set_option maxRecDepth 20000 in
set_option maxHeartbeats 2000000 in
theorem encode_rep (w : World) (hB : Bnd w) : Calls Tryz.prog 88 #[.int .i32 65533] w fun e w' => (∃ s z, e = .returned (.tuple #[.string s, .int .i64 z])) ∧ Below w.heap.size w w' := by
  have hM := Mem.start [] w
  have HB := Lib.hid (fun w' hb => hB.keep (w' := w') hb)
  go_enter Tryz.func88, Tryz.ntmps88
  go_wp2_with (first | ((with_reducible refine at_load ?_); first | refine nlo (HB.out _ hM.below).c0 ?_ | refine nlo (HB.out _ hM.below).c1 ?_ | refine nlo (HB.out _ hM.below).c2 ?_))
  refine wp_loop_rounds 2 ?_
  rw [rounds_succ]
  go_wp2_with (first | ((with_reducible refine at_load ?_); first | refine nlo (HB.out _ hM.below).c0 ?_ | refine nlo (HB.out _ hM.below).c1 ?_ | refine nlo (HB.out _ hM.below).c2 ?_))
  rw [rounds_succ]
  go_wp2_with (first | ((with_reducible refine at_load ?_); first | refine nlo (HB.out _ hM.below).c0 ?_ | refine nlo (HB.out _ hM.below).c1 ?_ | refine nlo (HB.out _ hM.below).c2 ?_) | ((with_reducible refine at_mslice ?_); refine gmk3 hM ?_; clear hM; intro gm wm hM))
  refine wp_loop_rounds 3 ?_
  rw [rounds_succ]
  go_wp2_with (first | ((first | with_reducible refine at_load ?_ | ((with_reducible refine at_load_g ?_ ?_); (· rfl))); first | refine nll hM ?_ | refine nlc hM ?_ | refine nlp hM ?_) | ((with_reducible refine at_store ?_); first | (refine nlw hM ?_; clear hM; intro wx hM) | (refine nls hM ?_; clear hM; intro wx hM) | (refine nlt hM ?_; clear hM; intro wx hM)) | ((with_reducible refine at_alloc ?_); refine nlz hM ?_; clear hM; intro gx wx hM) | ((with_reducible refine at_box ?_); first | (refine nlb hM ?_; clear hM; intro gx wx hM) | (refine nlx hM ?_; clear hM; intro gx wx hM)))
  rw [rounds_succ]
  go_wp2_with (first | ((first | with_reducible refine at_load ?_ | ((with_reducible refine at_load_g ?_ ?_); (· rfl))); first | refine nll hM ?_ | refine nlc hM ?_ | refine nlp hM ?_) | ((with_reducible refine at_store ?_); first | (refine nlw hM ?_; clear hM; intro wx hM) | (refine nls hM ?_; clear hM; intro wx hM) | (refine nlt hM ?_; clear hM; intro wx hM)) | ((with_reducible refine at_alloc ?_); refine nlz hM ?_; clear hM; intro gx wx hM) | ((with_reducible refine at_box ?_); first | (refine nlb hM ?_; clear hM; intro gx wx hM) | (refine nlx hM ?_; clear hM; intro gx wx hM)))
  rw [rounds_succ]
  go_wp2_with (first | ((with_reducible refine at_conv ?_); refine gcs (bs := [239, 191, 189]) (blk_reads hM (List.Mem.head _) rfl) ?_) | ((first | with_reducible refine at_load ?_ | ((with_reducible refine at_load_g ?_ ?_); (· rfl))); first | refine nll hM ?_ | refine nlc hM ?_ | refine nlp hM ?_) | ((with_reducible refine at_store ?_); first | (refine nlw hM ?_; clear hM; intro wx hM) | (refine nls hM ?_; clear hM; intro wx hM) | (refine nlt hM ?_; clear hM; intro wx hM)) | ((with_reducible refine at_alloc ?_); refine nlz hM ?_; clear hM; intro gx wx hM) | ((with_reducible refine at_box ?_); first | (refine nlb hM ?_; clear hM; intro gx wx hM) | (refine nlx hM ?_; clear hM; intro gx wx hM)))
  go_ret2
  exact ⟨⟨_, _, rfl⟩, hM.below⟩
end Go.Proofs.YtlidpdjainmaiaaGreatDoor
