/- Rows of bytes; append, parts. Contracts of slices.Grow at a nil slice of bytes, of slices.Concat at slices of bytes. Contract of slices.Concat at slices of bytes. -/
import Derived.Test.YtbbdnlcjjcmllaaDoorVg
import Derived.Laws.BytesArg
import Derived.Lib.SliceRun
import Derived.Lib.Hide
import Derived.Lib.AppendZerosOnto
import Derived.Lib.Walk
namespace Go.Thg
open Go Go.RowKit Go.Bul
/-- Where the rest of a slice begins. -/
def advA (A : Option Addr) (k c size : Nat) : Option Addr := if c = k then A else A.map (·.add (k * size))
/-- The beginning of such a slice reads as the beginning. -/
theorem Reads.take {w : World} {size : Nat} {A : Option Addr} {n : Nat} {xs : List Value} (h : Reads w size A n xs) (k : Nat) (hk : k ≤ n) : Reads w size A k (xs.take (k * size)) := by
  have hm : k * size ≤ n * size := Nat.mul_le_mul_right _ hk
  refine ⟨by rw [List.length_take, h.1]; omega, fun h0 => ?_⟩
  obtain ⟨g, off, h1, h2, h3⟩ := h.2 (by omega)
  refine ⟨g, off, h1, h2, fun j u hu => h3 j u ?_⟩
  rw [List.getElem?_take] at hu
  split at hu
  · exact hu
  · cases hu
section
variable {P : Program} {w w0 : World} {G : List Nat} {L : List Ent} {R : List Thing} {ops : Array Oper} {rest : List Oper} {o : Oper} {a : Act} {Q : Exit → Act → World → Prop}
theorem run_slice_hi (t e : TypeId) (size : Nat) (ht : P.underlying t = some (.slice e)) (hs : (P.info? e).map (·.size) = some size) (A : Option Addr) (n c k : Nat) (hk : k ≤ c) (W : World) :
    (Instr.sliceAt t (.slice A n c) none (some (.int .i64 (k : Nat))) none).run P W = .ok (.slice (advA A 0 c size) k c) W := by
  have h1 : (0 : Int) ≤ (k : Int) ∧ (k : Int) ≤ (c : Int) := ⟨by omega, by omega⟩
  have hz := Go.Bul.run_sizeOf hs W
  simp [Instr.sliceAt, Instr.slice, Instr.sliceBounds, Instr.sliceBound, asIntOf, run_underlying ht, Sem.run_bind, h1, hz, advA]
  intro h
  omega
/-- append onto a thing. -/
theorem wpList_append_thing (hM : Mem G w0 L R w) (t tx e : TypeId) (z : Value) (size bytes : Nat) (ht : P.underlying t = some (.slice e)) (hi : (P.info? e).map (fun i => (i.zero, i.size, i.bytes)) = some (some z, size, bytes)) (hzs : z.cells.size = size)
    (hgd : o.guard = none) (s x : Operand) (ho : o.op = .call { callee := .builtin .append, args := #[s, x], argTypes := #[t, tx] }) (v : Value) (hv : a.eval s = v) (n : Nat) (xs : List Value) (F : Thing → List Thing) (hR : UpdR (rowT e size v n xs) R F)
    (y : Value) (hy : a.eval x = y) (m : Nat) (news : List Value) (hs : Src P size tx y m news w) (h63 : n + m ≤ 1000000000) (hbytes : bytes ≤ 1000)
    (h : ∀ A' N c' w', N = n + m → Mem G w0 L (F (rowT e size (.slice A' N c') N (xs ++ news))) w' → wpList P ops Q rest (a.put o.dst (.slice A' N c')) w') : wpList P ops Q (o :: rest) a w := by
  have hm : (n + m) * bytes ≤ 1000000000 * 1000 := Nat.mul_le_mul h63 hbytes
  obtain ⟨A', c', w', hrun, hb⟩ := run_append_off (P := P) t tx o.type e z size bytes ht hi hzs v n xs (hM.thing _ (mem_of_updR hR)) y m news hs (by unfold maxLen; omega) (by omega)
  refine wpList_plain hgd fun K hK => ?_
  unfold Oper.wp execOp
  simp only [ho, resolve, invoke, builtin, Sem.run_bind, Sem.run_pure, Result.andThen_ok, List.map_toArray, List.map_cons, List.map_nil, hv, hy, hrun]
  exact hK _ _ (h A' _ c' w' rfl (hM.turn hR hb))
end
end Go.Thg
namespace Go.Proofs.YtbbdnlcjjcmllaaDoor
open Go Go.RowKit Go.Bul Go.Thg Go.Lin
/-- A row of bytes; of windows. -/
def bT (v : Value) (xs : List Nat) : Thing := rowT 5 1 v xs.length (vals .u8 xs)
theorem bT_form {v : Value} {xs : List Nat} {w : World} (h : (bT v xs).P w) : ∃ A c, v = .slice A xs.length c ∧ xs.length ≤ c := by
  obtain ⟨A, c, h1, h2, _⟩ := OffRow.form h
  exact ⟨A, c, h1, h2⟩
theorem bT_reads {A : Option Addr} {n c : Nat} {xs : List Nat} {w : World} (h : (bT (.slice A n c) xs).P w) : Reads w 1 A n (vals .u8 xs) ∧ n = xs.length ∧ n ≤ c := by
  obtain ⟨A', c', h1, h2⟩ := bT_form h
  have e1 : n = xs.length := by injection h1
  have e2 : c = c' := by injection h1
  subst e1 e2
  exact ⟨OffRow.reads h, rfl, h2⟩
section
variable {w w0 : World} {G : List Nat} {L : List Ent} {R : List Thing} {ops : Array Oper} {rest : List Oper} {o : Oper} {a : Act} {Q : Exit → Act → World → Prop} {s x : Operand} {tx : TypeId} {v y : Value} {xs ys : List Nat} {m : Nat} {F : Thing → List Thing}
/-- append bytes onto a row of bytes. -/
theorem la (hs : Src Tryd.prog 1 tx y m (vals .u8 ys) w) (hM : Mem G w0 L R w) (h63 : xs.length + ys.length ≤ 1000000000)
    (h : ∀ A' N c' w', Hid (N = (xs ++ ys).length) → Mem G w0 L (F (bT (.slice A' N c') (xs ++ ys))) w' → wpList Tryd.prog ops Q rest (a.put o.dst (.slice A' N c')) w')
    (hgd : o.guard = none := by rfl) (ho : o.op = .call { callee := .builtin .append, args := #[s, x], argTypes := #[79, tx] } := by rfl) (hv : a.eval s = v := by rfl) (hR : UpdR (bT v xs) R F := by repeat (first | exact UpdR.head _ _ | apply UpdR.tail)) (hy : a.eval x = y := by rfl) : wpList Tryd.prog ops Q (o :: rest) a w := by
  have hl : m = ys.length := by have := hs.newsLen; simp at this; omega
  subst hl
  refine wpList_append_thing hM 79 tx 5 (.int .u8 0) 1 1 Tryd.underlying79 info_byte rfl hgd s x ho v hv xs.length (vals .u8 xs) F hR y hy _ _ hs h63 (by decide) fun A' N c' w' hN hm => ?_
  refine h A' N c' w' (Lib.hid (by simp [hN])) ?_
  have e : bT (.slice A' N c') (xs ++ ys) = rowT 5 1 (.slice A' N c') N (vals .u8 xs ++ vals .u8 ys) := by
    unfold bT
    rw [hN]
    simp [vals]
  rw [e]
  exact hm
end
section
variable {w w0 : World} {G : List Nat} {L : List Ent} {R : List Thing} {ops : Array Oper} {rest : List Oper} {o : Oper} {a : Act} {Q : Exit → Act → World → Prop} {x y : Operand} {A : Option Addr} {n c k i g : Nat} {t ty : TypeId} {cs : Array Value} {v : Value} {T e : TypeId} {size : Nat}
theorem lsl_hi (ht : Tryd.prog.underlying T = some (.slice e)) (hs : (Tryd.prog.info? e).map (·.size) = some size) (hk : k ≤ c) (hA : advA A 0 c size = A) (h : wpList Tryd.prog ops Q rest (a.put o.dst (.slice A k c)) w) (hgd : o.guard = none := by rfl) (ho : o.op = .slice T x none (some y) none := by rfl) (hx : a.eval x = .slice A n c := by rfl) (hy : a.eval y = .int .i64 (k : Nat) := by rfl) : wpList Tryd.prog ops Q (o :: rest) a w :=
  wpList_plain hgd fun K hK => by
    have hr := run_slice_hi T e size ht hs A n c k hk w
    rw [hA] at hr
    unfold Oper.wp execOp
    simp only [ho, hx, hy, Option.map_some, Option.map_none, Sem.run_bind, hr, Result.andThen_ok, Sem.run_pure]
    exact hK _ _ h
end
end Go.Proofs.YtbbdnlcjjcmllaaDoor
namespace Go.Proofs.YtbbdnlcjjcmllaaDoor
open Go Go.RowKit Go.Bul Go.Thg Go.Lin
theorem bT_zero (A : Option Addr) (w : World) : (bT (.slice A 0 0) []).P w := OffRow.empty w _ _ A
theorem becomes_zero {G : List Nat} {w w' : World} (A : Option Addr) (h : KeptBut G w w') : Becomes G w (bT (.slice A 0 0) []) w' :=
  ⟨bT_zero A w', h, fun g hg => by rw [show (bT (.slice A 0 0) []).fp = [] from sFp_zero] at hg; cases hg⟩
set_option maxRecDepth 20000 in
theorem grow_nil (n : Nat) (w : World) (hn : n ≤ 1000000000) :
    Calls Tryd.prog 69 #[.slice none 0 0, .int .i64 (n : Nat)] w fun e w' => ∃ A c, e = .returned (.slice A 0 c) ∧ Becomes [] w (bT (.slice A 0 c) []) w' := by
  rcases Nat.eq_zero_or_pos n with h0 | h0
  · subst h0
    go_enter Tryd.func69, Tryd.ntmps69
    go_wp2_with fail
    go_ret
    exact ⟨none, 0, rfl, becomes_zero none (KeptBut.refl _ _)⟩
  · obtain ⟨i, hi', hz', hs', hb'⟩ := info_parts info_byte
    have hold : (Builtin.firstCells i.size 0 (.slice none 0 0)).run Tryd.prog w.drew = .ok ([] : List Value).toArray w.drew := run_firstCells_none w.drew i.size 0 0 0
    have h := fun ty => Lib.run_append_grow_zeros (P := Tryd.prog) w 79 3 ty 5 i (.int .u8 0) .i64 .i64 Tryd.underlying79 Tryd.underlying3 hi' hz' none 0 0 [] hold n h0 (by omega) (by omega) (by omega) (by rw [hb']; omega) (by rw [hb']; exact growslice_fits (by omega) (by omega))
    simp only [Nat.zero_add] at h
    have hge := grownCap_ge w n 0 5
    have hcm := grownCap_le_maxLen w n 0 5 (by unfold maxLen; omega)
    obtain ⟨W, hW⟩ : ∃ W, w.drew.alloc (.cells (([] : List Value).toArray ++ Builtin.zeroCells (Value.int .u8 0).cells n ++ Builtin.zeroCells (Value.int .u8 0).cells (grownCap w n 0 5 - n)) 5) = W := ⟨_, rfl⟩
    have hB : Becomes [] w (bT (.slice (some ⟨w.heap.size, 0, none⟩) 0 (grownCap w n 0 5)) []) W := by
      rw [← hW]
      refine ⟨⟨rfl, _, _, rfl, by simp, hcm, fun _ => ⟨w.heap.size, 0, _, rfl, heap_alloc_new w.drew _, ?_, fun j hj => absurd hj (by simp)⟩⟩, ⟨rfl, rfl, rfl, by simp, fun k hk _ => Below.heap_alloc w.drew _ k hk⟩, fun k hk => .inr ?_⟩
      · rw [Array.size_append, Array.size_append, size_zeroCells, size_zeroCells]
        simp [Value.cells]
        omega
      · have hk' : k ∈ sFp (.slice (some ⟨w.heap.size, 0, none⟩) 0 (grownCap w n 0 5)) := hk
        rw [sFp_pos (by omega)] at hk'
        rw [List.mem_singleton.1 hk']
        exact Nat.le_refl _
    rw [hW] at h
    obtain ⟨G, hG⟩ : ∃ G, grownCap w n 0 5 = G := ⟨_, rfl⟩
    rw [hG] at h hB hge hcm
    have hG63 : G ≤ 9223372036854775807 := by unfold maxLen at hcm; omega
    have HB := Lib.hid hB
    have wn : IntKind.i64.wrap (n : Int) = (n : Int) := IntWalk.i64_in _ ⟨by omega, by omega⟩
    have c1 : decide ((0 : Int) < (n : Int)) = true := decide_eq_true (by omega)
    have c2 : decide ((n : Int) < 0) = false := decide_eq_false (by omega)
    have c3 : decide (0 < n) = true := decide_eq_true h0
    clear hold hi' hz' hs' hb' hB hW hG hcm
    go_enter Tryd.func69, Tryd.ntmps69
    go_wp2_with (at_builtin; refine Lib.wpList_append_run _ rfl _ _ _ _ rfl _ _ rfl rfl _ _ (h _) ?_)
    go_ret
    exact ⟨_, _, rfl, HB.out⟩
end Go.Proofs.YtbbdnlcjjcmllaaDoor
namespace Go.Lin
open Go
/-- Pieces, as values and as bytes. -/
abbrev Pcs := List (Value × List Nat)
def total (ps : Pcs) : Nat := (ps.map fun p => p.2.length).sum
def flatP (ps : Pcs) : List Nat := ps.flatMap fun p => p.2
theorem flatP_length (ps : Pcs) : (flatP ps).length = total ps := by simp [flatP, total, List.length_flatMap]
theorem total_take (ps : Pcs) {k : Nat} (h : k < ps.length) : total (ps.take (k + 1)) = total (ps.take k) + ps[k].2.length := by
  unfold total
  rw [List.take_succ_eq_append_getElem h, List.map_append, List.sum_append]
  simp only [List.map_cons, List.map_nil, List.sum_cons, List.sum_nil, Nat.add_zero]
theorem flatP_take (ps : Pcs) {k : Nat} (h : k < ps.length) : flatP (ps.take (k + 1)) = flatP (ps.take k) ++ ps[k].2 := by
  unfold flatP
  rw [List.take_succ_eq_append_getElem h, List.flatMap_append]
  simp only [List.flatMap_cons, List.flatMap_nil, List.append_nil]
theorem total_le (ps : Pcs) (k : Nat) : total (ps.take k) ≤ total ps := by
  have h : ps = ps.take k ++ ps.drop k := (List.take_append_drop k ps).symm
  have h2 : total ps = total (ps.take k) + total (ps.drop k) := by
    conv => lhs; rw [h]
    unfold total
    rw [List.map_append, List.sum_append]
  omega
end Go.Lin
namespace Go.Proofs.YtbbdnlcjjcmllaaDoor
open Go Go.RowKit Go.Bul Go.Thg Go.Lin
/-- A slice of slices of bytes. -/
structure CIn (w : World) (A : Option Addr) (k : Nat) (ps : Pcs) : Prop where
  out : Reads w 1 A k (ps.map fun p => p.1)
  each : ∀ p ∈ ps, ∃ A' c', p.1 = .slice A' p.2.length c' ∧ Reads w 1 A' p.2.length (vals .u8 p.2)
theorem CIn.keep {w w' : World} {A : Option Addr} {k : Nat} {ps : Pcs} (h : CIn w A k ps) (hb : Below w.heap.size w w') : CIn w' A k ps :=
  ⟨h.out.keep hb, fun p hp => by
    obtain ⟨A', c', h1, h2⟩ := h.each p hp
    exact ⟨A', c', h1, h2.keep hb⟩⟩
set_option maxRecDepth 20000 in
set_option maxHeartbeats 4000000 in
theorem concat_any {w : World} {A : Option Addr} {k c : Nat} {ps : Pcs} (h : CIn w A k ps) (hs : total ps ≤ 1000000) (hk : k ≤ 1000) :
    Calls Tryd.prog 56 #[.slice A k c] w fun e w' => ∃ A' c', e = .returned (.slice A' (flatP ps).length c') ∧ Becomes [] w (bT (.slice A' (flatP ps).length c') (flatP ps)) w' := by
  have hM := Mem.start [] w
  have H := Lib.hid h
  have hl : k = ps.length := by have := h.out.1; simp at this; omega
  have HL := Lib.hid hl
  have HS := Lib.hid hs
  have HG := Lib.hid (fun w => grow_nil (total ps) w (by omega))
  clear h hl hs
  go_enter Tryd.func56, Tryd.ntmps56
  go_wp2_with fail
  go_loopw [11, 3] (fun i u wr => ∃ j : Nat, j ≤ k ∧ i = .int .i64 (j : Nat) ∧ u = .int .i64 (total (ps.take j) : Nat) ∧ Mem [] w [] [] wr) (fun i _ _ => k - (intOf i).toNat)
  case atStart => exact ⟨0, by omega, rfl, rfl, hM⟩
  case round =>
    clear hM
    obtain ⟨j, hj, rfl, rfl, hM⟩ := hrel
    by_cases hlt : j < k
    · have hjl : j < ps.length := by have := HL.out; omega
      have q0 : (0 : Int) ≤ (j : Int) := Int.natCast_nonneg _
      have q1 : (j : Int) < (k : Int) := by omega
      obtain ⟨g, off, rfl, hgl, hc⟩ := H.out.out.2 (by omega)
      have hcj := hc j ps[j].1 (by rw [List.getElem?_map, List.getElem?_eq_getElem hjl]; rfl)
      obtain ⟨A', c', hv, _⟩ := H.out.each _ (List.getElem_mem hjl)
      rw [hv] at hcj
      have ht := total_take ps hjl
      have hle := total_le ps (j + 1)
      obtain ⟨m, hm⟩ : ∃ m, total (ps.take j) = m := ⟨_, rfl⟩
      obtain ⟨n, hn⟩ : ∃ n, ps[j].2.length = n := ⟨_, rfl⟩
      rw [hm] at ht ⊢
      rw [hn] at ht hcj
      have hmn : m + n ≤ 1000000 := by have := HS.out; omega
      have HC := Lib.hid (fun w' (hb : Below w.heap.size w w') => (hb.cell (p := ⟨g, off + j, none⟩) hgl).trans hcj)
      have HT := Lib.hid ht
      have m0 : (0 : Int) ≤ (m : Int) := Int.natCast_nonneg _
      have n0 : (0 : Int) ≤ (n : Int) := Int.natCast_nonneg _
      have c1 : decide ((m : Int) + (n : Int) < 0) = false := decide_eq_false (by omega)
      have w1 : IntKind.i64.wrap ((m : Int) + (n : Int)) = (m : Int) + (n : Int) := IntWalk.i64_in _ ⟨by omega, by omega⟩
      clear hc hcj hv ht hle hm hn
      go_wp2_with (first | ((with_reducible refine at_load ?_); refine lo (HC.out _ hM.below) ?_))
      exact ⟨⟨j + 1, by omega, by go_num, by rw [HT.out]; go_num, hM⟩, by simp [intOf]; omega⟩
    · obtain rfl : j = k := by omega
      have ht : total (ps.take j) = total ps := by rw [HL.out, List.take_length]
      rw [ht]
      clear hlt hj ht
      have n0 : (0 : Int) ≤ (total ps : Int) := Int.natCast_nonneg _
      go_wp2_with (first | ((with_reducible refine (HG.out _).mono ?_); rintro e w1 ⟨gA, gc, rfl, hb⟩; replace hM := hM.newThing hb; clear hb))
      have M0 := Lib.hid hM
      clear hM
      go_loopw [27, 6] (fun i u wr => ∃ (k2 : Nat) (B : Option Addr) (d : Nat), k2 ≤ j ∧ i = .int .i64 (k2 : Nat) ∧ u = .slice B (flatP (ps.take k2)).length d ∧ Mem [] w [] [bT (.slice B (flatP (ps.take k2)).length d) (flatP (ps.take k2))] wr) (fun i _ _ => j - (intOf i).toNat)
      case atStart => exact ⟨0, gA, gc, by omega, rfl, rfl, M0.out⟩
      case round =>
        clear M0
        obtain ⟨k2, B, d, hk2, rfl, rfl, hM⟩ := hrel
        by_cases hlt : k2 < j
        · have hjl : k2 < ps.length := by have := HL.out; omega
          have q0 : (0 : Int) ≤ (k2 : Int) := Int.natCast_nonneg _
          have q1 : (k2 : Int) < (j : Int) := by omega
          obtain ⟨g, off, rfl, hgl, hc⟩ := H.out.out.2 (by omega)
          have hcj := hc k2 ps[k2].1 (by rw [List.getElem?_map, List.getElem?_eq_getElem hjl]; rfl)
          obtain ⟨A', c', hv, hr⟩ := H.out.each _ (List.getElem_mem hjl)
          rw [hv] at hcj
          have hf := flatP_take ps hjl
          have hle := total_le ps (k2 + 1)
          rw [← flatP_length, hf] at hle
          obtain ⟨xs, hxs⟩ : ∃ xs, flatP (ps.take k2) = xs := ⟨_, rfl⟩
          obtain ⟨ys, hys⟩ : ∃ ys, ps[k2].2 = ys := ⟨_, rfl⟩
          rw [hxs] at hf hle hM ⊢
          rw [hys] at hf hle hcj hr
          have h63 : xs.length + ys.length ≤ 1000000000 := by have := HS.out; simp at hle; omega
          have HC := Lib.hid (fun w' (hb : Below w.heap.size w w') => (hb.cell (p := ⟨g, off + k2, none⟩) hgl).trans hcj)
          have HR := Lib.hid (fun w' (hb : Below w.heap.size w w') => (hr.keep hb).src (c := c') (P := Tryd.prog) (tx := 79) Tryd.underlying79 (vals_one _ _))
          have HF := Lib.hid hf
          clear hc hcj hv hr hf hle hxs hys
          go_wp2_with (first | ((with_reducible refine at_load ?_); refine lo (HC.out _ hM.below) ?_) | ((with_reducible refine at_append ?_); refine la (HR.out _ hM.below) hM h63 ?_; clear hM; intro A2 N2 c2 wx hN hM))
          obtain rfl : N2 = (xs ++ ys).length := hN.out
          exact ⟨⟨k2 + 1, A2, c2, by omega, by go_num, by rw [HF.out], by rw [HF.out]; exact hM⟩, by simp [intOf]; omega⟩
        · obtain rfl : k2 = j := by omega
          have ht : ps.take k2 = ps := by rw [HL.out, List.take_length]
          rw [ht] at hM ⊢
          clear hlt hk2 ht
          go_wp2_with fail
          go_ret
          exact ⟨B, d, rfl, hM.becomes (List.Mem.head _)⟩
end Go.Proofs.YtbbdnlcjjcmllaaDoor
