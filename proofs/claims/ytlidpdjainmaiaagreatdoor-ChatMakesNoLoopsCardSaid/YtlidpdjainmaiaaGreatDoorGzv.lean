/- Seat c: what came in; the tables that the row lists. (Printed by mkchat.py.) -/
import Derived.Test.YtlidpdjainmaiaaGreatDoorGzs
import Derived.Lib.SmallJoins
import Derived.LaidSub
import GoSem.PinnedTables
import Derived.Test.YtlidpdjainmaiaaGreatDoorRows
import Derived.WalkKit
import Derived.OpenShut
import Derived.Below
import Derived.ChangeSame
import Derived.ChangeSlices
import Derived.DataShut
import Derived.Deep.DeepHandedRow
import Derived.Deep.Slices
import Derived.WideKeyArgs
import Derived.ChangeMaps5
import Derived.Lib.LaidTab
namespace Go.Proofs.YtlidpdjainmaiaaGreatDoor
open Go Go.RowKit Go.WideShapes Go.ChangeShapes Go.ChangeAt Go.Bul Go.Thg Go.Lin
theorem own : ownKnob Tryz.prog.godebug = none := by kernel_rfl
theorem laid_book : laidOutB Tryz.prog = true := by kernel_rfl
section
variable {H : Type} {enc : TypeId × Value → H} {P : Program}
/-- The row's last step where all that lay before stays. -/
theorem post_of_below {f : Func} {s : ChangeSpec} {apart fresh handsOn again : Bool} {W W' : World} {args : Array Value} {v : Value} {ds gs : List (DataW H)} {before pa pv : List MemPlace}
    (hW : DataW.Whole enc P f.params.toList s.vars apart W args.toList ds gs before)
    (hres : ∀ (b : Nat) (sp : Nat → Bool) (hd : Bool), DataW.TrodAll enc P W' b sp hd f.resultTypes.toList (v.resultList f.resultTypes.size) (s.fn H (ds ++ gs)).results [])
    (hargs : ∀ sp : Nat → Bool, (∀ p ∈ before, sp p.block = true) → DataW.TrodAll enc P W' 0 sp true f.params.toList args.toList (s.fn H (ds ++ gs)).args pa)
    (hvars : ∀ sp : Nat → Bool, (∀ p ∈ before, sp p.block = true) → DataW.TrodVars enc P W' sp s.vars (s.fn H (ds ++ gs)).vars pv)
    (hps : before = pa ++ pv) (hb : Below W.heap.size W W')
    (hok : ∀ (j : Nat) (t : TypeId) (r : Value), f.resultTypes[j]? = some t → (v.resultList f.resultTypes.size)[j]? = some r → Value.okWide P W' .any 0 t r) :
    s.post enc P f apart fresh handsOn again W args v W' := by
  have hlt : ∀ p ∈ before, p.block < W.heap.size := fun p hp => hW.lt p hp
  have hold : ∀ p ∈ before, (fun b => decide (b < W.heap.size)) p.block = true := fun p hp => by simpa using hlt p hp
  refine ⟨ds, gs, before, [], pa, pv, hW, hres _ _ _, hargs _ hold, hvars _ hold, World.keptBut_mono (fun p hp => ⟨hp, ?_⟩) (hb.frame (· ∈ before)), fun _ => ?_⟩
  · rw [hps, List.mem_append] at hp
    exact Or.inr hp
  · obtain ⟨_, _, _, _, _, hz, hn⟩ := hW
    refine ⟨hok, _, _, ([] ++ pa) ++ pv, ⟨[] ++ pa, pv, trodAll_append (hargs _ (fun _ _ => rfl)) (hres _ _ _), hvars _ (fun _ _ => rfl), rfl, ?_, ?_⟩, ?_⟩
    · intro b off hp
      have hin : MemPlace.cell b off ∈ before := by rw [hps]; simpa using hp
      rw [hb.frozen (hlt _ hin)]
      exact hz b off hin
    · intro ha
      have := hn ha
      rw [hps] at this
      simpa using this
    · intro p hp _
      rw [hps]
      simpa using hp
theorem lt_of_cell {w : World} {a : Addr} {v : Value} (h : w.cell? a = some v) : a.block < w.heap.size := by
  rcases Nat.lt_or_ge a.block w.heap.size with h' | h'
  · exact h'
  · simp [World.cell?, Array.getElem?_eq_none h'] at h
theorem same_of_below {W W' : World} (hb : Below W.heap.size W W') (p : MemPlace) (hp : p.block < W.heap.size) : W.sameAt W' p := by
  cases p with
  | cell b off => exact hb.cell (p := ⟨b, off, none⟩) hp
  | map b => exact hb.block b hp
theorem all_stay (hl : laidOutB P = true) {W W' : World} {sp : Nat → Bool} : ∀ {ts : List TypeId} {vs : List Value} {ds : List (DataW H)} {ps : List MemPlace}, (∀ t ∈ ts, P.readableRec t = true ∧ t < P.types.size) →
    DataW.TrodAll enc P W 0 (fun _ => true) true ts vs ds ps → (∀ p ∈ ps, W.sameAt W' p) → (∀ p ∈ ps, sp p.block = true) → DataW.TrodAll enc P W' 0 sp true ts vs ds ps
  | [], vs, ds, ps, _, h, _, _ => by
    obtain ⟨rfl, rfl, rfl⟩ := trodAll_nil h
    exact trodAll_mk0
  | t :: ts, vs, ds, ps, ht, h, hs, hp => by
    obtain ⟨v0, vs0, d0, ds0, p0, q0, rfl, rfl, rfl, h0, r0⟩ := trodAll_cons h
    refine trodAll_cons_mk (WideElems.Trod_stays hl (ht t (by simp)).1 (ht t (by simp)).2 h0 (fun p hp' => hs p (by simp [hp'])) (fun p hp' => hp p (by simp [hp']))) (all_stay hl (fun t' ht' => ht t' (by simp [ht'])) r0 (fun p hp' => hs p (by simp [hp'])) (fun p hp' => hp p (by simp [hp'])))
theorem mapM_some {α β : Type} {f : α → Option β} : ∀ {l : List α} {r : List β}, l.mapM f = some r → ∀ x ∈ l, ∃ y, f x = some y
  | [], _, _ => fun x hx => by cases hx
  | a :: l, r, h => fun x hx => by
    rw [List.mapM_cons] at h
    simp only [bind, Option.bind_eq_some_iff, pure, Option.some.injEq] at h
    obtain ⟨y, hy, ys, hys, rfl⟩ := h
    rcases List.mem_cons.1 hx with rfl | hx
    · exact ⟨y, hy⟩
    · exact mapM_some hys x hx
/-- A byte that came in. -/
theorem byte_arg {W : World} {base : Nat} {t : TypeId} {v : Value} {d : DataW H} {p : List MemPlace} (ht : P.underlying t = some (.int .u8))
    (hok : Value.okWide P W .any base t v) (h : DataW.Trod enc P W 0 (fun _ => true) true t v d p) : ∃ x : Nat, v = .int .u8 (x : Nat) ∧ x < 256 := by
  obtain ⟨n, rfl, _, _, hw⟩ := open_int ht hok h
  have h1 := (Go.Lit.wf_int_iff .u8 n).1 hw
  have e1 : IntKind.u8.min = 0 := rfl
  have e2 : IntKind.u8.max = 255 := rfl
  exact ⟨n.toNat, by congr 1; omega, by omega⟩
/-- The parts of an array that reads. -/
theorem arr_parts {W : World} {base n k fuel : Nat} {sp : Nat → Bool} {held : Bool} {t e : TypeId} {cs : List Value} {x : DataW H × List MemPlace} (ht : P.underlying t = some (.array n e)) (hk : P.cellsOf e = k)
    (hf : DataW.trod enc P W base sp held fuel t cs = some x) : cs.length = P.cellsOf t ∧ ∃ m, ∀ i, i < n → ∃ y, DataW.trod enc P W base sp held m e ((cs.drop (i * k)).take k) = some y := by
  cases fuel with
  | zero => simp [DataW.trod] at hf
  | succ m =>
    rw [DataW.trod_step] at hf
    unfold DataW.trodStep at hf
    rw [ht] at hf
    simp only [hk, Option.ite_none_right_eq_some, Option.map_eq_some_iff] at hf
    obtain ⟨hl, xs, hm, _⟩ := hf
    exact ⟨hl, m, fun i hi => mapM_some hm i (List.mem_range.2 hi)⟩
/-- The cells of an array of integers that reads. -/
theorem arr_ints {W : World} {base n fuel : Nat} {sp : Nat → Bool} {held : Bool} {t e : TypeId} {q : IntKind} {cs : List Value} {x : DataW H × List MemPlace} (ht : P.underlying t = some (.array n e)) (he : P.underlying e = some (.int q)) (hc : P.cellsOf e = 1) (hct : P.cellsOf t = n)
    (hf : DataW.trod enc P W base sp held fuel t cs = some x) : ∃ zs : List Int, cs = zs.map (Value.int q) ∧ zs.length = n ∧ ∀ z ∈ zs, (Lit.int q z).wf = true := by
  obtain ⟨hl, m, hp⟩ := arr_parts ht hc hf
  rw [hct] at hl
  have hcells : ∀ i, i < n → ∃ z, cs[i]? = some (.int q z) ∧ (Lit.int q z).wf = true := fun i hi => by
    obtain ⟨y, hy⟩ := hp i hi
    obtain ⟨z, hz, _, hw⟩ := DataW.trod_int he hy
    refine ⟨z, ?_, hw⟩
    have := congrArg (·[0]?) hz
    simpa [List.getElem?_take] using this
  refine ⟨cs.map fun v => match v with | .int _ z => z | _ => 0, ?_, by simp [hl], fun z hz => ?_⟩
  · refine List.ext_getElem (by simp) (fun i h1 h2 => ?_)
    obtain ⟨z, hz, _⟩ := hcells i (by omega)
    rw [List.getElem?_eq_getElem h1, Option.some.injEq] at hz
    simp [hz]
  · simp only [List.mem_map] at hz
    obtain ⟨u, hu, rfl⟩ := hz
    obtain ⟨i, hi, rfl⟩ := List.mem_iff_getElem.1 hu
    obtain ⟨z, hz, hw⟩ := hcells i (by omega)
    rw [List.getElem?_eq_getElem hi, Option.some.injEq] at hz
    simp [hz, hw]
/-- An array of integers that came in. -/
theorem ints_arg {W : World} {base n : Nat} {t e : TypeId} {q : IntKind} {v : Value} {d : DataW H} {p : List MemPlace} (ht : P.underlying t = some (.array n e)) (he : P.underlying e = some (.int q)) (hc : P.cellsOf e = 1) (hct : P.cellsOf t = n)
    (hok : Value.okWide P W .any base t v) (h : DataW.Trod enc P W 0 (fun _ => true) true t v d p) : ∃ zs : List Int, v = .agg (zs.map (Value.int q)).toArray ∧ zs.length = n ∧ ∀ z ∈ zs, (Lit.int q z).wf = true := by
  obtain ⟨cs, rfl, hsz⟩ : ∃ cs : Array Value, v = .agg cs ∧ cs.size = n := by
    simp only [Value.okWide, ht] at hok
    obtain ⟨cs, h1, h2, _⟩ := hok
    exact ⟨cs, h1, by rw [h2, hct]⟩
  obtain ⟨fuel, hf⟩ := h
  obtain ⟨zs, h1, h2, h3⟩ := arr_ints ht he hc hct hf
  refine ⟨zs, ?_, h2, h3⟩
  rw [← h1]
  rfl
/-- An integer that came in. -/
theorem int_arg {W : World} {base : Nat} {t : TypeId} {q : IntKind} {v : Value} {d : DataW H} {p : List MemPlace} (ht : P.underlying t = some (.int q))
    (hok : Value.okWide P W .any base t v) (h : DataW.Trod enc P W 0 (fun _ => true) true t v d p) : ∃ z : Int, v = .int q z ∧ (Lit.int q z).wf = true := by
  obtain ⟨n, rfl, _, _, hw⟩ := open_int ht hok h
  exact ⟨n, rfl, hw⟩
/-- A slice that came in: what each of its elements reads as. -/
theorem sl_arg {W : World} {k fuel : Nat} {t e : TypeId} {cs : List Value} {x : DataW H × List MemPlace} (ht : P.underlying t = some (.slice e)) (hk : P.cellsOf e = k) (hk0 : 0 < k)
    (hf : DataW.trod enc P W 0 (fun _ => true) true fuel t cs = some x) : ∃ A n c, cs = [.slice A n c] ∧ n ≤ c ∧ c ≤ 9223372036854775807 ∧ ∃ E : Nat → List Value, (∀ i, i < n → (E i).length = k ∧ ∃ m y, DataW.trod enc P W 0 (fun _ => true) true m e (E i) = some y) ∧
      (0 < n → ∃ g off, A = some ⟨g, off, Option.none⟩ ∧ g < W.heap.size ∧ ∀ i j u, i < n → (E i)[j]? = some u → W.cell? ⟨g, off + (i * k + j), Option.none⟩ = some u) := by
  rcases Go.Deep.open_slice ht hf with ⟨hcs, _⟩ | ⟨a, len, cap, m, fu, D, Pl, hcs, _, hl, hm, hmm, _, hx⟩
  · exact ⟨Option.none, 0, 0, hcs, Nat.le_refl _, by omega, fun _ => [], fun i hi => by omega, fun h => by omega⟩
  · simp only [if_true] at hmm
    rw [hk] at hx
    obtain ⟨E, hE⟩ := Go.Deep.choose_lt (α := List Value) (p := fun i cs' => W.cells? 0 (a.add (i * k)) k = some cs' ∧ DataW.trod enc P W 0 (fun _ => true) true fu e cs' = some (D i, Pl i)) (fun i hi => hx i hi)
    refine ⟨some a, len, cap, hcs, hl, by unfold maxLen at hm; omega, E, fun i hi => ?_, fun h0 => ?_⟩
    · obtain ⟨h1, h2⟩ := hE i (by omega)
      obtain ⟨_, h3, _⟩ := World.cells?_some h1
      exact ⟨h3, _, _, h2⟩
    · obtain ⟨h1, h2⟩ := hE 0 (by omega)
      obtain ⟨_, h3, h4⟩ := World.cells?_some h1
      have h5 := h4 0 hk0
      rw [Go.Deep.add_add, Nat.zero_mul, Nat.zero_add] at h5
      rw [List.getElem?_eq_getElem (by omega)] at h5
      have hlt := lt_of_cell h5
      obtain ⟨g, off, sp⟩ := a
      have e0 : (⟨g, off, sp⟩ : Addr).add 0 = ⟨g, off, sp⟩ := by simp [Addr.add]
      rw [e0] at h5 hlt
      have hsp : sp = Option.none := by
        cases sp with
        | none => rfl
        | some s =>
          unfold World.cell? at h5
          split at h5
          · simp at h5
          · cases h5
      subst hsp
      refine ⟨g, off, rfl, hlt, fun i j u hi hu => ?_⟩
      obtain ⟨h1, h2⟩ := hE i (by omega)
      obtain ⟨_, h3, h4⟩ := World.cells?_some h1
      have hj : j < k := by rw [← h3]; exact (List.getElem?_eq_some_iff.1 hu).1
      have h6 := h4 j hj
      rw [Go.Deep.add_add, hu, addr_at] at h6
      exact h6
end
section
variable {H : Type} {enc : TypeId × Value → H}
theorem wf_i64 {z : Int} (h : (Lit.int .i64 z).wf = true) : -9223372036854775808 ≤ z ∧ z ≤ 9223372036854775807 := by
  have h1 := (Go.Lit.wf_int_iff .i64 z).1 h
  have e1 : IntKind.i64.min = -9223372036854775808 := rfl
  have e2 : IntKind.i64.max = 9223372036854775807 := rfl
  omega
theorem wf_u16 {z : Int} (h : (Lit.int .u16 z).wf = true) : 0 ≤ z ∧ z < 65536 := by
  have h1 := (Go.Lit.wf_int_iff .u16 z).1 h
  have e1 : IntKind.u16.min = 0 := rfl
  have e2 : IntKind.u16.max = 65535 := rfl
  omega
theorem wf_u8 {z : Int} (h : (Lit.int .u8 z).wf = true) : 0 ≤ z ∧ z < 256 := by
  have h1 := (Go.Lit.wf_int_iff .u8 z).1 h
  have e1 : IntKind.u8.min = 0 := rfl
  have e2 : IntKind.u8.max = 255 := rfl
  omega
set_option maxRecDepth 100000
theorem said_cells {W : World} {m : Nat} {cs : List Value} {y : DataW H × List MemPlace} (h : DataW.trod enc Tryz.prog W 0 (fun _ => true) true m 35 cs = some y) : ∃ (a b c : Nat) (s : ByteArray), a < 256 ∧ b < 256 ∧ c < 256 ∧ cs = [.int .u8 (a : Nat), .int .u8 (b : Nat), .int .u8 (c : Nat), .string s] := by
  obtain ⟨y0, y1, y2, y3, n, _, hl, h0, h1, h2, h3⟩ := Go.Joins.trod_struct4 Tryz.underlying35 h
  obtain ⟨f0, e0, _, w0⟩ := DataW.trod_int Tryz.underlying5 h0
  obtain ⟨f1, e1, _, w1⟩ := DataW.trod_int Tryz.underlying5 h1
  obtain ⟨f2, e2, _, w2⟩ := DataW.trod_int Tryz.underlying5 h2
  obtain ⟨t, e3, _, _⟩ := DataW.trod_string Tryz.underlying9 h3
  have c4 : Tryz.prog.cellsOf 35 = 4 := by kernel_rfl
  have c1 : Tryz.prog.cellsOf 5 = 1 := by kernel_rfl
  have cs1 : Tryz.prog.cellsOf 9 = 1 := by kernel_rfl
  have v0 := wf_u8 w0
  have v1 := wf_u8 w1
  have v2 := wf_u8 w2
  rw [c4] at hl
  simp only [c1] at e0 e1 e2
  simp only [cs1] at e3
  match cs, hl with
  | [a, b, c, d], _ =>
    simp at e0 e1 e2 e3
    refine ⟨f0.toNat, f1.toNat, f2.toNat, t, by omega, by omega, by omega, ?_⟩
    rw [e0, e1, e2, e3, show ((f0.toNat : Nat) : Int) = f0 by omega, show ((f1.toNat : Nat) : Int) = f1 by omega, show ((f2.toNat : Nat) : Int) = f2 by omega]
/-- What came in. -/
theorem saids_arg {W : World} {base : Nat} {v : Value} {d : DataW H} {p : List MemPlace} (hok : Value.okWide Tryz.prog W .any base 22 v) (h : DataW.Trod enc Tryz.prog W 0 (fun _ => true) true 22 v d p) :
    ∃ A n c, v = .slice A n c ∧ n ≤ 9223372036854775807 ∧ (0 < n → ∃ g off, A = some ⟨g, off, Option.none⟩ ∧ g < W.heap.size ∧ ∀ i, i < n → ∃ (rv nv wv : Nat) (s : ByteArray), rv < 256 ∧ nv < 256 ∧ wv < 256 ∧ W.cell? ⟨g, off + i * 4, Option.none⟩ = some (.int .u8 (rv : Nat)) ∧ W.cell? ⟨g, off + i * 4 + 1, Option.none⟩ = some (.int .u8 (nv : Nat)) ∧ W.cell? ⟨g, off + i * 4 + 2, Option.none⟩ = some (.int .u8 (wv : Nat)) ∧ W.cell? ⟨g, off + i * 4 + 3, Option.none⟩ = some (.string s)) := by
  obtain ⟨a0, len, cap, rfl⟩ := okWide_slice Tryz.underlying22 hok
  obtain ⟨fuel, hf⟩ := h
  obtain ⟨A, n, c, hs, hnc, hcm, E, hE, hA⟩ := sl_arg Tryz.underlying22 (show Tryz.prog.cellsOf 35 = 4 by kernel_rfl) (by decide) hf
  have hs' : Value.slice a0 len cap = .slice A n c := by
    have : [Value.slice a0 len cap] = [.slice A n c] := hs
    simpa using this
  refine ⟨A, n, c, hs', by omega, fun h0 => ?_⟩
  obtain ⟨g, off, rfl, hg, hx⟩ := hA h0
  refine ⟨g, off, rfl, hg, fun i hi => ?_⟩
  obtain ⟨_, m, y, hy⟩ := hE i hi
  obtain ⟨a, b, k, s, ha, hb, hk, he⟩ := said_cells hy
  have x0 := hx i 0 (.int .u8 (a : Nat)) hi (by rw [he]; rfl)
  have x1 := hx i 1 (.int .u8 (b : Nat)) hi (by rw [he]; rfl)
  have x2 := hx i 2 (.int .u8 (k : Nat)) hi (by rw [he]; rfl)
  have x3 := hx i 3 (.string s) hi (by rw [he]; rfl)
  rw [Nat.add_zero] at x0
  rw [← Nat.add_assoc] at x1 x2 x3
  exact ⟨a, b, k, s, ha, hb, hk, x0, x1, x2, x3⟩
end
abbrev laid6 : List (String × DataW Unit) := [("math/bits.deBruijn32tab", Rows.laid_math_bits_deBruijn32tab), ("math/bits.deBruijn64tab", Rows.laid_math_bits_deBruijn64tab), ("internal/strconv.uint64pow10", Rows.laid_internal_strconv_uint64pow10), ("unicode/utf8.acceptRanges", Rows.laid_unicode_utf8_acceptRanges), ("bulletin/utf8.bounds", Rows.laid_bulletin_utf8_bounds), ("unicode/utf8.first", Rows.laid_unicode_utf8_first)]
theorem gPow : Tryz.prog.globalNamed "internal/strconv.uint64pow10" = some 2 := by kernel_rfl
theorem gPowType : (Tryz.prog.globals[2]?).map (·.type) = some 140 := by kernel_rfl
theorem gBnd : Tryz.prog.globalNamed "bulletin/utf8.bounds" = some 1 := by kernel_rfl
theorem gBndType : (Tryz.prog.globals[1]?).map (·.type) = some 133 := by kernel_rfl
theorem pow_of {W : World} (h : laidMetH Tryz.prog laid6 W) : Pow W := by
  have h1 := laidMetH.filter (fun x => x.1 == "internal/strconv.uint64pow10") h
  have e : laid6.filter (fun x => x.1 == "internal/strconv.uint64pow10") = [("internal/strconv.uint64pow10", Rows.laid_internal_strconv_uint64pow10)] := by simp [laid6]
  rw [e] at h1
  exact Lib.tabIs_of_head (rest := []) gPow gPowType Tryz.underlying140 Tryz.underlying125 (by kernel_rfl) (by kernel_rfl) h1
theorem bnd_of {W : World} (h : laidMetH Tryz.prog laid6 W) : Bnd W := by
  have h1 := laidMetH.filter (fun x => x.1 == "bulletin/utf8.bounds") h
  have e : laid6.filter (fun x => x.1 == "bulletin/utf8.bounds") = [("bulletin/utf8.bounds", Rows.laid_bulletin_utf8_bounds)] := by simp [laid6]
  rw [e] at h1
  have ht : Lib.TabIs Tryz.prog W "bulletin/utf8.bounds" .i32 [127, 2047, 65535, 1114111] := Lib.tabIs_of_head (rest := []) gBnd gBndType Tryz.underlying133 Tryz.underlying21 (by kernel_rfl) (by kernel_rfl) h1
  have c0 := ht.cell gBnd 0 (by decide)
  have c1 := ht.cell gBnd 1 (by decide)
  have c2 := ht.cell gBnd 2 (by decide)
  exact ⟨lt_of_cell c0, c0, c1, c2⟩
/-- A world for the witness: the settled one, the tables holding what their initialisers lay. -/
noncomputable def laidWorld6 (os : Os) : World :=
  let w := World.holding Tryz.prog os ⟨#[], #[], []⟩
  { w with heap := (((((((w.heap).modify 5 fun
      | .cells _ t frozen => .cells #[.int .u8 0, .int .u8 1, .int .u8 28, .int .u8 2, .int .u8 29, .int .u8 14, .int .u8 24, .int .u8 3, .int .u8 30, .int .u8 22, .int .u8 20, .int .u8 15, .int .u8 25, .int .u8 17, .int .u8 4, .int .u8 8, .int .u8 31, .int .u8 27, .int .u8 13, .int .u8 23, .int .u8 21, .int .u8 19, .int .u8 16, .int .u8 7, .int .u8 26, .int .u8 12, .int .u8 18, .int .u8 6, .int .u8 11, .int .u8 5, .int .u8 10, .int .u8 9] t frozen
      | o => o).modify 6 fun
      | .cells _ t frozen => .cells #[.int .u8 0, .int .u8 1, .int .u8 56, .int .u8 2, .int .u8 57, .int .u8 49, .int .u8 28, .int .u8 3, .int .u8 61, .int .u8 58, .int .u8 42, .int .u8 50, .int .u8 38, .int .u8 29, .int .u8 17, .int .u8 4, .int .u8 62, .int .u8 47, .int .u8 59, .int .u8 36, .int .u8 45, .int .u8 43, .int .u8 51, .int .u8 22, .int .u8 53, .int .u8 39, .int .u8 33, .int .u8 30, .int .u8 24, .int .u8 18, .int .u8 12, .int .u8 5, .int .u8 63, .int .u8 55, .int .u8 48, .int .u8 27, .int .u8 60, .int .u8 41, .int .u8 37, .int .u8 16, .int .u8 46, .int .u8 35, .int .u8 44, .int .u8 21, .int .u8 52, .int .u8 32, .int .u8 23, .int .u8 11, .int .u8 54, .int .u8 26, .int .u8 40, .int .u8 15, .int .u8 34, .int .u8 20, .int .u8 31, .int .u8 10, .int .u8 25, .int .u8 14, .int .u8 19, .int .u8 9, .int .u8 13, .int .u8 8, .int .u8 7, .int .u8 6] t frozen
      | o => o).modify 2 fun
      | .cells _ t frozen => .cells #[.int .u64 1, .int .u64 10, .int .u64 100, .int .u64 1000, .int .u64 10000, .int .u64 100000, .int .u64 1000000, .int .u64 10000000, .int .u64 100000000, .int .u64 1000000000, .int .u64 10000000000, .int .u64 100000000000, .int .u64 1000000000000, .int .u64 10000000000000, .int .u64 100000000000000, .int .u64 1000000000000000, .int .u64 10000000000000000, .int .u64 100000000000000000, .int .u64 1000000000000000000, .int .u64 10000000000000000000] t frozen
      | o => o).modify 4 fun
      | .cells _ t frozen => .cells #[.int .u8 128, .int .u8 191, .int .u8 160, .int .u8 191, .int .u8 128, .int .u8 159, .int .u8 144, .int .u8 191, .int .u8 128, .int .u8 143, .int .u8 0, .int .u8 0, .int .u8 0, .int .u8 0, .int .u8 0, .int .u8 0, .int .u8 0, .int .u8 0, .int .u8 0, .int .u8 0, .int .u8 0, .int .u8 0, .int .u8 0, .int .u8 0, .int .u8 0, .int .u8 0, .int .u8 0, .int .u8 0, .int .u8 0, .int .u8 0, .int .u8 0, .int .u8 0] t frozen
      | o => o).modify 1 fun
      | .cells _ t frozen => .cells #[.int .i32 127, .int .i32 2047, .int .i32 65535, .int .i32 1114111] t frozen
      | o => o).modify 3 fun
      | .cells _ t frozen => .cells (Go.Pinned.utf8FirstZ.map fun (n : Nat) => Value.int .u8 (n : Int)).toArray t frozen
      | o => o) }
end Go.Proofs.YtlidpdjainmaiaaGreatDoor
