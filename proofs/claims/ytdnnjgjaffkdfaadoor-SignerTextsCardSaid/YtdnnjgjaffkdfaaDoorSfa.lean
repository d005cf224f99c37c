/- What comes in: signatures; the two tables that a row of layer 8 lists. -/
import Derived.Test.YtdnnjgjaffkdfaaDoorFrmc
import Derived.Test.YtdnnjgjaffkdfaaDoorWf
import Derived.LaidSub
import Derived.ChangeSame
import Derived.ChangeSlices
namespace Go.Lin
open Go Go.Bul
theorem chunks : ∀ (n : Nat) (bs : List Nat), bs.length = n * 16 → Bytes bs → ∃ l : List Nd, l.length = n ∧ ndCells l = vals .u8 bs
  | 0, bs, h, _ => by
    have : bs = [] := List.eq_nil_of_length_eq_zero (by omega)
    subst this
    exact ⟨[], rfl, rfl⟩
  | n + 1, bs, h, hb => by
    obtain ⟨l, h1, h2⟩ := chunks n (bs.drop 16) (by rw [List.length_drop]; omega) (fun x hx => hb x (List.mem_of_mem_drop hx))
    refine ⟨⟨bs.take 16, by rw [List.length_take]; omega, hb.take _⟩ :: l, by simp [h1], ?_⟩
    have e : ndCells (⟨bs.take 16, by rw [List.length_take]; omega, hb.take _⟩ :: l) = vals .u8 (bs.take 16) ++ ndCells l := by simp [ndCells]
    rw [e, h2]
    simp only [vals, ← List.map_append, List.take_append_drop]
end Go.Lin
namespace Go.Proofs.YtdnnjgjaffkdfaaDoor
open Go Go.RowKit Go.WideShapes Go.ChangeShapes Go.ChangeAt Go.Bul Go.Thg Go.Lin
theorem cell_none {w : World} {g off : Nat} {sp : Option Nat} {v : Value} (h : w.cell? ⟨g, off, sp⟩ = some v) : sp = none := by
  cases sp with
  | none => rfl
  | some s =>
    unfold World.cell? at h
    split at h
    · simp at h
    · cases h
theorem nin_of {w : World} {A : Option Addr} {n : Nat} {bs : List Nat} (h : RdArr w A n 16 bs) : ∃ l : List Nd, NIn w A n l := by
  obtain ⟨l, h1, h2⟩ := chunks n bs h.len h.bytes
  refine ⟨l, ?_⟩
  unfold NIn
  rw [h2]
  refine ⟨by rw [vals_length, h.len], fun h0 => ?_⟩
  obtain ⟨⟨g, off, sp⟩, rfl, hlt, hc⟩ := h.at_ h0
  have h3 := hc 0 (by omega)
  have e0 : (⟨g, off, sp⟩ : Addr).add 0 = ⟨g, off, sp⟩ := by simp [Addr.add]
  rw [e0] at h3
  obtain rfl := cell_none h3
  refine ⟨g, off, rfl, hlt, fun j u hu => ?_⟩
  have hj : j < bs.length := by
    have := (List.getElem?_eq_some_iff.1 hu).1
    simpa using this
  have h4 := hc j (by have := h.len; omega)
  rw [addr_at] at h4
  rw [h4]
  simp only [vals, List.getElem?_map, List.getElem?_eq_getElem hj, Option.map_some] at hu
  rw [List.getD_eq_getElem?_getD, List.getElem?_eq_getElem hj]
  exact hu
section
variable {H : Type} {enc : TypeId × Value → H} {P : Program}
theorem slarr_cells {W : World} {k fuel : Nat} {t e b : TypeId} {cs : List Value} {x : DataW H × List MemPlace} (ht : P.underlying t = some (.slice e)) (he : P.underlying e = some (.array k b)) (hb : P.underlying b = some (.int .u8)) (hcb : P.cellsOf b = 1) (hce : P.cellsOf e = k) (hk : 0 < k)
    (hf : DataW.trod enc P W 0 (fun _ => true) true fuel t cs = some x) : ∃ A n c bs, cs = [.slice A n c] ∧ n ≤ c ∧ c ≤ 9223372036854775807 ∧ RdArr W A n k bs := by
  rcases Go.Deep.open_slice ht hf with ⟨hcs, _⟩ | ⟨a, len, cap, m, fu, D, Pl, hcs, _, hl, hm, hmm, _, hx⟩
  · exact ⟨Option.none, 0, 0, [], hcs, Nat.le_refl _, by omega, ⟨by simp, Bytes.nil, fun h => absurd h (by omega)⟩⟩
  · simp only [if_true] at hmm
    rw [hce] at hx
    have hcells : ∀ i, i < len * k → ∃ z : Nat, W.cell? (a.add i) = some (.int .u8 (z : Int)) ∧ z < 256 := fun i hi => by
      have h1 : i / k < len := Nat.div_lt_of_lt_mul (by rw [Nat.mul_comm]; exact hi)
      obtain ⟨cs', hc, hy⟩ := hx (i / k) (by omega)
      obtain ⟨zs, hz, hzl, hw⟩ := arr_ints he hb hcb hce hy
      obtain ⟨_, hcl, hat⟩ := World.cells?_some hc
      have hmod : i % k < k := Nat.mod_lt _ hk
      have hdm : i / k * k + i % k = i := by rw [Nat.mul_comm]; exact Nat.div_add_mod i k
      have h2 := hat (i % k) hmod
      rw [add_of_add, hdm, hz, List.getElem?_map, List.getElem?_eq_getElem (show i % k < zs.length by omega), Option.map_some] at h2
      have h3 := wf_byte (hw zs[i % k] (List.getElem_mem _))
      refine ⟨zs[i % k].toNat, ?_, by omega⟩
      rw [h2]
      congr 2
      omega
    refine ⟨some a, len, cap, (List.range (len * k)).map fun i => match W.cell? (a.add i) with | some (.int _ z) => z.toNat | _ => 0, hcs, hl, by unfold maxLen at hm; omega, ⟨by simp, fun z hz => ?_, fun h0 => ⟨a, rfl, ?_, fun j hj => ?_⟩⟩⟩
    · simp only [List.mem_map, List.mem_range] at hz
      obtain ⟨i, hi, rfl⟩ := hz
      obtain ⟨z, hz, hlt⟩ := hcells i hi
      simp [hz]
      omega
    · obtain ⟨z, hz, _⟩ := hcells 0 (Nat.mul_pos h0 hk)
      have := lt_of_cell hz
      rwa [block_of_add] at this
    · obtain ⟨z, hz, _⟩ := hcells j hj
      rw [hz]
      simp [List.getD, hj, hz]
end

section
variable {H : Type} {enc : TypeId × Value → H}
set_option maxRecDepth 100000 in
theorem sig_arg {W : World} {base : Nat} {v : Value} {d : DataW H} {p : List MemPlace} (hok : Value.okWide Tryd.prog W .any base 26 v) (h : DataW.Trod enc Tryd.prog W 0 (fun _ => true) true 26 v d p) :
    ∃ lf ch A m c path, v = .agg (sigC lf ch A m c) ∧ m ≤ c ∧ c ≤ 9223372036854775807 ∧ NIn W A m path := by
  obtain ⟨cs, rfl, hsz⟩ : ∃ cs : Array Value, v = .agg cs ∧ cs.size = 562 := by
    simp only [Value.okWide, Tryd.underlying26] at hok
    obtain ⟨cs, h1, h2, _⟩ := hok
    exact ⟨cs, h1, by rw [h2]; kernel_rfl⟩
  obtain ⟨fuel, hf⟩ := h
  obtain ⟨xs, m, _, _, hl, hlen, hfs⟩ := DataW.trod_struct Tryd.underlying26 hf
  obtain ⟨y0, y1, y2, rfl⟩ : ∃ y0 y1 y2, xs = [y0, y1, y2] := by
    match xs, hlen with
    | [y0, y1, y2], _ => exact ⟨y0, y1, y2, rfl⟩
  have h0 := hfs 0 _ rfl
  have h1 := hfs 1 _ rfl
  have h2 := hfs 2 _ rfl
  obtain ⟨idx, hi, _⟩ := DataW.trod_int Tryd.underlying3 h0
  obtain ⟨zs, hz, hzl, hw⟩ := arr2_bytes Tryd.underlying23 Tryd.underlying22 Tryd.underlying5 cells_u8 (by kernel_rfl) (by kernel_rfl) (by decide) h1
  obtain ⟨A, n, c, bs, hs, hnc, hc, hrd⟩ := slarr_cells Tryd.underlying24 Tryd.underlying22 Tryd.underlying5 cells_u8 (by kernel_rfl) (by decide) h2
  have c1 : Tryd.prog.cellsOf 3 = 1 := by kernel_rfl
  have c2 : Tryd.prog.cellsOf 24 = 1 := by kernel_rfl
  have c3 : Tryd.prog.cellsOf 23 = 560 := by kernel_rfl
  clear h0 h1 h2 hfs hf
  have hi : (cs.toList.drop 0).take (Tryd.prog.cellsOf 3) = [.int .i64 idx] := hi
  have hz : (cs.toList.drop 1).take (Tryd.prog.cellsOf 23) = vals .u8 zs := hz
  have hs : (cs.toList.drop 561).take (Tryd.prog.cellsOf 24) = [.slice A n c] := hs
  rw [c1] at hi
  rw [c2] at hs
  rw [c3] at hz
  obtain ⟨path, hp⟩ := nin_of hrd
  refine ⟨idx, ⟨zs, hzl, hw⟩, A, n, c, path, ?_, hnc, hc, hp⟩
  congr 1
  apply Array.ext'
  have hl18 : cs.toList.length = 562 := by simpa using hsz
  unfold sigC
  show cs.toList = .int .i64 idx :: (vals .u8 zs ++ [.slice A n c])
  have s1 : cs.toList = (cs.toList.drop 0).take 1 ++ ((cs.toList.drop 1).take 560 ++ (cs.toList.drop 561).take 1) := by
    generalize cs.toList = l at hl18
    have d17 : (l.drop 561).take 1 = l.drop 561 := List.take_of_length_le (by simp [hl18])
    have d1 : (l.drop 1).take 560 ++ l.drop 561 = l.drop 1 := by
      have := List.take_append_drop 560 (l.drop 1)
      rwa [List.drop_drop] at this
    rw [d17, d1, List.drop_zero]
    exact (List.take_append_drop 1 l).symm
  rw [s1, hi, hz, hs]
  rfl
end
abbrev laid2 : List (String × DataW Unit) := [("bulletin/base64.alphabet", Rows.laid_bulletin_base64_alphabet), ("bulletin/sha256.constants", Rows.laid_bulletin_sha256_constants)]
theorem tab_of2 {W : World} (h : laidMetH Tryd.prog laid2 W) : Tab W := by
  have h1 := laidMetH.filter (fun x => x.1 == "bulletin/sha256.constants") h
  have e : laid2.filter (fun x => x.1 == "bulletin/sha256.constants") = [("bulletin/sha256.constants", Rows.laid_bulletin_sha256_constants)] := by simp [laid2]
  rw [e] at h1
  exact tab_of h1
theorem gAlp : Tryd.prog.globalNamed "bulletin/base64.alphabet" = some 0 := by kernel_rfl
theorem gAlpType : (Tryd.prog.globals[0]?).map (·.type) = some 189 := by kernel_rfl
theorem alp_of2 {W : World} (h : laidMetH Tryd.prog laid2 W) : Alp W := by
  have ht : Lib.TabIs Tryd.prog W "bulletin/base64.alphabet" .u8 (alL.map fun (n : Nat) => (n : Int)) := Lib.tabIs_of_head (rest := [("bulletin/sha256.constants", Rows.laid_bulletin_sha256_constants)]) gAlp gAlpType Tryd.underlying189 Tryd.underlying5 cells_u8 (by kernel_rfl) h
  intro i hi
  have hl : alL.length = 64 := rfl
  rw [ht.cell gAlp i (by simp [hl]; exact hi)]
  simp [List.getD, alf, hl, hi]
/-- A world for the witnesses: the settled one, the tables holding what their initialisers lay. -/
noncomputable def laidWorld2 (os : Os) : World :=
  let w := World.holding Tryd.prog os ⟨#[], #[], []⟩
  { w with heap := (w.heap.modify 1 fun
      | .cells _ t frozen => .cells #[.int .u32 1116352408, .int .u32 1899447441, .int .u32 3049323471, .int .u32 3921009573, .int .u32 961987163, .int .u32 1508970993, .int .u32 2453635748, .int .u32 2870763221, .int .u32 3624381080, .int .u32 310598401, .int .u32 607225278, .int .u32 1426881987, .int .u32 1925078388, .int .u32 2162078206, .int .u32 2614888103, .int .u32 3248222580, .int .u32 3835390401, .int .u32 4022224774, .int .u32 264347078, .int .u32 604807628, .int .u32 770255983, .int .u32 1249150122, .int .u32 1555081692, .int .u32 1996064986, .int .u32 2554220882, .int .u32 2821834349, .int .u32 2952996808, .int .u32 3210313671, .int .u32 3336571891, .int .u32 3584528711, .int .u32 113926993, .int .u32 338241895, .int .u32 666307205, .int .u32 773529912, .int .u32 1294757372, .int .u32 1396182291, .int .u32 1695183700, .int .u32 1986661051, .int .u32 2177026350, .int .u32 2456956037, .int .u32 2730485921, .int .u32 2820302411, .int .u32 3259730800, .int .u32 3345764771, .int .u32 3516065817, .int .u32 3600352804, .int .u32 4094571909, .int .u32 275423344, .int .u32 430227734, .int .u32 506948616, .int .u32 659060556, .int .u32 883997877, .int .u32 958139571, .int .u32 1322822218, .int .u32 1537002063, .int .u32 1747873779, .int .u32 1955562222, .int .u32 2024104815, .int .u32 2227730452, .int .u32 2361852424, .int .u32 2428436474, .int .u32 2756734187, .int .u32 3204031479, .int .u32 3329325298] t frozen
      | o => o).modify 0 fun
      | .cells _ t frozen => .cells #[.int .u8 65, .int .u8 66, .int .u8 67, .int .u8 68, .int .u8 69, .int .u8 70, .int .u8 71, .int .u8 72, .int .u8 73, .int .u8 74, .int .u8 75, .int .u8 76, .int .u8 77, .int .u8 78, .int .u8 79, .int .u8 80, .int .u8 81, .int .u8 82, .int .u8 83, .int .u8 84, .int .u8 85, .int .u8 86, .int .u8 87, .int .u8 88, .int .u8 89, .int .u8 90, .int .u8 97, .int .u8 98, .int .u8 99, .int .u8 100, .int .u8 101, .int .u8 102, .int .u8 103, .int .u8 104, .int .u8 105, .int .u8 106, .int .u8 107, .int .u8 108, .int .u8 109, .int .u8 110, .int .u8 111, .int .u8 112, .int .u8 113, .int .u8 114, .int .u8 115, .int .u8 116, .int .u8 117, .int .u8 118, .int .u8 119, .int .u8 120, .int .u8 121, .int .u8 122, .int .u8 48, .int .u8 49, .int .u8 50, .int .u8 51, .int .u8 52, .int .u8 53, .int .u8 54, .int .u8 55, .int .u8 56, .int .u8 57, .int .u8 43, .int .u8 47] t frozen
      | o => o }
end Go.Proofs.YtdnnjgjaffkdfaaDoor
