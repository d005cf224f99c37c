/- A claim that came in. -/
import Derived.Test.YtcfojkecmchbdaaDoorMba
import Derived.Test.YtcfojkecmchbdaaDoorMcd
import Derived.ChangeSame
import Derived.ChangeSlices
namespace Go.Proofs.YtcfojkecmchbdaaDoor
open Go Go.RowKit Go.WideShapes Go.ChangeShapes Go.ChangeAt Go.Bul Go.Lin
section
variable {H : Type} {enc : TypeId × Value → H} {P : Program}
theorem slarr_cells {W : World} {k fuel : Nat} {t e b : TypeId} {cs : List Value} {x : DataW H × List MemPlace} (ht : P.underlying t = some (.slice e)) (he : P.underlying e = some (.array k b)) (hb : P.underlying b = some (.int .u8)) (hcb : P.cellsOf b = 1) (hce : P.cellsOf e = k) (hk : 0 < k)
    (hf : DataW.trod enc P W 0 (fun _ => true) true fuel t cs = some x) : ∃ A n c bs, cs = [.slice A n c] ∧ n ≤ c ∧ c ≤ 9223372036854775807 ∧ RdArr W A n k bs := by
  rcases Go.Deep.open_slice ht hf with ⟨hcs, _⟩ | ⟨a, len, cap, m, fu, D, Pl, hcs, _, hl, hm, hmm, _, hx⟩
  · exact ⟨Option.none, 0, 0, [], hcs, Nat.le_refl _, by omega, ⟨by simp, Bytes.nil, fun h => absurd h (by omega)⟩⟩
  · simp only [if_true] at hmm
    rw [hce] at hx
    have hcells : ∀ i, i < len * k → ∃ z : Nat, W.cell? (a.add i) = some (.int .u8 (z : Int)) ∧ z < 256 := fun i hi => by
      have h1 : i / k < len := Nat.div_lt_of_lt_mul (by rw [Nat.mul_comm]; exact hi)
      obtain ⟨cs', hc, hy⟩ := hx (i / k) (by omega)
      obtain ⟨zs, hz, hzl, hw⟩ := arr_ints he hb hcb hce hy
      obtain ⟨_, hcl, hat⟩ := World.cells?_some hc
      have hmod : i % k < k := Nat.mod_lt _ hk
      have hdm : i / k * k + i % k = i := by rw [Nat.mul_comm]; exact Nat.div_add_mod i k
      have h2 := hat (i % k) hmod
      rw [add_of_add, hdm, hz, List.getElem?_map, List.getElem?_eq_getElem (show i % k < zs.length by omega), Option.map_some] at h2
      have h3 := wf_byte (hw zs[i % k] (List.getElem_mem _))
      refine ⟨zs[i % k].toNat, ?_, by omega⟩
      rw [h2]
      congr 2
      omega
    refine ⟨some a, len, cap, (List.range (len * k)).map fun i => match W.cell? (a.add i) with | some (.int _ z) => z.toNat | _ => 0, hcs, hl, by unfold maxLen at hm; omega, ⟨by simp, fun z hz => ?_, fun h0 => ⟨a, rfl, ?_, fun j hj => ?_⟩⟩⟩
    · simp only [List.mem_map, List.mem_range] at hz
      obtain ⟨i, hi, rfl⟩ := hz
      obtain ⟨z, hz, hlt⟩ := hcells i hi
      simp [hz]
      omega
    · obtain ⟨z, hz, _⟩ := hcells 0 (Nat.mul_pos h0 hk)
      have := lt_of_cell hz
      rwa [block_of_add] at this
    · obtain ⟨z, hz, _⟩ := hcells j hj
      rw [hz]
      simp [List.getD, hj, hz]
end
section
variable {H : Type} {enc : TypeId × Value → H}
set_option maxRecDepth 100000 in
theorem claim_arg {W : World} {base : Nat} {v : Value} {d : DataW H} {p : List MemPlace} (hok : Value.okWide Tryd.prog W .any base 48 v) (h : DataW.Trod enc Tryd.prog W 0 (fun _ => true) true 48 v d p) :
    ∃ idx lf A m c bs, v = .agg (claimC idx lf A m c) ∧ m ≤ c ∧ c ≤ 9223372036854775807 ∧ RdArr W A m 16 bs := by
  obtain ⟨cs, rfl, hsz⟩ : ∃ cs : Array Value, v = .agg cs ∧ cs.size = 18 := by
    simp only [Value.okWide, Tryd.underlying48] at hok
    obtain ⟨cs, h1, h2, _⟩ := hok
    exact ⟨cs, h1, by rw [h2]; kernel_rfl⟩
  obtain ⟨fuel, hf⟩ := h
  obtain ⟨xs, m, _, _, hl, hlen, hfs⟩ := DataW.trod_struct Tryd.underlying48 hf
  obtain ⟨y0, y1, y2, rfl⟩ : ∃ y0 y1 y2, xs = [y0, y1, y2] := by
    match xs, hlen with
    | [y0, y1, y2], _ => exact ⟨y0, y1, y2, rfl⟩
  have h0 := hfs 0 _ rfl
  have h1 := hfs 1 _ rfl
  have h2 := hfs 2 _ rfl
  obtain ⟨idx, hi, _⟩ := DataW.trod_int Tryd.underlying3 h0
  obtain ⟨zs, hz, hzl, hw⟩ := arr_ints Tryd.underlying24 Tryd.underlying5 cells_u8 (by kernel_rfl) h1
  obtain ⟨A, n, c, bs, hs, hnc, hc, hrd⟩ := slarr_cells Tryd.underlying33 Tryd.underlying24 Tryd.underlying5 cells_u8 (by kernel_rfl) (by decide) h2
  have c1 : Tryd.prog.cellsOf 3 = 1 := by kernel_rfl
  have c2 : Tryd.prog.cellsOf 33 = 1 := by kernel_rfl
  have c3 : Tryd.prog.cellsOf 24 = 16 := by kernel_rfl
  clear h0 h1 h2 hfs hf
  have hi : (cs.toList.drop 0).take (Tryd.prog.cellsOf 3) = [.int .i64 idx] := hi
  have hz : (cs.toList.drop 1).take (Tryd.prog.cellsOf 24) = zs.map (Value.int .u8) := hz
  have hs : (cs.toList.drop 17).take (Tryd.prog.cellsOf 33) = [.slice A n c] := hs
  rw [c1] at hi
  rw [c2] at hs
  rw [c3] at hz
  obtain ⟨e1, e2⟩ := bytes_of_ints hw
  rw [e1] at hz
  refine ⟨idx, ⟨zs.map Int.toNat, by simp [hzl], e2⟩, A, n, c, bs, ?_, hnc, hc, hrd⟩
  congr 1
  apply Array.ext'
  have hl18 : cs.toList.length = 18 := by simpa using hsz
  unfold claimC
  show cs.toList = .int .i64 idx :: (vals .u8 (zs.map Int.toNat) ++ [.slice A n c])
  have s1 : cs.toList = (cs.toList.drop 0).take 1 ++ ((cs.toList.drop 1).take 16 ++ (cs.toList.drop 17).take 1) := by
    generalize cs.toList = l at hl18
    have d17 : (l.drop 17).take 1 = l.drop 17 := List.take_of_length_le (by simp [hl18])
    have d1 : (l.drop 1).take 16 ++ l.drop 17 = l.drop 1 := by
      have := List.take_append_drop 16 (l.drop 1)
      rwa [List.drop_drop] at this
    rw [d17, d1, List.drop_zero]
    exact (List.take_append_drop 1 l).symm
  rw [s1, hi, hz, hs]
  rfl
end
open Go.Thg in
theorem mver_row (A : Option Addr) (n c : Nat) (bs : List Nat) (idx : Int) (lf : Nd) (B : Option Addr) (m d : Nat) (cs : List Nat) (w : World) (hr : RdArr w A n 16 bs) (hn : n ≤ c) (hc : c ≤ 9223372036854775807) (hr2 : RdArr w B m 16 cs) (hm : m ≤ d) (hd : d ≤ 9223372036854775807) (hT : Tab w) :
    Calls Tryd.prog 5 #[.slice A n c, .agg (claimC idx lf B m d)] w fun e w' => e = .returned (.bool true) ∧ Below w.heap.size w w' := by
  obtain ⟨l, hl⟩ := nin_of hr
  obtain ⟨p, hp⟩ := nin_of hr2
  exact mver_any A n c l idx lf B m d p w hl hp (by omega) (by omega) hT
end Go.Proofs.YtcfojkecmchbdaaDoor
