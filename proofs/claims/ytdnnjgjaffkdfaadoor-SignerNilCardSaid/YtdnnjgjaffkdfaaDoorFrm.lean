/- From the rows' openings to the contracts: a slice of bytes that came in; the row's last step; the table of constants. -/
import Derived.Test.YtdnnjgjaffkdfaaDoorVg
import Derived.Test.YtdnnjgjaffkdfaaDoorCards
import Derived.Test.YtdnnjgjaffkdfaaDoorTie
import Derived.WalkKit
import Derived.ProofKit
import Derived.OpenShut
import Derived.Below
import Derived.ChangeSame
import Derived.ChangeSlices
import Derived.DataShut
import Derived.Deep.DeepHandedRow
import Derived.Lib.LaidTab
namespace Go.Proofs.YtdnnjgjaffkdfaaDoor
open Go Go.RowKit Go.WideShapes Go.ChangeShapes Go.ChangeAt Go.Bul
theorem own : ownKnob Tryd.prog.godebug = none := by kernel_rfl
section
variable {H : Type} {enc : TypeId × Value → H} {P : Program}
/-- The row's last step where all that lay before stays. -/
theorem post_of_below {f : Func} {s : ChangeSpec} {apart fresh handsOn again : Bool} {W W' : World} {args : Array Value} {v : Value} {ds gs : List (DataW H)} {before pa pv : List MemPlace}
    (hW : DataW.Whole enc P f.params.toList s.vars apart W args.toList ds gs before)
    (hres : ∀ (b : Nat) (sp : Nat → Bool) (hd : Bool), DataW.TrodAll enc P W' b sp hd f.resultTypes.toList (v.resultList f.resultTypes.size) (s.fn H (ds ++ gs)).results [])
    (hargs : ∀ sp : Nat → Bool, (∀ p ∈ before, sp p.block = true) → DataW.TrodAll enc P W' 0 sp true f.params.toList args.toList (s.fn H (ds ++ gs)).args pa)
    (hvars : ∀ sp : Nat → Bool, (∀ p ∈ before, sp p.block = true) → DataW.TrodVars enc P W' sp s.vars (s.fn H (ds ++ gs)).vars pv)
    (hps : before = pa ++ pv) (hb : Below W.heap.size W W')
    (hok : ∀ (j : Nat) (t : TypeId) (r : Value), f.resultTypes[j]? = some t → (v.resultList f.resultTypes.size)[j]? = some r → Value.okWide P W' .any 0 t r) :
    s.post enc P f apart fresh handsOn again W args v W' := by
  have hlt : ∀ p ∈ before, p.block < W.heap.size := fun p hp => hW.lt p hp
  have hold : ∀ p ∈ before, (fun b => decide (b < W.heap.size)) p.block = true := fun p hp => by simpa using hlt p hp
  refine ⟨ds, gs, before, [], pa, pv, hW, hres _ _ _, hargs _ hold, hvars _ hold, World.keptBut_mono (fun p hp => ⟨hp, ?_⟩) (hb.frame (· ∈ before)), fun _ => ?_⟩
  · rw [hps, List.mem_append] at hp
    exact Or.inr hp
  · obtain ⟨_, _, _, _, _, hz, hn⟩ := hW
    refine ⟨hok, _, _, ([] ++ pa) ++ pv, ⟨[] ++ pa, pv, trodAll_append (hargs _ (fun _ _ => rfl)) (hres _ _ _), hvars _ (fun _ _ => rfl), rfl, ?_, ?_⟩, ?_⟩
    · intro b off hp
      have hin : MemPlace.cell b off ∈ before := by rw [hps]; simpa using hp
      rw [hb.frozen (hlt _ hin)]
      exact hz b off hin
    · intro ha
      have := hn ha
      rw [hps] at this
      simpa using this
    · intro p hp _
      rw [hps]
      simpa using hp
theorem cells_u8 : Tryd.prog.cellsOf 5 = 1 := by kernel_rfl
theorem lt_of_cell {w : World} {a : Addr} {v : Value} (h : w.cell? a = some v) : a.block < w.heap.size := by
  rcases Nat.lt_or_ge a.block w.heap.size with h' | h'
  · exact h'
  · simp [World.cell?, Array.getElem?_eq_none h'] at h
set_option maxRecDepth 20000 in
/-- A slice of bytes that came in: it reads as bytes, and it reads as before wherever all that lay before stays. -/
theorem bytes_arg {W : World} {base : Nat} {v : Value} {d : DataW H} {p : List MemPlace} (hok : Value.okWide Tryd.prog W .any base 78 v) (h : DataW.Trod enc Tryd.prog W 0 (fun _ => true) true 78 v d p) :
    ∃ A n c bs, v = .slice A n c ∧ n ≤ c ∧ c ≤ 9223372036854775807 ∧ Rd W (fun _ => True) A n bs ∧
      ∀ W' (sp : Nat → Bool), Below W.heap.size W W' → (∀ q ∈ p, sp q.block = true) → DataW.Trod enc Tryd.prog W' 0 sp true 78 v d p := by
  obtain ⟨a0, len, cap, rfl⟩ := okWide_slice Tryd.underlying78 hok
  obtain ⟨fuel, hf⟩ := h
  rcases open_ints Tryd.underlying78 Tryd.underlying5 cells_u8 hf with ⟨hcs, hx⟩ | ⟨a, len', cap', zs, hcs, _, hl, hm, hz, hx, hcell, hwz⟩
  · simp [Value.cells] at hcs
    obtain ⟨rfl, rfl, rfl⟩ := hcs
    simp only [Prod.mk.injEq] at hx
    obtain ⟨rfl, rfl⟩ := hx
    exact ⟨none, 0, 0, [], rfl, Nat.le_refl _, by omega, Rd.nil _ _ _, fun _ _ _ _ => shut_slice_nil Tryd.underlying78⟩
  · simp [Value.cells] at hcs
    obtain ⟨rfl, rfl, rfl⟩ := hcs
    simp only [Prod.mk.injEq] at hx
    obtain ⟨rfl, rfl⟩ := hx
    simp only [if_true] at hz
    have hr : ∀ n ∈ zs, 0 ≤ n ∧ n < 256 := fun n hn => by
      have h1 := (Go.Lit.wf_int_iff .u8 n).1 (hwz n hn)
      have e1 : IntKind.u8.min = 0 := rfl
      have e2 : IntKind.u8.max = 255 := rfl
      omega
    refine ⟨some a, len, cap, (zs.take len).map Int.toNat, rfl, hl, by unfold maxLen at hm; omega, ⟨by simp; omega, ?_, fun h0 => ⟨a, rfl, trivial, ?_, fun j hj => ?_⟩⟩, fun W' sp hb hsp => ?_⟩
    · intro x hx
      simp only [List.mem_map] at hx
      obtain ⟨y, hy, rfl⟩ := hx
      have := hr y (List.mem_of_mem_take hy)
      omega
    · have := lt_of_cell (hcell 0 (by omega))
      rwa [block_of_add] at this
    · rw [hcell j (by omega)]
      have hj2 : j < zs.length := by omega
      have := hr zs[j] (List.getElem_mem hj2)
      simp [List.getD, List.getElem?_eq_getElem hj2, hj]
      omega
    · have hc2 : ∀ i, i < zs.length → W'.cell? (a.add i) = some (.int .u8 (zs.getD i 0)) := fun i hi => by
        rw [hb.cell (lt_of_cell (hcell i hi))]
        exact hcell i hi
      by_cases hz0 : zs.length = 0
      · have hc0 : cap = 0 := by omega
        have hl0 : len = 0 := by omega
        subst hc0; subst hl0
        have t0 := shut_ints (enc := enc) (w := W') (base := 0) (spare := sp) (held := true) (a := a) (len := 0) (cap := 0) (zs := zs) 0 Tryd.underlying78 Tryd.underlying5 cells_u8 (Nat.zero_le _) (Nat.le_refl _) hm (by simp [hz0]) hc2 hwz
        exact ⟨2, by simpa [Value.cells] using t0⟩
      · have hspb : sp a.block = true := by
          have := hsp (.cell a.block a.off) (MemPlace.mem_row.2 ⟨0, by omega, by simp⟩)
          exact this
        have t0 := shut_ints (enc := enc) (w := W') (base := 0) (spare := sp) (held := true) (a := a) (len := len) (cap := cap) (zs := zs) 0 Tryd.underlying78 Tryd.underlying5 cells_u8 (Nat.zero_le _) hl hm (by simp [hspb, hz]) hc2 hwz
        exact ⟨2, by simpa [Value.cells] using t0⟩
end
theorem gTab : Tryd.prog.globalNamed "bulletin/sha256.constants" = some 1 := by kernel_rfl
theorem gTabType : (Tryd.prog.globals[1]?).map (·.type) = some 178 := by kernel_rfl
theorem cells_w64 : Tryd.prog.cellsOf 178 = 64 := by kernel_rfl
theorem cells_u32 : Tryd.prog.cellsOf 133 = 1 := by kernel_rfl
theorem table {W : World} (h : laidMetH Tryd.prog [("bulletin/sha256.constants", Rows.laid_bulletin_sha256_constants)] W) : Lib.TabIs Tryd.prog W "bulletin/sha256.constants" .u32 (Bul.ks.map fun (n : Nat) => (n : Int)) :=
  Lib.tabIs_of_head (rest := []) gTab gTabType Tryd.underlying178 Tryd.underlying133 cells_u32 cells_w64 h
theorem tab_of {W : World} (h : laidMetH Tryd.prog [("bulletin/sha256.constants", Rows.laid_bulletin_sha256_constants)] W) : Tab W := fun i hi => by
  have hl : Bul.ks.length = 64 := rfl
  rw [(table h).cell gTab i (by simp [hl]; exact hi)]
  simp [List.getD, Bul.K, hl, hi]
/-- A world for the witnesses: the settled one, the table holding what its initialiser lays. -/
noncomputable def laidWorld (os : Os) : World :=
  { World.holding Tryd.prog os ⟨#[], #[], []⟩ with heap := (World.holding Tryd.prog os ⟨#[], #[], []⟩).heap.modify 1 fun
      | .cells _ t frozen => .cells #[.int .u32 1116352408, .int .u32 1899447441, .int .u32 3049323471, .int .u32 3921009573, .int .u32 961987163, .int .u32 1508970993, .int .u32 2453635748, .int .u32 2870763221, .int .u32 3624381080, .int .u32 310598401, .int .u32 607225278, .int .u32 1426881987, .int .u32 1925078388, .int .u32 2162078206, .int .u32 2614888103, .int .u32 3248222580, .int .u32 3835390401, .int .u32 4022224774, .int .u32 264347078, .int .u32 604807628, .int .u32 770255983, .int .u32 1249150122, .int .u32 1555081692, .int .u32 1996064986, .int .u32 2554220882, .int .u32 2821834349, .int .u32 2952996808, .int .u32 3210313671, .int .u32 3336571891, .int .u32 3584528711, .int .u32 113926993, .int .u32 338241895, .int .u32 666307205, .int .u32 773529912, .int .u32 1294757372, .int .u32 1396182291, .int .u32 1695183700, .int .u32 1986661051, .int .u32 2177026350, .int .u32 2456956037, .int .u32 2730485921, .int .u32 2820302411, .int .u32 3259730800, .int .u32 3345764771, .int .u32 3516065817, .int .u32 3600352804, .int .u32 4094571909, .int .u32 275423344, .int .u32 430227734, .int .u32 506948616, .int .u32 659060556, .int .u32 883997877, .int .u32 958139571, .int .u32 1322822218, .int .u32 1537002063, .int .u32 1747873779, .int .u32 1955562222, .int .u32 2024104815, .int .u32 2227730452, .int .u32 2361852424, .int .u32 2428436474, .int .u32 2756734187, .int .u32 3204031479, .int .u32 3329325298] t frozen
      | o => o }
end Go.Proofs.YtdnnjgjaffkdfaaDoor
