/- From the rows' openings to the contracts: a slice of bytes that came in; the row's last step; the table of constants. -/
import Derived.Test.YtbbdnlcjjcmllaaDoorVf
import Derived.Test.YtbbdnlcjjcmllaaDoorCards
import Derived.Test.YtbbdnlcjjcmllaaDoorTie
import Derived.WalkKit
import Derived.ProofKit
import Derived.OpenShut
import Derived.Below
import Derived.ChangeSame
import Derived.ChangeSlices
import Derived.DataShut
import Derived.Deep.DeepHandedRow
import Derived.Lib.LaidTab
namespace Go.Proofs.YtbbdnlcjjcmllaaDoor
open Go Go.RowKit Go.WideShapes Go.ChangeShapes Go.ChangeAt Go.Bul
theorem own : ownKnob Tryd.prog.godebug = none := by kernel_rfl
section
variable {H : Type} {enc : TypeId × Value → H} {P : Program}
/-- The row's last step where all that lay before stays. -/
theorem post_of_below {f : Func} {s : ChangeSpec} {apart fresh handsOn again : Bool} {W W' : World} {args : Array Value} {v : Value} {ds gs : List (DataW H)} {before pa pv : List MemPlace}
    (hW : DataW.Whole enc P f.params.toList s.vars apart W args.toList ds gs before)
    (hres : ∀ (b : Nat) (sp : Nat → Bool) (hd : Bool), DataW.TrodAll enc P W' b sp hd f.resultTypes.toList (v.resultList f.resultTypes.size) (s.fn H (ds ++ gs)).results [])
    (hargs : ∀ sp : Nat → Bool, (∀ p ∈ before, sp p.block = true) → DataW.TrodAll enc P W' 0 sp true f.params.toList args.toList (s.fn H (ds ++ gs)).args pa)
    (hvars : ∀ sp : Nat → Bool, (∀ p ∈ before, sp p.block = true) → DataW.TrodVars enc P W' sp s.vars (s.fn H (ds ++ gs)).vars pv)
    (hps : before = pa ++ pv) (hb : Below W.heap.size W W')
    (hok : ∀ (j : Nat) (t : TypeId) (r : Value), f.resultTypes[j]? = some t → (v.resultList f.resultTypes.size)[j]? = some r → Value.okWide P W' .any 0 t r) :
    s.post enc P f apart fresh handsOn again W args v W' := by
  have hlt : ∀ p ∈ before, p.block < W.heap.size := fun p hp => hW.lt p hp
  have hold : ∀ p ∈ before, (fun b => decide (b < W.heap.size)) p.block = true := fun p hp => by simpa using hlt p hp
  refine ⟨ds, gs, before, [], pa, pv, hW, hres _ _ _, hargs _ hold, hvars _ hold, World.keptBut_mono (fun p hp => ⟨hp, ?_⟩) (hb.frame (· ∈ before)), fun _ => ?_⟩
  · rw [hps, List.mem_append] at hp
    exact Or.inr hp
  · obtain ⟨_, _, _, _, _, hz, hn⟩ := hW
    refine ⟨hok, _, _, ([] ++ pa) ++ pv, ⟨[] ++ pa, pv, trodAll_append (hargs _ (fun _ _ => rfl)) (hres _ _ _), hvars _ (fun _ _ => rfl), rfl, ?_, ?_⟩, ?_⟩
    · intro b off hp
      have hin : MemPlace.cell b off ∈ before := by rw [hps]; simpa using hp
      rw [hb.frozen (hlt _ hin)]
      exact hz b off hin
    · intro ha
      have := hn ha
      rw [hps] at this
      simpa using this
    · intro p hp _
      rw [hps]
      simpa using hp
theorem cells_u8 : Tryd.prog.cellsOf 5 = 1 := by kernel_rfl
end
theorem gTab : Tryd.prog.globalNamed "bulletin/sha256.constants" = some 1 := by kernel_rfl
theorem gTabType : (Tryd.prog.globals[1]?).map (·.type) = some 153 := by kernel_rfl
theorem cells_w64 : Tryd.prog.cellsOf 153 = 64 := by kernel_rfl
theorem cells_u32 : Tryd.prog.cellsOf 112 = 1 := by kernel_rfl
theorem table {W : World} (h : laidMetH Tryd.prog [("bulletin/sha256.constants", Rows.laid_bulletin_sha256_constants)] W) : Lib.TabIs Tryd.prog W "bulletin/sha256.constants" .u32 (Bul.ks.map fun (n : Nat) => (n : Int)) :=
  Lib.tabIs_of_head (rest := []) gTab gTabType Tryd.underlying153 Tryd.underlying112 cells_u32 cells_w64 h
theorem tab_of {W : World} (h : laidMetH Tryd.prog [("bulletin/sha256.constants", Rows.laid_bulletin_sha256_constants)] W) : Tab W := fun i hi => by
  have hl : Bul.ks.length = 64 := rfl
  rw [(table h).cell gTab i (by simp [hl]; exact hi)]
  simp [List.getD, Bul.K, hl, hi]
end Go.Proofs.YtbbdnlcjjcmllaaDoor
