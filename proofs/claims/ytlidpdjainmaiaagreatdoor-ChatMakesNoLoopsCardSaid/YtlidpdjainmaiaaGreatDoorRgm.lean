/- Drawn regions over the heap predicate: loads first, the rest in its order; what a call made beside all else. -/
import Derived.Test.YtlidpdjainmaiaaGreatDoorRgt
import Derived.Test.YtlidpdjainmaiaaGreatDoorXd
namespace Go.Thg
open Go Go.RowKit Go.Bul
section
variable {P : Program} {w w0 w' : World} {G : List Nat} {L L' : List Ent} {R R' : List Thing} {Q : Exit → Act → World → Prop}
/-- What was made beside all that was known. -/
theorem Mem.frame (h : Mem G w0 L R w) (k : Mem [] w L' R' w') : Mem G w0 (L' ++ L) (R' ++ R) w' := by
  have h1 := h.step k.below
  have hge : ∀ g ∈ foot L' R', w.heap.size ≤ g := fun g hg => by simpa using k.own g hg
  have hp : (foot (L' ++ L) (R' ++ R)).Perm (foot L' R' ++ foot L R) := by
    simp only [foot, List.map_append, List.flatMap_append, List.append_assoc]
    refine List.Perm.append_left _ ?_
    rw [← List.append_assoc, ← List.append_assoc]
    exact List.Perm.append_right _ List.perm_append_comm
  refine ⟨h1.old, ?_, ?_, ?_, ?_⟩
  · intro b hb
    rcases List.mem_append.1 hb with hb | hb
    · exact k.blk_ b hb
    · exact h1.blk_ b hb
  · intro r hr
    rcases List.mem_append.1 hr with hr | hr
    · exact k.thing r hr
    · exact h1.thing r hr
  · intro g hg
    rcases List.mem_append.1 (hp.mem_iff.1 hg) with hg | hg
    · exact .inl (Nat.le_trans h.le (hge g hg))
    · exact h.own g hg
  · refine hp.nodup_iff.2 (List.nodup_append.2 ⟨k.sep, h.sep, fun g hg j hj => ?_⟩)
    have := hge g hg
    have := h.lt hj
    omega
theorem wp_region_allB (hM : Mem G w0 L R w) {id : Nat} {a : Act} {l : List Oper} (k : Nat) (hm : P.follows .mixedOrders = true)
    (h : ∀ wd, Mem G w0 L R wd → wpAllT P l.toArray Q (fun w' => Below wd.heap.size wd w') k (Array.replicate l.toArray.size false) a wd) : (Code.region id l.toArray true).wp P Q a w :=
  wp_region_allT _ k hm (h _ hM.drew)
end
end Go.Thg
