/- Seat n: comparing: bytes.Compare, compareIds, cmp.Compare, the spool's order. -/
import Derived.Test.YtpjphjokhccdaaaGreatNgf
import Derived.Lib.BytesEntry
import Derived.Lib.Bytealg
namespace Go.Proofs.YtpjphjokhccdaaaGreat
open Go Go.RowKit Go.Bul Go.Thg Go.Lin Go.Maps
/-- The id of a struct, as bytes in memory. -/
theorem run_bytes_id {w : World} {g off c j : Nat} {t : TypeId} {n : Nat} {tl : List Value} {w0 : World} {G : List Nat} {L : List Ent} {R : List Thing} (hM : Mem G w0 L R w) (hL : (⟨g, t, n, stC j tl⟩ : Ent) ∈ L) (h0 : off = 0) :
    ∃ bs, (Extern.Bytes.bytesOf (.slice (some ⟨g, off, none⟩) 32 c)).run Tryz.prog w = .ok bs w := by
  subst h0
  have hB := hM.blk hL
  have h := Lib.run_loadBytesX (P := Tryz.prog) (w := w) ((idL j).map fun (n : Nat) => (n : Int)) ⟨g, 0, none⟩ .empty (fun i x hx => by
    rw [addr_at]
    refine (hB.cell _).trans ?_
    rw [Nat.zero_add]
    simp only [stC, List.getElem?_toArray]
    have hi : i < (vals .u8 (idL j)).length := by
      have := (List.getElem?_eq_some_iff.1 hx).1
      simpa using this
    rw [List.getElem?_append_left hi]
    simp only [List.getElem?_map] at hx
    rw [vals_get]
    cases hq : (idL j)[i]? with
    | none => rw [hq] at hx; cases hx
    | some y => rw [hq] at hx; simp only [Option.map_some, Option.some.injEq] at hx; rw [← hx]; rfl)
  have hl : ((idL j).map fun (n : Nat) => (n : Int)).length = 32 := by simp [idL]
  rw [hl] at h
  exact ⟨_, h⟩
set_option maxRecDepth 20000 in
theorem bcmp_any {w w0 : World} {G : List Nat} {L : List Ent} {R : List Thing} {g1 g2 c1 c2 j1 j2 : Nat} {t1 t2 : TypeId} {n1 n2 : Nat} {l1 l2 : List Value} (hM : Mem G w0 L R w) (h1 : (⟨g1, t1, n1, stC j1 l1⟩ : Ent) ∈ L) (h2 : (⟨g2, t2, n2, stC j2 l2⟩ : Ent) ∈ L) :
    Calls Tryz.prog 66 #[.slice (some ⟨g1, 0, none⟩) 32 c1, .slice (some ⟨g2, 0, none⟩) 32 c2] w fun e w' => (∃ z, e = .returned (.int .i64 z)) ∧ w = w' := by
  obtain ⟨b1, e1⟩ := run_bytes_id (c := c1) hM h1 rfl
  obtain ⟨b2, e2⟩ := run_bytes_id (c := c2) hM h2 rfl
  have hr : (Extern.BytealgCompare.compare #[.slice (some ⟨g1, 0, none⟩) 32 c1, .slice (some ⟨g2, 0, none⟩) 32 c2]).run Tryz.prog w = .ok (.int .i64 (Extern.BytealgCompare.cmp b1 b2)) w := by
    change (do pure (goInt (Extern.BytealgCompare.cmp (← Extern.Bytes.bytesOf (.slice (some ⟨g1, 0, none⟩) 32 c1)) (← Extern.Bytes.bytesOf (.slice (some ⟨g2, 0, none⟩) 32 c2)))) : Sem Value).run Tryz.prog w = _
    simp only [Sem.run_bind, e1, e2, Result.andThen_ok, Sem.run_pure]
    rfl
  clear e1 e2 h1 h2 hM
  generalize Extern.BytealgCompare.cmp b1 b2 = z at hr
  go_enter Tryz.func66, Tryz.ntmps66
  go_wp2
  rw [run_callFunc_extern Tryz.func99 (by kernel_rfl) (by kernel_rfl) (by kernel_rfl) (e := Extern.BytealgCompare.compare) (by kernel_rfl), hr]
  simp only [Result.andThen]
  rw [Oper.upon_value]
  go_wp2
  go_ret
  exact ⟨⟨_, rfl⟩, rfl⟩
theorem slice_id (g : Nat) (w : World) : (Instr.sliceAt 38 (.pointer (some ⟨g, 0, none⟩)) none none none).run Tryz.prog w = .ok (.slice (some ⟨g, 0, none⟩) 32 32) w := by kernel_rfl
set_option maxRecDepth 20000 in
set_option maxHeartbeats 1000000 in
theorem cmpIds_any (x y : El) (w : World) (hx : x.2.length = 4) (hy : y.2.length = 4) : Calls Tryz.prog 54 #[.agg (elC x), .agg (elC y)] w fun e w' => (∃ z, e = .returned (.int .i64 z)) ∧ Below w.heap.size w w' := by
  have hM := Mem.start [] w
  have s1 := Lib.hid (show (elC x).size = 36 by rw [stC_size, hx])
  have s2 := Lib.hid (show (elC y).size = 36 by rw [stC_size, hy])
  have hs := slice_id
  clear hx hy
  go_enter Tryz.func54, Tryz.ntmps54
  go_upto_region 1 with (first | ((with_reducible refine at_box ?_); first | (refine nlb hM ?_ (hn := s1.out); clear hM; intro gx wx hM) | (refine nlb hM ?_ (hn := s2.out); clear hM; intro gy wy hM)))
  refine wp_region_allHB hM (by kernel_rfl) ?_
  clear hM
  intro wd hM
  have HM0 := Lib.hid hM
  have hS := Below.refl wd.heap.size wd
  refine wpAllH_takes [0, 1, 2, 3] (by kernel_rfl) (fun _ _ _ _ _ h => h) hS (by kernel_rfl) ?_
  simp only [pickOps, List.filterMap_cons, List.filterMap_nil, List.getElem?_cons_zero, List.getElem?_cons_succ]
  repeat ((with_reducible apply wpHeld_step); (· rfl); (· (intro wq hSw; first | (go_simp; rfl) | (have hM' := HM0.out.step hSw; first | exact yields_load (C := fun _ => True) (nqc hM') rfl | exact yields_load (C := fun _ => True) (nql hM') rfl | exact yields_load (C := fun _ => True) (nqp hM') rfl | fail))); intro K hK; go_simp; (with_reducible refine hK _ ?_); clear hK K)
  refine wpHeld_nil ?_
  refine wpAllH_one 4 rfl (by kernel_rfl) ?_
  go_wp2_with fail
  refine (bcmp_any (hM.step hS) (List.Mem.tail _ (List.Mem.head _)) (List.Mem.head _)).mono ?_
  rintro e w1 ⟨⟨z, rfl⟩, rfl⟩
  go_wp2_with fail
  refine then_normal ⟨hS, ?_⟩
  refine wpAllH_takes [5] (by kernel_rfl) (fun _ _ _ _ _ h => h) hS (by kernel_rfl) ?_
  simp only [pickOps, List.filterMap_cons, List.filterMap_nil, List.getElem?_cons_zero, List.getElem?_cons_succ]
  repeat ((with_reducible apply wpHeld_step); (· rfl); (· (intro wq hSw; first | (go_simp; rfl) | (have hM' := HM0.out.step hSw; first | exact yields_load (C := fun _ => True) (nqc hM') rfl | exact yields_load (C := fun _ => True) (nql hM') rfl | exact yields_load (C := fun _ => True) (nqp hM') rfl | fail))); intro K hK; go_simp; (with_reducible refine hK _ ?_); clear hK K)
  refine wpHeld_nil ?_
  clear hS HM0
  refine wpAllH_done (by kernel_rfl) ?_
  go_wp2_with fail
  go_ret
  exact ⟨⟨_, rfl⟩, hM.below⟩
set_option maxRecDepth 20000 in
theorem isNaN_any (n : Int) (w : World) : Calls Tryz.prog 59 #[.int .i64 n] w fun e w' => e = .returned (.bool false) ∧ w = w' := by
  have hq : (n != n) = false := by simp
  go_enter Tryz.func59, Tryz.ntmps59
  go_wp2_with fail
  go_ret
  exact ⟨rfl, rfl⟩
set_option maxRecDepth 20000 in
set_option maxHeartbeats 1000000 in
theorem cmpi_any (x y : Int) (w : World) : Calls Tryz.prog 37 #[.int .i64 x, .int .i64 y] w fun e w' => (∃ z, e = .returned (.int .i64 z)) ∧ w = w' := by
  have HN := Lib.hid (fun n w => isNaN_any n w)
  by_cases h1 : x < y
  · have c1 : decide (x < y) = true := decide_eq_true h1
    clear h1
    go_enter Tryz.func37, Tryz.ntmps37
    go_wp2_with ((with_reducible refine (HN.out _ _).mono ?_); rintro e w1 ⟨rfl, rfl⟩)
    go_ret
    exact ⟨⟨_, rfl⟩, rfl⟩
  · have c1 : decide (x < y) = false := decide_eq_false h1
    clear h1
    by_cases h2 : y < x
    · have c2 : decide (y < x) = true := decide_eq_true h2
      clear h2
      go_enter Tryz.func37, Tryz.ntmps37
      go_wp2_with ((with_reducible refine (HN.out _ _).mono ?_); rintro e w1 ⟨rfl, rfl⟩)
      go_ret
      exact ⟨⟨_, rfl⟩, rfl⟩
    · have c2 : decide (y < x) = false := decide_eq_false h2
      clear h2
      go_enter Tryz.func37, Tryz.ntmps37
      go_wp2_with ((with_reducible refine (HN.out _ _).mono ?_); rintro e w1 ⟨rfl, rfl⟩)
      go_ret
      exact ⟨⟨_, rfl⟩, rfl⟩
section
variable {w w0 : World} {G : List Nat} {L : List Ent} {R : List Thing}
set_option maxRecDepth 20000 in
set_option maxHeartbeats 2000000 in
theorem cmpSp_any (gs s b : Nat) (bud byt nxt : Int) (mp : Nat → Option Value) (x y : El) (hM : Mem G w0 L R w) (hx : x.2.length = 2) (hy : y.2.length = 2) (jx : x.1 < 11) (jy : y.1 < 11) (t1 t2 : ByteArray) (a1 a2 p1 p2 : Int) (h1 : mp x.1 = some (artV t1 a1 p1)) (h2 : mp y.1 = some (artV t2 a2 p2))
    (hs : ⟨gs, 28, 1, #[.pointer (some ⟨s, 0, none⟩)]⟩ ∈ L) (hL : ⟨s, 74, 4, splC bud byt nxt b⟩ ∈ L) (hR : mapT b mp ∈ R) :
    Calls Tryz.prog 36 #[.agg (elC x), .agg (elC y), .pointer (some ⟨gs, 0, none⟩)] w fun e w' => (∃ z, e = .returned (.int .i64 z)) ∧ Below w.heap.size w w' := by
  have HO := Lib.hid (fun w' (hb : Below w.heap.size w w') => hM.step hb)
  clear hM
  have hM := Mem.start [] w
  have s1 := Lib.hid (show (elC x).size = 34 by rw [stC_size, hx])
  have s2 := Lib.hid (show (elC y).size = 34 by rw [stC_size, hy])
  have V1 := Lib.hid (show (mp x.1).getD (artV ⟨#[]⟩ 0 0) = artV t1 a1 p1 by rw [h1]; rfl)
  have V2 := Lib.hid (show (mp y.1).getD (artV ⟨#[]⟩ 0 0) = artV t2 a2 p2 by rw [h2]; rfl)
  have J1 := Lib.hid jx
  have J2 := Lib.hid jy
  have HC := Lib.hid (fun x y w => cmpi_any x y w)
  clear hx hy jx jy h1 h2
  go_enter Tryz.func36, Tryz.ntmps36
  go_upto_region 1 with (first | ((with_reducible refine at_box ?_); first | (refine nlb hM ?_ (hn := s1.out); clear hM; intro gx wx hM) | (refine nlb hM ?_ (hn := s2.out); clear hM; intro gy wy hM)))
  refine wp_region_allHB hM (by kernel_rfl) ?_
  clear hM
  intro wd hM
  have HM0 := Lib.hid hM
  have hS := Below.refl wd.heap.size wd
  refine wpAllH_takes [4, 12, 0, 1, 2, 3, 5, 6, 7, 8, 9, 10, 11, 13, 14, 15] (by kernel_rfl) (fun _ _ _ _ _ h => h) hS (by kernel_rfl) ?_
  simp only [pickOps, List.filterMap_cons, List.filterMap_nil, List.getElem?_cons_zero, List.getElem?_cons_succ]
  repeat ((with_reducible apply wpHeld_step); (· rfl); (· (intro wq hSw; first | (go_simp; rfl) | (have hM' := HM0.out.step hSw; first | exact yields_load (C := fun _ => True) (nqc hM') rfl | exact yields_load (C := fun _ => True) (nql hM') rfl | exact yields_load (C := fun _ => True) (nqp hM') rfl | first | exact yields_load (C := fun _ => True) (nqc (HO.out _ hM'.below)) rfl | exact yml mty_spool (HO.out _ hM'.below) J1.out V1.out | exact yml mty_spool (HO.out _ hM'.below) J2.out V2.out))); intro K hK; go_simp; (with_reducible refine hK _ ?_); clear hK K)
  refine wpHeld_nil ?_
  refine wpAllH_one 16 rfl (by kernel_rfl) ?_
  go_wp2_with fail
  refine (HC.out _ _ _).mono ?_
  rintro e w1 ⟨⟨z, rfl⟩, rfl⟩
  go_wp2_with fail
  refine then_normal ⟨hS, ?_⟩
  refine wpAllH_takes [17] (by kernel_rfl) (fun _ _ _ _ _ h => h) hS (by kernel_rfl) ?_
  simp only [pickOps, List.filterMap_cons, List.filterMap_nil, List.getElem?_cons_zero, List.getElem?_cons_succ]
  repeat ((with_reducible apply wpHeld_step); (· rfl); (· (intro wq hSw; first | (go_simp; rfl) | (have hM' := HM0.out.step hSw; first | exact yields_load (C := fun _ => True) (nqc hM') rfl | exact yields_load (C := fun _ => True) (nql hM') rfl | exact yields_load (C := fun _ => True) (nqp hM') rfl | fail))); intro K hK; go_simp; (with_reducible refine hK _ ?_); clear hK K)
  refine wpHeld_nil ?_
  clear hS HM0
  refine wpAllH_done (by kernel_rfl) ?_
  go_wp2_with fail
  go_ret
  exact ⟨⟨_, rfl⟩, hM.below⟩
end
end Go.Proofs.YtpjphjokhccdaaaGreat
