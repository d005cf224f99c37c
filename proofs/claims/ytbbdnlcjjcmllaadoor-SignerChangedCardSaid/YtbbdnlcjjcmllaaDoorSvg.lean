/- The walk of bulletinlaw08.evidence: two different signatures that fit a key for one digest show two inputs of the hash with the same result. -/
import Derived.Test.YtbbdnlcjjcmllaaDoorXx
import Derived.Test.YtbbdnlcjjcmllaaDoorSvf
namespace Go.Bul.Hp
open Go Go.RowKit
/-- What the heap predicates of both kinds say of blocks alone is the same. -/
theorem Mem.thg {w0 w : World} {L : List Ent} (h : Mem [] w0 L [] w) : Go.Thg.Mem [] w0 (L.map fun e => ⟨e.g, e.t, e.n, e.cs⟩) [] w := by
  have hf : Go.Thg.foot (L.map fun e => (⟨e.g, e.t, e.n, e.cs⟩ : Go.Thg.Ent)) [] = L.map (·.g) := by simp [Go.Thg.foot]
  refine ⟨⟨h.old.os, h.old.tape, h.old.output, h.old.size, h.old.block⟩, ?_, by simp, ?_, ?_⟩
  · intro b hb
    obtain ⟨e, he, rfl⟩ := List.mem_map.1 hb
    exact (h.at_ e he).2
  · intro g hg
    rw [hf] at hg
    obtain ⟨e, he, rfl⟩ := List.mem_map.1 hg
    exact (h.at_ e he).1
  · rw [hf, List.Nodup, List.pairwise_map]
    exact h.ne
theorem Mem.of_thg {w0 w : World} {L : List Go.Thg.Ent} (h : Go.Thg.Mem [] w0 L [] w) : Mem [] w0 (L.map fun e => ⟨e.g, e.t, e.n, e.cs⟩) [] w := by
  have hf : Go.Thg.foot L [] = L.map (·.g) := by simp [Go.Thg.foot]
  have hs := h.sep
  have ho := h.own
  rw [hf] at hs ho
  refine ⟨⟨h.old.os, h.old.tape, h.old.output, h.old.size, h.old.block⟩, ?_, ?_, by simp, by simp, .nil⟩
  · intro b hb
    obtain ⟨e, he, rfl⟩ := List.mem_map.1 hb
    exact ⟨ho e.g (List.mem_map_of_mem he), h.blk_ e he⟩
  · rw [List.pairwise_map]
    rw [List.Nodup, List.pairwise_map] at hs
    exact hs
end Go.Bul.Hp
namespace Go.Proofs.YtbbdnlcjjcmllaaDoor.Once
open Go Go.RowKit Go.Bul Go.Bul.Hp Go.Lin
theorem sig_piece (leaf : Int) (ch : Ch) (A : Option Addr) (n c j : Nat) (hj : j < 35) : (sigC leaf ch A n c).extract (1 + j * 16) (1 + j * 16 + 16) = cellsOf .u8 (piece ch.val j) :=
  (brC_two (k := leaf) (T := vals .u8 ch.val) (E := [.slice A n c]) (i := j * 16) (n := 16) (by rw [vals_length, ch.len]; omega)).trans (cells_piece .u8 ch.val j (j * 16) (by omega))
/-- Two rows of 35 values that differ, differ at some place. -/
theorem some_piece {E F : List Nat} (hE : E.length = 560) (hF : F.length = 560) (h : ∀ i, i < 35 → piece E i = piece F i) : E = F := by
  rw [← pieces_piece 35 hE, ← pieces_piece 35 hF]
  exact pieces_congr 35 h
set_option maxRecDepth 20000 in
set_option maxHeartbeats 8000000 in
theorem evid_any (k h : Nat) (chA chB : Ch) (PA PB : List Nd) (r d : Nd) (A B : Option Addr) (cA cB : Nat) (w : World) (hlA : PA.length = h) (hlB : PB.length = h) (h1 : 1 ≤ h) (hh : h ≤ 8) (hk : k < 2 ^ h) (hva : verE (h : Nat) r d (k : Nat) chA h PA = 0) (hvb : verE (h : Nat) r d (k : Nat) chB h PB = 0)
    (hrA : NIn w A h PA) (hrB : NIn w B h PB) (hne : chA ≠ chB ∨ PA ≠ PB) (hT : Tab w) :
    Calls Tryd.prog 14 #[.agg (ndC d), .agg (sigC (k : Nat) chA A h cA), .agg (sigC (k : Nat) chB B h cB)] w fun e w' => e = .returned (.bool true) ∧ Below w.heap.size w w' := by
  have hM := Mem.start [] w
  have hk2 : k ≤ 65535 := by have : 2 ^ h ≤ 2 ^ 8 := Nat.pow_le_pow_right (by decide) hh; omega
  have HT := Lib.hid hT
  have hdl := d.len
  have sA := fun w => split_any d.val w d.len d.byt
  obtain ⟨S, hS⟩ : ∃ S, S = split d.val := ⟨_, rfl⟩
  have hS15 : ∀ i, nth S i ≤ 15 := fun i => by rw [hS]; exact split_le d.byt i
  have hSl : S.length = 35 := by rw [hS]; exact split_length _
  rw [← hS] at sA
  have hpE : ∀ i, i < 35 → (piece chA.val i).length = 16 := fun i hi => piece_length (n := 35) chA.len hi
  have hpF : ∀ i, i < 35 → (piece chB.val i).length = 16 := fun i hi => piece_length (n := 35) chB.len hi
  obtain ⟨fa, hfa⟩ : ∃ f : Nat → List Nat, f = fun i => advV k i (nth S i) (15 - nth S i) (piece chA.val i) := ⟨_, rfl⟩
  obtain ⟨fb, hfb⟩ : ∃ f : Nat → List Nat, f = fun i => advV k i (nth S i) (15 - nth S i) (piece chB.val i) := ⟨_, rfl⟩
  have hfal : ∀ i, i < 35 → (fa i).length = 16 := fun i hi => by rw [hfa]; exact advV_length _ _ (hpE i hi)
  have hfbl : ∀ i, i < 35 → (fb i).length = 16 := fun i hi => by rw [hfb]; exact advV_length _ _ (hpF i hi)
  have HAD : Hid (∀ j, j < 35 → ∀ w', Below w.heap.size w w' → Calls Tryd.prog 35 #[.int .i64 (k : Nat), .int .i64 (j : Nat), .int .i64 (nth S j : Nat), .int .i64 15, .agg (cellsOf .u8 (piece chA.val j))] w' fun e w'' => e = .returned (.tuple #[.agg (cellsOf .u8 (fa j)), .int .i64 0]) ∧ Below w'.heap.size w' w'') := Lib.hid fun j hj w' hb => by
    rw [hfa]
    exact adv_yes (piece chA.val j) k j (nth S j) 15 (k : Nat) (j : Nat) (nth S j : Nat) 15 w' (hpE j hj) (bytes_piece chA.byt j) hk2 hj (hS15 j) (by omega) rfl rfl rfl rfl (HT.out.keep hb)
  have HBD : Hid (∀ j, j < 35 → ∀ w', Below w.heap.size w w' → Calls Tryd.prog 35 #[.int .i64 (k : Nat), .int .i64 (j : Nat), .int .i64 (nth S j : Nat), .int .i64 15, .agg (cellsOf .u8 (piece chB.val j))] w' fun e w'' => e = .returned (.tuple #[.agg (cellsOf .u8 (fb j)), .int .i64 0]) ∧ Below w'.heap.size w' w'') := Lib.hid fun j hj w' hb => by
    rw [hfb]
    exact adv_yes (piece chB.val j) k j (nth S j) 15 (k : Nat) (j : Nat) (nth S j : Nat) 15 w' (hpF j hj) (bytes_piece chB.byt j) hk2 hj (hS15 j) (by omega) rfl rfl rfl rfl (HT.out.keep hb)
  have HME : Hid (∀ j, j < 35 → piece chA.val j ≠ piece chB.val j → ∀ w', Below w.heap.size w w' → Calls Tryd.prog 34 #[.int .i64 (k : Nat), .int .i64 (j : Nat), .int .i64 (nth S j : Nat), .agg (cellsOf .u8 (piece chA.val j)), .agg (cellsOf .u8 (piece chB.val j))] w' fun e w'' => e = .returned (.bool (fa j == fb j)) ∧ Below w'.heap.size w' w'') := Lib.hid fun j hj hn w' hb => by
    rw [hfa, hfb]
    exact meet_any (piece chA.val j) (piece chB.val j) k j (nth S j) (k : Nat) (j : Nat) (nth S j : Nat) w' (hpE j hj) (bytes_piece chA.byt j) (hpF j hj) (bytes_piece chB.byt j) hn hk2 hj (hS15 j) rfl rfl rfl (HT.out.keep hb)
  have HSA := Lib.hid (show pieces fa 35 = lastV k d.val chA.val by rw [hfa, hS]; rfl)
  have HSB := Lib.hid (show pieces fb 35 = lastV k d.val chB.val by rw [hfb, hS]; rfl)
  have HFL := Lib.hid (And.intro hfal hfbl)
  have HPL := Lib.hid (And.intro hpE hpF)
  have HYA := Lib.hid (sigC_size (k : Nat) chA A h cA)
  have HYB := Lib.hid (sigC_size (k : Nat) chB B h cB)
  have H0A := Lib.hid (sigC_0 (k : Nat) chA A h cA)
  have H0B := Lib.hid (sigC_0 (k : Nat) chB B h cB)
  have HPA := Lib.hid (fun j => sig_piece (k : Nat) chA A h cA j)
  have HPB := Lib.hid (fun j => sig_piece (k : Nat) chB B h cB j)
  have HPPA := Lib.hid (sigC_p (k : Nat) chA A h cA)
  have HPPB := Lib.hid (sigC_p (k : Nat) chB B h cB)
  have HSP := Lib.hid sA
  generalize sigC (k : Nat) chA A h cA = YA at HYA H0A HPA HPPA ⊢
  generalize sigC (k : Nat) chB B h cB = YB at HYB H0B HPB HPPB ⊢
  have HV := Lib.hid (And.intro hva hvb)
  have HK := Lib.hid (And.intro h1 (And.intro hh hk))
  have HRA := Lib.hid hrA
  have HRB := Lib.hid hrB
  have HNE := Lib.hid hne
  have HLN := Lib.hid (And.intro hlA hlB)
  clear hT sA hS hS15 hpE hpF hfa hfb hfal hfbl hva hvb h1 hh hk hrA hrB hne hlA hlB hk2
  show Calls _ _ #[.agg (cellsOf .u8 d.val), .agg YA, .agg YB] w _
  go_enter Tryd.func14, Tryd.ntmps14
  go_wp2_with (first | ((with_reducible refine at_box ?_); first | (refine wpList_mem_box hM rfl _ _ (by rfl) _ (by rfl) _ row_sgnH HYA.out ?_; clear hM; intro gx wx hM) | (refine wpList_mem_box hM rfl _ _ (by rfl) _ (by rfl) _ row_sgnH HYB.out ?_; clear hM; intro gx wx hM)) | ((first | with_reducible refine at_load ?_ | ((with_reducible refine at_load_g ?_ ?_); (· rfl))); first | refine kll hM ?_ | refine kln hM ?_) | ((with_reducible refine at_store ?_); (first | refine klw hM ?_ | refine kls hM ?_); clear hM; intro wx hM) | ((with_reducible refine at_alloc ?_); refine klz hM ?_; clear hM; intro gx wx hM) | ((with_reducible refine at_box ?_); refine klb hM ?_; clear hM; intro gx wx hM))
  (refine (HSP.out _).mono ?_)
  rintro e w1 ⟨rfl, hb1⟩
  replace hM := hM.step hb1
  clear hb1
  go_wp2_with (first | ((first | with_reducible refine at_load ?_ | ((with_reducible refine at_load_g ?_ ?_); (· rfl))); first | refine kll hM ?_ | refine kln hM ?_) | ((with_reducible refine at_store ?_); (first | refine klw hM ?_ | refine kls hM ?_); clear hM; intro wx hM) | ((with_reducible refine at_alloc ?_); refine klz hM ?_; clear hM; intro gx wx hM) | ((with_reducible refine at_box ?_); refine klb hM ?_; clear hM; intro gx wx hM))
  obtain ⟨g9, rfl⟩ := hM.name1
  obtain ⟨g8, rfl⟩ := hM.name2
  obtain ⟨g7, rfl⟩ := hM.name3
  obtain ⟨g5, rfl⟩ := hM.name4
  obtain ⟨g4, rfl⟩ := hM.name5
  obtain ⟨g3, rfl⟩ := hM.name6
  have M0 := Lib.hid hM
  clear hM
  go_loopw [10] (fun i wr => ∃ j : Nat, j ≤ 35 ∧ i = .int .i64 (j : Nat) ∧ Hid (∀ i, i < j → piece chA.val i ≠ piece chB.val i → fa i ≠ fb i) ∧ Mem [] w [⟨g9, 34, 560, cellsOf .u8 (pieces fb j ++ zeros (16 * 35 - 16 * j))⟩, ⟨g8, 34, 560, cellsOf .u8 (pieces fa j ++ zeros (16 * 35 - 16 * j))⟩, ⟨g7, 83, 35, cellsOf .i64 S⟩, ⟨g5, 37, 562, YB⟩, ⟨g4, 37, 562, YA⟩, ⟨g3, 23, 16, cellsOf .u8 d.val⟩] [] wr) (fun i _ => 35 - (intOf i).toNat)
  case atStart => exact ⟨0, by omega, rfl, Lib.hid (fun i hi => absurd hi (by omega)), M0.out⟩
  case round =>
    obtain ⟨j, hj, rfl, hH, hM⟩ := hrel
    by_cases hlt : j < 35
    · have hj' : (j : Int) < 35 := by omega
      have HA1 := Lib.hid (HPA.out j hlt)
      have HB1 := Lib.hid (HPB.out j hlt)
      have HAJ := Lib.hid (HAD.out j hlt)
      have HBJ := Lib.hid (HBD.out j hlt)
      have hfaj := HFL.out.1 j hlt
      have hfbj := HFL.out.2 j hlt
      have hpa := HPL.out.1 j hlt
      have hpb := HPL.out.2 j hlt
      by_cases hpq : piece chA.val j = piece chB.val j
      · have eP : ∀ W, (Op.equalIn 10000 23 (.agg (cellsOf .u8 (piece chA.val j))) (.agg (cellsOf .u8 (piece chB.val j)))).run Tryd.prog W = .ok true W := fun W => by rw [eq_b16 _ _ hpa hpb]; simp [hpq]
        have HN2 : Hid (∀ i, i < j + 1 → piece chA.val i ≠ piece chB.val i → fa i ≠ fb i) := Lib.hid fun i hi hn => by
          rcases (show i < j ∨ i = j by omega) with h1 | rfl
          · exact hH.out i h1 hn
          · exact absurd hpq hn
        clear hpq
        go_wp2_with fail
        refine Go.Bul.wp_region_class (Mem _ w _ _) (by kernel_rfl) (by kernel_rfl) hM.drew ?_
        repeat ((with_reducible refine wpQuiet_step (fun K hK => ?_)); (first | ((first | ((with_reducible refine quiet_some ?_ ?_); (· rfl)) | ((with_reducible refine quiet_wanted ?_ ?_); (· rfl))); apply Exists.intro; refine ⟨fun w' hM' => ?_, ?_⟩; (· first | exact quietAt_mem_part hM' _ _ (by rfl) _ _ (by rfl) _ _ _ (by repeat (first | exact List.Mem.head _ | apply List.Mem.tail)) 16 row_a16 (by omega) _ (by first | exact HA1.out | exact HB1.out) | exact quietAt_mem_load hM' _ _ (by rfl) _ (by rfl) _ _ _ (by repeat (first | exact List.Mem.head _ | apply List.Mem.tail)) (by first | exact row_a16 | exact row_i35 | exact row_val | exact row_a32 | exact row_e35 | exact row_v35 | exact row_sig | exact row_evi | exact row_half | exact row_dig | exact row_i2 | exact row_i3 | exact row_b3 | exact row_h2 | exact row_pair) | exact quietAt_mem_num hM' _ _ (by rfl) _ _ (by rfl) _ _ _ _ (by repeat (first | exact List.Mem.head _ | apply List.Mem.tail)) (by first | exact one_u8 | exact one_int | exact one_u32 | exact one_bool | exact one_errno | exact one_u16 | exact one_sl) (by omega) | exact quietAt_mem_cell hM' _ _ (by rfl) _ _ (by rfl) _ _ _ (by repeat (first | exact List.Mem.head _ | apply List.Mem.tail)) (by first | exact one_u8 | exact one_int | exact one_u32 | exact one_bool | exact one_errno | exact one_u16 | exact one_sl) _ (by rfl) | exact quietAt_mem_piece hM' _ _ (by rfl) _ _ (by rfl) _ _ _ _ (by repeat (first | exact List.Mem.head _ | apply List.Mem.tail)) (by first | exact row_a16 | exact row_i35 | exact row_val | exact row_a32 | exact row_e35 | exact row_v35 | exact row_sig | exact row_evi | exact row_half | exact row_dig | exact row_i2 | exact row_i3 | exact row_b3 | exact row_h2 | exact row_pair) (by omega) | (go_simp; rfl) | (go_simp; with_reducible refine at_calls ?_; first | fail))) | ((with_reducible refine quiet_unwanted ?_ ?_); (· rfl))); go_simp; (with_reducible refine hK _ ?_); clear hK K)
        refine wpQuiet_nil ?_
        intro wx hM
        go_wp2_with fail
        refine wp_region_allH (fun w' => ∃ X : Array Value, Mem [] w [⟨g9, 34, 560, cellsOf .u8 (pieces fb j ++ zeros (16 * 35 - 16 * j))⟩, ⟨g8, 34, 560, X⟩, ⟨g7, 83, 35, cellsOf .i64 S⟩, ⟨g5, 37, 562, YB⟩, ⟨g4, 37, 562, YA⟩, ⟨g3, 23, 16, cellsOf .u8 d.val⟩] [] w') (by kernel_rfl) ?_
        replace hM := hM.drew
        have hS := Exists.intro (p := fun X : Array Value => Mem [] w [⟨g9, 34, 560, cellsOf .u8 (pieces fb j ++ zeros (16 * 35 - 16 * j))⟩, ⟨g8, 34, 560, X⟩, ⟨g7, 83, 35, cellsOf .i64 S⟩, ⟨g5, 37, 562, YB⟩, ⟨g4, 37, 562, YA⟩, ⟨g3, 23, 16, cellsOf .u8 d.val⟩] [] _) _ hM
        refine wpAllH_takes [0, 1, 3, 4, 5, 7, 8, 9, 2, 6, 10] (by kernel_rfl) (fun _ _ _ _ _ h => h) hS (by kernel_rfl) ?_
        simp only [pickOps, List.filterMap_cons, List.filterMap_nil, List.getElem?_cons_zero, List.getElem?_cons_succ]
        repeat ((with_reducible apply wpHeld_step); (· rfl); (· (intro w hSw; first | (go_simp; rfl) | ((obtain ⟨_, hM'⟩ := hSw; first | exact yields_load (C := fun _ => True) (quietAt_mem_part hM' _ _ (by rfl) _ _ (by rfl) _ _ _ (by repeat (first | exact List.Mem.head _ | apply List.Mem.tail)) 16 row_a16 (by omega) _ HA1.out) rfl | exact yields_load (C := fun _ => True) (quietAt_mem_cell hM' _ _ (by rfl) _ _ (by rfl) _ _ _ (by repeat (first | exact List.Mem.head _ | apply List.Mem.tail)) one_int _ H0A.out) rfl | exact yields_load (C := fun _ => True) (quietAt_mem_num hM' _ _ (by rfl) _ _ (by rfl) _ _ _ _ (by repeat (first | exact List.Mem.head _ | apply List.Mem.tail)) one_int (by omega)) rfl)))); intro K hK; go_simp; (with_reducible refine hK _ ?_); clear hK K)
        refine wpHeld_nil ?_
        refine wpAllH_one 11 rfl (by kernel_rfl) ?_
        go_wp2_with fail
        refine (HAJ.out _ hM.below).mono ?_
        rintro e w1 ⟨rfl, hb⟩
        go_wp2_with fail
        replace hM := hM.step hb
        clear hS hb
        have hS := Exists.intro (p := fun X : Array Value => Mem [] w [⟨g9, 34, 560, cellsOf .u8 (pieces fb j ++ zeros (16 * 35 - 16 * j))⟩, ⟨g8, 34, 560, X⟩, ⟨g7, 83, 35, cellsOf .i64 S⟩, ⟨g5, 37, 562, YB⟩, ⟨g4, 37, 562, YA⟩, ⟨g3, 23, 16, cellsOf .u8 d.val⟩] [] _) _ hM
        refine then_normal ⟨hS, ?_⟩
        refine wpAllH_takes [12, 13, 14, 15] (by kernel_rfl) (fun _ _ _ _ _ h => h) hS (by kernel_rfl) ?_
        simp only [pickOps, List.filterMap_cons, List.filterMap_nil, List.getElem?_cons_zero, List.getElem?_cons_succ]
        repeat ((with_reducible apply wpHeld_step); (· rfl); (· (intro w hSw; first | (go_simp; rfl) | (fail))); intro K hK; go_simp; (with_reducible refine hK _ ?_); clear hK K)
        refine wpHeld_nil ?_
        refine wpAllH_one 16 rfl (by kernel_rfl) ?_
        refine wpList_mem_put_piece hM rfl _ _ _ (by rfl) _ _ (by rfl) _ _ (by rfl) _ _ _ _ (by repeat (first | exact UpdL.head _ _ _ _ _ | apply UpdL.tail)) (by first | exact row_a16 | exact row_i35 | exact row_val | exact row_a32 | exact row_e35 | exact row_v35 | exact row_sig | exact row_evi | exact row_half | exact row_dig | exact row_i2 | exact row_i3 | exact row_b3 | exact row_h2 | exact row_pair) (by first | assumption | exact half_length _ | exact firstV_length _ _ _ | exact stepV_length _ _ _ _) (by omega) rfl ?_
        clear hM hS
        intro wx hM
        refine wpList_then ⟨⟨_, hM⟩, ?_⟩
        refine wpAllH_done (by kernel_rfl) ?_
        rw [putPiece_pieces 35 HFL.out.1 j hlt] at hM
        go_wp2_with fail
        refine wp_region_allH (fun w' => ∃ X : Array Value, Mem [] w [⟨g9, 34, 560, X⟩, ⟨g8, 34, 560, cellsOf .u8 (pieces fa (j + 1) ++ zeros (16 * 35 - 16 * (j + 1)))⟩, ⟨g7, 83, 35, cellsOf .i64 S⟩, ⟨g5, 37, 562, YB⟩, ⟨g4, 37, 562, YA⟩, ⟨g3, 23, 16, cellsOf .u8 d.val⟩] [] w') (by kernel_rfl) ?_
        replace hM := hM.drew
        have hS := Exists.intro (p := fun X : Array Value => Mem [] w [⟨g9, 34, 560, X⟩, ⟨g8, 34, 560, cellsOf .u8 (pieces fa (j + 1) ++ zeros (16 * 35 - 16 * (j + 1)))⟩, ⟨g7, 83, 35, cellsOf .i64 S⟩, ⟨g5, 37, 562, YB⟩, ⟨g4, 37, 562, YA⟩, ⟨g3, 23, 16, cellsOf .u8 d.val⟩] [] _) _ hM
        refine wpAllH_takes [0, 1, 3, 4, 5, 7, 8, 9, 2, 6, 10] (by kernel_rfl) (fun _ _ _ _ _ h => h) hS (by kernel_rfl) ?_
        simp only [pickOps, List.filterMap_cons, List.filterMap_nil, List.getElem?_cons_zero, List.getElem?_cons_succ]
        repeat ((with_reducible apply wpHeld_step); (· rfl); (· (intro w hSw; first | (go_simp; rfl) | ((obtain ⟨_, hM'⟩ := hSw; first | exact yields_load (C := fun _ => True) (quietAt_mem_part hM' _ _ (by rfl) _ _ (by rfl) _ _ _ (by repeat (first | exact List.Mem.head _ | apply List.Mem.tail)) 16 row_a16 (by omega) _ HB1.out) rfl | exact yields_load (C := fun _ => True) (quietAt_mem_cell hM' _ _ (by rfl) _ _ (by rfl) _ _ _ (by repeat (first | exact List.Mem.head _ | apply List.Mem.tail)) one_int _ H0A.out) rfl | exact yields_load (C := fun _ => True) (quietAt_mem_num hM' _ _ (by rfl) _ _ (by rfl) _ _ _ _ (by repeat (first | exact List.Mem.head _ | apply List.Mem.tail)) one_int (by omega)) rfl)))); intro K hK; go_simp; (with_reducible refine hK _ ?_); clear hK K)
        refine wpHeld_nil ?_
        refine wpAllH_one 11 rfl (by kernel_rfl) ?_
        go_wp2_with fail
        refine (HBJ.out _ hM.below).mono ?_
        rintro e w1 ⟨rfl, hb⟩
        go_wp2_with fail
        replace hM := hM.step hb
        clear hS hb
        have hS := Exists.intro (p := fun X : Array Value => Mem [] w [⟨g9, 34, 560, X⟩, ⟨g8, 34, 560, cellsOf .u8 (pieces fa (j + 1) ++ zeros (16 * 35 - 16 * (j + 1)))⟩, ⟨g7, 83, 35, cellsOf .i64 S⟩, ⟨g5, 37, 562, YB⟩, ⟨g4, 37, 562, YA⟩, ⟨g3, 23, 16, cellsOf .u8 d.val⟩] [] _) _ hM
        refine then_normal ⟨hS, ?_⟩
        refine wpAllH_takes [12, 13, 14, 15] (by kernel_rfl) (fun _ _ _ _ _ h => h) hS (by kernel_rfl) ?_
        simp only [pickOps, List.filterMap_cons, List.filterMap_nil, List.getElem?_cons_zero, List.getElem?_cons_succ]
        repeat ((with_reducible apply wpHeld_step); (· rfl); (· (intro w hSw; first | (go_simp; rfl) | (fail))); intro K hK; go_simp; (with_reducible refine hK _ ?_); clear hK K)
        refine wpHeld_nil ?_
        refine wpAllH_one 16 rfl (by kernel_rfl) ?_
        refine wpList_mem_put_piece hM rfl _ _ _ (by rfl) _ _ (by rfl) _ _ (by rfl) _ _ _ _ (by repeat (first | exact UpdL.head _ _ _ _ _ | apply UpdL.tail)) (by first | exact row_a16 | exact row_i35 | exact row_val | exact row_a32 | exact row_e35 | exact row_v35 | exact row_sig | exact row_evi | exact row_half | exact row_dig | exact row_i2 | exact row_i3 | exact row_b3 | exact row_h2 | exact row_pair) (by first | assumption | exact half_length _ | exact firstV_length _ _ _ | exact stepV_length _ _ _ _) (by omega) rfl ?_
        clear hM hS
        intro wx hM
        refine wpList_then ⟨⟨_, hM⟩, ?_⟩
        refine wpAllH_done (by kernel_rfl) ?_
        rw [putPiece_pieces 35 HFL.out.2 j hlt] at hM
        go_wp2_with fail
        exact ⟨⟨j + 1, by omega, by go_num, HN2, hM⟩, by simp [intOf]; omega⟩
      · have eP : ∀ W, (Op.equalIn 10000 23 (.agg (cellsOf .u8 (piece chA.val j))) (.agg (cellsOf .u8 (piece chB.val j)))).run Tryd.prog W = .ok false W := fun W => by rw [eq_b16 _ _ hpa hpb]; simp [hpq]
        have HMJ := Lib.hid (HME.out j hlt hpq)
        by_cases hff : fa j = fb j
        · have eF : (fa j == fb j) = true := by simp [hff]
          rw [eF] at HMJ
          clear hff eF hpq
          go_wp2_with fail
          refine Go.Bul.wp_region_class (Mem _ w _ _) (by kernel_rfl) (by kernel_rfl) hM.drew ?_
          repeat ((with_reducible refine wpQuiet_step (fun K hK => ?_)); (first | ((first | ((with_reducible refine quiet_some ?_ ?_); (· rfl)) | ((with_reducible refine quiet_wanted ?_ ?_); (· rfl))); apply Exists.intro; refine ⟨fun w' hM' => ?_, ?_⟩; (· first | first | exact quietAt_mem_part hM' _ _ (by rfl) _ _ (by rfl) _ _ _ (by repeat (first | exact List.Mem.head _ | apply List.Mem.tail)) 16 row_a16 (by omega) _ (by first | exact HA1.out | exact HB1.out) | exact quietAt_mem_cell hM' _ _ (by rfl) _ _ (by rfl) _ _ _ (by repeat (first | exact List.Mem.head _ | apply List.Mem.tail)) one_int _ H0A.out | exact quietAt_mem_load hM' _ _ (by rfl) _ (by rfl) _ _ _ (by repeat (first | exact List.Mem.head _ | apply List.Mem.tail)) (by first | exact row_a16 | exact row_i35 | exact row_val | exact row_a32 | exact row_e35 | exact row_v35 | exact row_sig | exact row_evi | exact row_half | exact row_dig | exact row_i2 | exact row_i3 | exact row_b3 | exact row_h2 | exact row_pair) | exact quietAt_mem_num hM' _ _ (by rfl) _ _ (by rfl) _ _ _ _ (by repeat (first | exact List.Mem.head _ | apply List.Mem.tail)) (by first | exact one_u8 | exact one_int | exact one_u32 | exact one_bool | exact one_errno | exact one_u16 | exact one_sl) (by omega) | exact quietAt_mem_cell hM' _ _ (by rfl) _ _ (by rfl) _ _ _ (by repeat (first | exact List.Mem.head _ | apply List.Mem.tail)) (by first | exact one_u8 | exact one_int | exact one_u32 | exact one_bool | exact one_errno | exact one_u16 | exact one_sl) _ (by rfl) | exact quietAt_mem_piece hM' _ _ (by rfl) _ _ (by rfl) _ _ _ _ (by repeat (first | exact List.Mem.head _ | apply List.Mem.tail)) (by first | exact row_a16 | exact row_i35 | exact row_val | exact row_a32 | exact row_e35 | exact row_v35 | exact row_sig | exact row_evi | exact row_half | exact row_dig | exact row_i2 | exact row_i3 | exact row_b3 | exact row_h2 | exact row_pair) (by omega) | (go_simp; rfl) | (go_simp; with_reducible refine at_calls ?_; first | exact quiet_mem_call hM' (HMJ.out _ hM'.below)))) | ((with_reducible refine quiet_unwanted ?_ ?_); (· rfl))); go_simp; (with_reducible refine hK _ ?_); clear hK K)
          refine wpQuiet_nil ?_
          intro wx hM
          go_wp2_with fail
          go_ret
          exact ⟨rfl, hM.below⟩
        · have eF : (fa j == fb j) = false := by simp [hff]
          rw [eF] at HMJ
          have HN2 : Hid (∀ i, i < j + 1 → piece chA.val i ≠ piece chB.val i → fa i ≠ fb i) := Lib.hid fun i hi hn => by
            rcases (show i < j ∨ i = j by omega) with h1 | rfl
            · exact hH.out i h1 hn
            · exact hff
          clear hff eF hpq
          go_wp2_with fail
          refine Go.Bul.wp_region_class (Mem _ w _ _) (by kernel_rfl) (by kernel_rfl) hM.drew ?_
          repeat ((with_reducible refine wpQuiet_step (fun K hK => ?_)); (first | ((first | ((with_reducible refine quiet_some ?_ ?_); (· rfl)) | ((with_reducible refine quiet_wanted ?_ ?_); (· rfl))); apply Exists.intro; refine ⟨fun w' hM' => ?_, ?_⟩; (· first | first | exact quietAt_mem_part hM' _ _ (by rfl) _ _ (by rfl) _ _ _ (by repeat (first | exact List.Mem.head _ | apply List.Mem.tail)) 16 row_a16 (by omega) _ (by first | exact HA1.out | exact HB1.out) | exact quietAt_mem_cell hM' _ _ (by rfl) _ _ (by rfl) _ _ _ (by repeat (first | exact List.Mem.head _ | apply List.Mem.tail)) one_int _ H0A.out | exact quietAt_mem_load hM' _ _ (by rfl) _ (by rfl) _ _ _ (by repeat (first | exact List.Mem.head _ | apply List.Mem.tail)) (by first | exact row_a16 | exact row_i35 | exact row_val | exact row_a32 | exact row_e35 | exact row_v35 | exact row_sig | exact row_evi | exact row_half | exact row_dig | exact row_i2 | exact row_i3 | exact row_b3 | exact row_h2 | exact row_pair) | exact quietAt_mem_num hM' _ _ (by rfl) _ _ (by rfl) _ _ _ _ (by repeat (first | exact List.Mem.head _ | apply List.Mem.tail)) (by first | exact one_u8 | exact one_int | exact one_u32 | exact one_bool | exact one_errno | exact one_u16 | exact one_sl) (by omega) | exact quietAt_mem_cell hM' _ _ (by rfl) _ _ (by rfl) _ _ _ (by repeat (first | exact List.Mem.head _ | apply List.Mem.tail)) (by first | exact one_u8 | exact one_int | exact one_u32 | exact one_bool | exact one_errno | exact one_u16 | exact one_sl) _ (by rfl) | exact quietAt_mem_piece hM' _ _ (by rfl) _ _ (by rfl) _ _ _ _ (by repeat (first | exact List.Mem.head _ | apply List.Mem.tail)) (by first | exact row_a16 | exact row_i35 | exact row_val | exact row_a32 | exact row_e35 | exact row_v35 | exact row_sig | exact row_evi | exact row_half | exact row_dig | exact row_i2 | exact row_i3 | exact row_b3 | exact row_h2 | exact row_pair) (by omega) | (go_simp; rfl) | (go_simp; with_reducible refine at_calls ?_; first | exact quiet_mem_call hM' (HMJ.out _ hM'.below)))) | ((with_reducible refine quiet_unwanted ?_ ?_); (· rfl))); go_simp; (with_reducible refine hK _ ?_); clear hK K)
          refine wpQuiet_nil ?_
          intro wx hM
          go_wp2_with fail
          refine wp_region_allH (fun w' => ∃ X : Array Value, Mem [] w [⟨g9, 34, 560, cellsOf .u8 (pieces fb j ++ zeros (16 * 35 - 16 * j))⟩, ⟨g8, 34, 560, X⟩, ⟨g7, 83, 35, cellsOf .i64 S⟩, ⟨g5, 37, 562, YB⟩, ⟨g4, 37, 562, YA⟩, ⟨g3, 23, 16, cellsOf .u8 d.val⟩] [] w') (by kernel_rfl) ?_
          replace hM := hM.drew
          have hS := Exists.intro (p := fun X : Array Value => Mem [] w [⟨g9, 34, 560, cellsOf .u8 (pieces fb j ++ zeros (16 * 35 - 16 * j))⟩, ⟨g8, 34, 560, X⟩, ⟨g7, 83, 35, cellsOf .i64 S⟩, ⟨g5, 37, 562, YB⟩, ⟨g4, 37, 562, YA⟩, ⟨g3, 23, 16, cellsOf .u8 d.val⟩] [] _) _ hM
          refine wpAllH_takes [0, 1, 3, 4, 5, 7, 8, 9, 2, 6, 10] (by kernel_rfl) (fun _ _ _ _ _ h => h) hS (by kernel_rfl) ?_
          simp only [pickOps, List.filterMap_cons, List.filterMap_nil, List.getElem?_cons_zero, List.getElem?_cons_succ]
          repeat ((with_reducible apply wpHeld_step); (· rfl); (· (intro w hSw; first | (go_simp; rfl) | ((obtain ⟨_, hM'⟩ := hSw; first | exact yields_load (C := fun _ => True) (quietAt_mem_part hM' _ _ (by rfl) _ _ (by rfl) _ _ _ (by repeat (first | exact List.Mem.head _ | apply List.Mem.tail)) 16 row_a16 (by omega) _ HA1.out) rfl | exact yields_load (C := fun _ => True) (quietAt_mem_cell hM' _ _ (by rfl) _ _ (by rfl) _ _ _ (by repeat (first | exact List.Mem.head _ | apply List.Mem.tail)) one_int _ H0A.out) rfl | exact yields_load (C := fun _ => True) (quietAt_mem_num hM' _ _ (by rfl) _ _ (by rfl) _ _ _ _ (by repeat (first | exact List.Mem.head _ | apply List.Mem.tail)) one_int (by omega)) rfl)))); intro K hK; go_simp; (with_reducible refine hK _ ?_); clear hK K)
          refine wpHeld_nil ?_
          refine wpAllH_one 11 rfl (by kernel_rfl) ?_
          go_wp2_with fail
          refine (HAJ.out _ hM.below).mono ?_
          rintro e w1 ⟨rfl, hb⟩
          go_wp2_with fail
          replace hM := hM.step hb
          clear hS hb
          have hS := Exists.intro (p := fun X : Array Value => Mem [] w [⟨g9, 34, 560, cellsOf .u8 (pieces fb j ++ zeros (16 * 35 - 16 * j))⟩, ⟨g8, 34, 560, X⟩, ⟨g7, 83, 35, cellsOf .i64 S⟩, ⟨g5, 37, 562, YB⟩, ⟨g4, 37, 562, YA⟩, ⟨g3, 23, 16, cellsOf .u8 d.val⟩] [] _) _ hM
          refine then_normal ⟨hS, ?_⟩
          refine wpAllH_takes [12, 13, 14, 15] (by kernel_rfl) (fun _ _ _ _ _ h => h) hS (by kernel_rfl) ?_
          simp only [pickOps, List.filterMap_cons, List.filterMap_nil, List.getElem?_cons_zero, List.getElem?_cons_succ]
          repeat ((with_reducible apply wpHeld_step); (· rfl); (· (intro w hSw; first | (go_simp; rfl) | (fail))); intro K hK; go_simp; (with_reducible refine hK _ ?_); clear hK K)
          refine wpHeld_nil ?_
          refine wpAllH_one 16 rfl (by kernel_rfl) ?_
          refine wpList_mem_put_piece hM rfl _ _ _ (by rfl) _ _ (by rfl) _ _ (by rfl) _ _ _ _ (by repeat (first | exact UpdL.head _ _ _ _ _ | apply UpdL.tail)) (by first | exact row_a16 | exact row_i35 | exact row_val | exact row_a32 | exact row_e35 | exact row_v35 | exact row_sig | exact row_evi | exact row_half | exact row_dig | exact row_i2 | exact row_i3 | exact row_b3 | exact row_h2 | exact row_pair) (by first | assumption | exact half_length _ | exact firstV_length _ _ _ | exact stepV_length _ _ _ _) (by omega) rfl ?_
          clear hM hS
          intro wx hM
          refine wpList_then ⟨⟨_, hM⟩, ?_⟩
          refine wpAllH_done (by kernel_rfl) ?_
          rw [putPiece_pieces 35 HFL.out.1 j hlt] at hM
          go_wp2_with fail
          refine wp_region_allH (fun w' => ∃ X : Array Value, Mem [] w [⟨g9, 34, 560, X⟩, ⟨g8, 34, 560, cellsOf .u8 (pieces fa (j + 1) ++ zeros (16 * 35 - 16 * (j + 1)))⟩, ⟨g7, 83, 35, cellsOf .i64 S⟩, ⟨g5, 37, 562, YB⟩, ⟨g4, 37, 562, YA⟩, ⟨g3, 23, 16, cellsOf .u8 d.val⟩] [] w') (by kernel_rfl) ?_
          replace hM := hM.drew
          have hS := Exists.intro (p := fun X : Array Value => Mem [] w [⟨g9, 34, 560, X⟩, ⟨g8, 34, 560, cellsOf .u8 (pieces fa (j + 1) ++ zeros (16 * 35 - 16 * (j + 1)))⟩, ⟨g7, 83, 35, cellsOf .i64 S⟩, ⟨g5, 37, 562, YB⟩, ⟨g4, 37, 562, YA⟩, ⟨g3, 23, 16, cellsOf .u8 d.val⟩] [] _) _ hM
          refine wpAllH_takes [0, 1, 3, 4, 5, 7, 8, 9, 2, 6, 10] (by kernel_rfl) (fun _ _ _ _ _ h => h) hS (by kernel_rfl) ?_
          simp only [pickOps, List.filterMap_cons, List.filterMap_nil, List.getElem?_cons_zero, List.getElem?_cons_succ]
          repeat ((with_reducible apply wpHeld_step); (· rfl); (· (intro w hSw; first | (go_simp; rfl) | ((obtain ⟨_, hM'⟩ := hSw; first | exact yields_load (C := fun _ => True) (quietAt_mem_part hM' _ _ (by rfl) _ _ (by rfl) _ _ _ (by repeat (first | exact List.Mem.head _ | apply List.Mem.tail)) 16 row_a16 (by omega) _ HB1.out) rfl | exact yields_load (C := fun _ => True) (quietAt_mem_cell hM' _ _ (by rfl) _ _ (by rfl) _ _ _ (by repeat (first | exact List.Mem.head _ | apply List.Mem.tail)) one_int _ H0A.out) rfl | exact yields_load (C := fun _ => True) (quietAt_mem_num hM' _ _ (by rfl) _ _ (by rfl) _ _ _ _ (by repeat (first | exact List.Mem.head _ | apply List.Mem.tail)) one_int (by omega)) rfl)))); intro K hK; go_simp; (with_reducible refine hK _ ?_); clear hK K)
          refine wpHeld_nil ?_
          refine wpAllH_one 11 rfl (by kernel_rfl) ?_
          go_wp2_with fail
          refine (HBJ.out _ hM.below).mono ?_
          rintro e w1 ⟨rfl, hb⟩
          go_wp2_with fail
          replace hM := hM.step hb
          clear hS hb
          have hS := Exists.intro (p := fun X : Array Value => Mem [] w [⟨g9, 34, 560, X⟩, ⟨g8, 34, 560, cellsOf .u8 (pieces fa (j + 1) ++ zeros (16 * 35 - 16 * (j + 1)))⟩, ⟨g7, 83, 35, cellsOf .i64 S⟩, ⟨g5, 37, 562, YB⟩, ⟨g4, 37, 562, YA⟩, ⟨g3, 23, 16, cellsOf .u8 d.val⟩] [] _) _ hM
          refine then_normal ⟨hS, ?_⟩
          refine wpAllH_takes [12, 13, 14, 15] (by kernel_rfl) (fun _ _ _ _ _ h => h) hS (by kernel_rfl) ?_
          simp only [pickOps, List.filterMap_cons, List.filterMap_nil, List.getElem?_cons_zero, List.getElem?_cons_succ]
          repeat ((with_reducible apply wpHeld_step); (· rfl); (· (intro w hSw; first | (go_simp; rfl) | (fail))); intro K hK; go_simp; (with_reducible refine hK _ ?_); clear hK K)
          refine wpHeld_nil ?_
          refine wpAllH_one 16 rfl (by kernel_rfl) ?_
          refine wpList_mem_put_piece hM rfl _ _ _ (by rfl) _ _ (by rfl) _ _ (by rfl) _ _ _ _ (by repeat (first | exact UpdL.head _ _ _ _ _ | apply UpdL.tail)) (by first | exact row_a16 | exact row_i35 | exact row_val | exact row_a32 | exact row_e35 | exact row_v35 | exact row_sig | exact row_evi | exact row_half | exact row_dig | exact row_i2 | exact row_i3 | exact row_b3 | exact row_h2 | exact row_pair) (by first | assumption | exact half_length _ | exact firstV_length _ _ _ | exact stepV_length _ _ _ _) (by omega) rfl ?_
          clear hM hS
          intro wx hM
          refine wpList_then ⟨⟨_, hM⟩, ?_⟩
          refine wpAllH_done (by kernel_rfl) ?_
          rw [putPiece_pieces 35 HFL.out.2 j hlt] at hM
          go_wp2_with fail
          exact ⟨⟨j + 1, by omega, by go_num, HN2, hM⟩, by simp [intOf]; omega⟩
    · obtain rfl : j = 35 := by omega
      rw [Nat.sub_self, show zeros 0 = [] from rfl, List.append_nil, List.append_nil, HSA.out, HSB.out] at hM
      clear hlt hj
      obtain ⟨SA, hSA⟩ : ∃ X, X = lastV k d.val chA.val := ⟨_, rfl⟩
      obtain ⟨SB, hSB⟩ : ∃ X, X = lastV k d.val chB.val := ⟨_, rfl⟩
      have hSAl : SA.length = 560 := by rw [hSA]; exact lastV_length' k d.val chA.val chA.len
      have hSBl : SB.length = 560 := by rw [hSB]; exact lastV_length' k d.val chB.val chB.len
      have hk2 : k ≤ 65535 := by have : 2 ^ h ≤ 2 ^ 8 := Nat.pow_le_pow_right (by decide) HK.out.2.1; have := HK.out.2.2; omega
      have ca := fun w' (hb : Below w.heap.size w w') => compress_yes SA k (k : Nat) w' hSAl (by rw [hSA]; exact bytes_lastV k d.val chA.val chA.byt) hk2 rfl (HT.out.keep hb)
      have cb := fun w' (hb : Below w.heap.size w w') => compress_yes SB k (k : Nat) w' hSBl (by rw [hSB]; exact bytes_lastV k d.val chB.val chB.byt) hk2 rfl (HT.out.keep hb)
      obtain ⟨RA, hRA⟩ : ∃ R, R = rcN k d chA := ⟨_, rfl⟩
      obtain ⟨RB, hRB⟩ : ∃ R, R = rcN k d chB := ⟨_, rfl⟩
      have hRA2 : comp k SA = RA.val := by rw [hSA, hRA]; rfl
      have hRB2 : comp k SB = RB.val := by rw [hSB, hRB]; rfl
      have f1 := fits_root HV.out.1 HLN.out.1 HK.out.1 HK.out.2.1 HK.out.2.2
      have f2 := fits_root HV.out.2 HLN.out.2 HK.out.1 HK.out.2.1 HK.out.2.2
      rw [← hRA] at f1
      rw [← hRB] at f2
      rw [hRA2] at ca
      rw [hRB2] at cb
      obtain ⟨x1, hx1⟩ : ∃ x, x = leafN (k : Int) RA.val := ⟨_, rfl⟩
      obtain ⟨x2, hx2⟩ : ∃ x, x = leafN (k : Int) RB.val := ⟨_, rfl⟩
      rw [← hx1] at f1
      rw [← hx2] at f2
      have cs := coll_says (HLN.out.1.trans HLN.out.2.symm) f1 f2
      have lf1 := fun g w' (hr : Go.Thg.Reads w' 1 (some ⟨g, 0, none⟩) 16 (vals .u8 RA.val)) (hb : Below w.heap.size w w') => leaf_any (k : Nat) (some ⟨g, 0, none⟩) 16 16 RA.val w' hr RA.byt (by omega) (HT.out.keep hb)
      have lf2 := fun g w' (hr : Go.Thg.Reads w' 1 (some ⟨g, 0, none⟩) 16 (vals .u8 RB.val)) (hb : Below w.heap.size w w') => leaf_any (k : Nat) (some ⟨g, 0, none⟩) 16 16 RB.val w' hr RB.byt (by omega) (HT.out.keep hb)
      rw [← hx1] at lf1
      rw [← hx2] at lf2
      have LF1 := Lib.hid lf1
      have LF2 := Lib.hid lf2
      have CA := Lib.hid ca
      have CB := Lib.hid cb
      have CO := Lib.hid (fun A1 c1 A2 c2 w' (n1 : NIn w' A1 h PA) (n2 : NIn w' A2 h PB) (hb : Below w.heap.size w w') => coll_any (k : Nat) x1 A1 h c1 PA x2 A2 h c2 PB w' n1 n2 (by have := HK.out.2.1; omega) (by have := HK.out.2.1; omega) (HT.out.keep hb))
      have hx1z : (cellsOf .u8 x1.val).size = 16 := by rw [cellsOf_size, x1.len]
      have hx2z : (cellsOf .u8 x2.val).size = 16 := by rw [cellsOf_size, x2.len]
      have hRAl := RA.len
      have hRBl := RB.len
      have HCS := Lib.hid cs
      have HPQ : Hid (SA = SB → chA = chB) := Lib.hid fun hss => by
        refine Ch.ext' (some_piece chA.len chB.len fun i hi => Classical.byContradiction fun hn => hH.out i hi hn ?_)
        have e1 := piece_pieces_lt i 35 HFL.out.1 hi
        have e2 := piece_pieces_lt i 35 HFL.out.2 hi
        rw [HSA.out, ← hSA] at e1
        rw [HSB.out, ← hSB, ← hss, e1] at e2
        exact e2
      rw [← hSA, ← hSB] at hM
      clear lf1 lf2 ca cb cs f1 f2 hk2
      by_cases hss : SA = SB
      · have ES : Hid (∀ W, (Op.equalIn 10000 34 (.agg (cellsOf .u8 SA)) (.agg (cellsOf .u8 SB))).run Tryd.prog W = .ok true W) := Lib.hid fun W => by rw [eq_e35 SA SB hSAl hSBl W 9997]; simp [hss]
        have hrr : RA.val = RB.val := by rw [← hRA2, ← hRB2, hss]
        have ER : Hid (∀ W, (Op.equalIn 10000 23 (.agg (cellsOf .u8 RA.val)) (.agg (cellsOf .u8 RB.val))).run Tryd.prog W = .ok true W) := Lib.hid fun W => by rw [eq_b16 _ _ hRAl hRBl]; simp [hrr]
        have EX : Hid (∀ W, (Op.equalIn 10000 41 (.agg (cellsOf .u8 x1.val)) (.agg (cellsOf .u8 x2.val))).run Tryd.prog W = .ok (decide (x1 = x2)) W) := Lib.hid fun W => eq_nds 9998 x1 x2 W
        have HCH : Hid (chgB (!decide (x2 = x1)) PB PA PA.length = true) := Lib.hid (by
          cases hch : chgB (!decide (x2 = x1)) PB PA PA.length
          · rcases HNE.out with h1 | h1
            · exact absurd (HPQ.out hss) h1
            · exact absurd (chgB_no (HLN.out.2.trans HLN.out.1.symm) rfl hch).2.symm h1
          · rfl)
        clear hss hrr hRA hRB hRA2 hRB2 hx1 hx2 hSA hSB
        go_wp2_with (first | ((with_reducible refine at_load ?_); refine wpList_mem_cell hM rfl _ _ (by rfl) _ _ (by rfl) _ _ _ (by repeat (first | exact List.Mem.head _ | apply List.Mem.tail)) one_int _ H0A.out ?_) | ((first | with_reducible refine at_load ?_ | ((with_reducible refine at_load_g ?_ ?_); (· rfl))); first | refine kll hM ?_ | refine kln hM ?_) | ((with_reducible refine at_store ?_); (first | refine klw hM ?_ | refine kls hM ?_); clear hM; intro wx hM) | ((with_reducible refine at_alloc ?_); refine klz hM ?_; clear hM; intro gx wx hM) | ((with_reducible refine at_box ?_); refine klb hM ?_; clear hM; intro gx wx hM))
        (refine (CA.out _ hM.below).mono ?_)
        rintro e w1 ⟨rfl, hb1⟩
        replace hM := hM.step hb1
        clear hb1
        go_wp2_with (first | ((with_reducible refine at_load ?_); refine wpList_mem_cell hM rfl _ _ (by rfl) _ _ (by rfl) _ _ _ (by repeat (first | exact List.Mem.head _ | apply List.Mem.tail)) one_int _ H0A.out ?_) | ((first | with_reducible refine at_load ?_ | ((with_reducible refine at_load_g ?_ ?_); (· rfl))); first | refine kll hM ?_ | refine kln hM ?_) | ((with_reducible refine at_store ?_); (first | refine klw hM ?_ | refine kls hM ?_); clear hM; intro wx hM) | ((with_reducible refine at_alloc ?_); refine klz hM ?_; clear hM; intro gx wx hM) | ((with_reducible refine at_box ?_); refine klb hM ?_; clear hM; intro gx wx hM))
        (refine (CB.out _ hM.below).mono ?_)
        rintro e w1 ⟨rfl, hb1⟩
        replace hM := hM.step hb1
        clear hb1
        have eS := ES.out
        have eR := ER.out
        go_wp2_with (first | ((with_reducible refine at_load ?_); refine wpList_mem_cell hM rfl _ _ (by rfl) _ _ (by rfl) _ _ _ (by repeat (first | exact List.Mem.head _ | apply List.Mem.tail)) one_int _ H0A.out ?_) | ((first | with_reducible refine at_load ?_ | ((with_reducible refine at_load_g ?_ ?_); (· rfl))); first | refine kll hM ?_ | refine kln hM ?_) | ((with_reducible refine at_store ?_); (first | refine klw hM ?_ | refine kls hM ?_); clear hM; intro wx hM) | ((with_reducible refine at_alloc ?_); refine klz hM ?_; clear hM; intro gx wx hM) | ((with_reducible refine at_box ?_); refine klb hM ?_; clear hM; intro gx wx hM))
        obtain ⟨g13, rfl⟩ := hM.name1
        obtain ⟨g11, rfl⟩ := hM.name2
        clear eS eR
        refine wp_region_allHB hM (by kernel_rfl) ?_
        clear hM
        intro wd hM
        have HM0 := Lib.hid hM
        have hS := Below.refl wd.heap.size wd
        have rd1 := reads_blk (hM.blk (b := ⟨g11, 23, 16, cellsOf .u8 RA.val⟩) (List.Mem.tail _ (List.Mem.head _)))
        have rd2 := reads_blk (hM.blk (b := ⟨g13, 23, 16, cellsOf .u8 RB.val⟩) (List.Mem.head _))
        rw [hRAl] at rd1
        rw [hRBl] at rd2
        have RD1 := Lib.hid rd1
        have RD2 := Lib.hid rd2
        clear rd1 rd2
        refine wpAllH_takes [0, 2, 4, 6, 1, 5] (by kernel_rfl) (fun _ _ _ _ _ h => h) hS (by kernel_rfl) ?_
        simp only [pickOps, List.filterMap_cons, List.filterMap_nil, List.getElem?_cons_zero, List.getElem?_cons_succ]
        repeat ((with_reducible apply wpHeld_step); (· rfl); (· (intro wq hSw; first | (go_simp; rfl) | (have hM' := HM0.out.step hSw; first | exact yields_load (C := fun _ => True) (nqc hM') rfl | exact yields_load (C := fun _ => True) (nql hM') rfl | exact yields_load (C := fun _ => True) (nqp hM') rfl | exact yields_load (C := fun _ => True) (nqc hM' (hv := H0A.out)) rfl))); intro K hK; go_simp; (with_reducible refine hK _ ?_); clear hK K)
        refine wpHeld_nil ?_
        refine wpAllH_floats hS [⟨3, 112, 29, #[.tmp 110, .tmp 111], #[.int .i64 (k : Nat), .slice (some ⟨g11, 0, none⟩) 16 16], .agg (cellsOf .u8 x1.val)⟩, ⟨7, 116, 29, #[.tmp 114, .tmp 115], #[.int .i64 (k : Nat), .slice (some ⟨g13, 0, none⟩) 16 16], .agg (cellsOf .u8 x2.val)⟩] 8 9 10 11 15 16 112 116 ?_ rfl ⟨rfl, rfl, rfl⟩ rfl ⟨rfl, rfl, rfl⟩ rfl ⟨rfl, rfl, rfl⟩ rfl ⟨rfl, rfl, rfl⟩ (by kernel_rfl) (by kernel_rfl) (by kernel_rfl) (by kernel_rfl) (by simp) (by simp) (by simp) (by kernel_rfl) (by kernel_rfl) (.inl ⟨_, List.mem_cons_self, rfl, rfl, by kernel_rfl⟩) (.inl ⟨_, List.mem_cons_of_mem _ List.mem_cons_self, rfl, rfl, by kernel_rfl⟩) zero_ndH zero_ndH row_ndH row_ndH hx1z hx2z (vals_one _ _) (vals_one _ _) ?_
        · intro t ht
          simp only [List.mem_cons, List.not_mem_nil, or_false] at ht
          rcases ht with rfl | rfl
          · exact ⟨⟨_, _, rfl, rfl, rfl, rfl⟩, by kernel_rfl, (by simp only [List.map_toArray, List.map_cons, List.map_nil]; rfl), Tryd.call29, fun w' hb => LF1.out g11 w' (RD1.out.keep hb) (Below.step hM.below hb)⟩
          · exact ⟨⟨_, _, rfl, rfl, rfl, rfl⟩, by kernel_rfl, (by simp only [List.map_toArray, List.map_cons, List.map_nil]; rfl), Tryd.call29, fun w' hb => LF2.out g13 w' (RD2.out.keep hb) (Below.step hM.below hb)⟩
        intro g15 g16 wx hF
        replace hM := hM.frame hF
        simp only [List.cons_append, List.nil_append] at hM
        clear hS HM0 hF RD1 RD2
        simp only [List.foldl_cons, List.foldl_nil]
        go_simp
        have eR := ER.out
        have eX := EX.out
        go_wp2_with (first | ((first | with_reducible refine at_load ?_ | ((with_reducible refine at_load_g ?_ ?_); (· rfl))); refine wpList_mem_load hM rfl _ _ (by rfl) _ (by rfl) _ _ _ (by repeat (first | exact List.Mem.head _ | apply List.Mem.tail)) row_ndH ?_) | ((first | with_reducible refine at_load ?_ | ((with_reducible refine at_load_g ?_ ?_); (· rfl))); first | refine kll hM ?_ | refine kln hM ?_) | ((with_reducible refine at_store ?_); (first | refine klw hM ?_ | refine kls hM ?_); clear hM; intro wx hM) | ((with_reducible refine at_alloc ?_); refine klz hM ?_; clear hM; intro gx wx hM) | ((with_reducible refine at_box ?_); refine klb hM ?_; clear hM; intro gx wx hM))
        clear eR eX
        obtain ⟨lev, p, q, hno, htw, hpq, hjn⟩ := HCS.out.2 HCH.out
        have co2 := fun A1 c1 A2 c2 w' n1 n2 hb => CO.out A1 c1 A2 c2 w' n1 n2 hb
        rw [htw, show (collO (k : Int) x1 PA x2 PB).isSome = true from Option.isSome_iff_ne_none.2 hno] at co2
        have HTS := Lib.hid (twoC_size lev p q)
        have HTO := Lib.hid (twoC_one lev p q)
        have HT0 := Lib.hid (twoC_0 lev p q)
        have HTA := Lib.hid (twoC_A lev p q)
        have HTB := Lib.hid (twoC_B lev p q)
        have HA0 := Lib.hid (twoC_A0 lev p q)
        have HA1 := Lib.hid (twoC_A1 lev p q)
        have HB0 := Lib.hid (twoC_B0 lev p q)
        have HB1 := Lib.hid (twoC_B1 lev p q)
        have j1 := fun w' (hb : Below w.heap.size w w') => join_any lev p.1 p.2 w' (HT.out.keep hb)
        have j2 := fun w' (hb : Below w.heap.size w w') => join_any lev q.1 q.2 w' (HT.out.keep hb)
        rw [← hjn] at j2
        have EQ2 : Hid (∀ W, (Op.equalIn 10000 42 (.agg (ndC2 p.1 p.2)) (.agg (ndC2 q.1 q.2))).run Tryd.prog W = .ok false W) := Lib.hid fun W => by rw [eq_pr 9997 p q W]; simp [hpq]
        have EJ : Hid (∀ W, (Op.equalIn 10000 41 (.agg (ndC (joinN lev p.1 p.2))) (.agg (ndC (joinN lev p.1 p.2)))).run Tryd.prog W = .ok true W) := Lib.hid fun W => by rw [eq_nds 9998 _ _ W]; simp
        generalize twoC lev p q = T at co2 HTS HTO HT0 HTA HTB HA0 HA1 HB0 HB1
        generalize joinN lev p.1 p.2 = J at j1 j2 EJ
        generalize ndC2 p.1 p.2 = P2 at HTA EQ2
        generalize ndC2 q.1 q.2 = Q2 at HTB EQ2
        have CO2 := Lib.hid co2
        have J1 := Lib.hid j1
        have J2 := Lib.hid j2
        clear co2 j1 j2 hno htw hpq hjn CO HCS HCH
        replace hM := (hM.subL (L' := [⟨g15, 41, 16, cellsOf .u8 x1.val⟩, ⟨g16, 41, 16, cellsOf .u8 x2.val⟩, ⟨g5, 37, 562, YB⟩, ⟨g4, 37, 562, YA⟩]) (by repeat (first | exact List.Sublist.refl _ | exact List.nil_sublist _ | apply List.Sublist.cons_cons | apply List.Sublist.cons))).thg
        simp only [List.map_cons, List.map_nil] at hM
        have M0 := Lib.hid (hM.newThing (nbecomes_zero none (Go.Thg.KeptBut.refl _ _)))
        clear hM
        go_loopw [19, 17] (fun i p wr => ∃ (j : Nat) (E : Option Addr) (e2 : Nat), j ≤ h ∧ i = .int .i64 (j : Nat) ∧ p = .slice E j e2 ∧ Go.Thg.Mem [] w [⟨g15, 41, 16, ndC x1⟩, ⟨g16, 41, 16, ndC x2⟩, ⟨g5, 37, 562, YB⟩, ⟨g4, 37, 562, YA⟩] (ndT (.slice E j e2) (PA.take j) :: []) wr) (fun i _ _ => h - (intOf i).toNat)
        case atStart => exact ⟨0, none, 0, by omega, rfl, rfl, M0.out⟩
        case round =>
          clear M0
          obtain ⟨j, E, e2, hj, rfl, rfl, hM⟩ := hrel
          by_cases hlt : j < h
          · have hjl : j < PA.length := by have := HLN.out.1; omega
            obtain ⟨go, oo, rfl, _, h6⟩ := HRA.out.row j hjl
            have h5 := Lib.hid (fun w' (hb : Below w.heap.size w w') => NIn.cell (HRA.out.keep hb) j hjl)
            have hp5 := HPPA.out
            have htk : PA.take (j + 1) = PA.take j ++ [PA[j]] := List.take_succ_eq_append_getElem hjl
            have hcl : (PA.take j).length = j := by rw [List.length_take]; omega
            generalize PA[j] = x at h5 htk
            generalize PA.take j = cur at htk hcl hM
            have n8 := HK.out.2.1
            have h63 : cur.length + [x].length ≤ 1000000000 := by simp; omega
            have HTK := Lib.hid htk
            have HCL := Lib.hid hcl
            have HP5 := Lib.hid hp5
            have q0 : (0 : Int) ≤ (j : Int) := Int.natCast_nonneg _
            have q1 : (j : Int) < (h : Int) := by omega
            clear htk hcl h6 hjl hp5
            go_wp2_with (first | ((with_reducible refine at_load ?_); first | refine lr (h5.out _ hM.below) ?_ (hty := Go.Proofs.YtbbdnlcjjcmllaaDoor.row_a16) | refine slc hM ?_ (hv := HP5.out)) | (refine lbn1 hM ?_; clear hM; intro g1 w5 hM) | ((with_reducible refine at_append ?_); refine lan (src_nd1 hM (List.Mem.head _)) hM h63 ?_ (hR := Go.Thg.UpdR.head _ _); clear hM; intro A3 N3 c3 wx hN3 hM))
            obtain rfl : N3 = j + 1 := by have := hN3.out; have := HCL.out; simp at *; omega
            exact ⟨⟨j + 1, A3, c3, by omega, by go_num, rfl, by rw [HTK.out]; exact hM.subL (List.Sublist.cons _ (List.Sublist.refl _))⟩, by simp [intOf]; omega⟩
          · obtain rfl : h = j := by omega
            rw [List.take_of_length_le (by have := HLN.out.1; omega)] at hM
            obtain ⟨E1, hE1⟩ : ∃ E1, E1 = E := ⟨_, rfl⟩
            obtain ⟨z1, hz1⟩ : ∃ z1, z1 = e2 := ⟨_, rfl⟩
            rw [← hE1, ← hz1] at hM ⊢
            clear hlt hj hE1 hz1
            go_wp2_with (first | ((with_reducible refine at_load ?_); refine slc hM ?_ (hv := HPPA.out)))
            have M0 := Lib.hid (hM.newThing (nbecomes_zero none (Go.Thg.KeptBut.refl _ _)))
            clear hM
            go_loopw [20, 18] (fun i p wr => ∃ (j : Nat) (E : Option Addr) (e2 : Nat), j ≤ h ∧ i = .int .i64 (j : Nat) ∧ p = .slice E j e2 ∧ Go.Thg.Mem [] w [⟨g15, 41, 16, ndC x1⟩, ⟨g16, 41, 16, ndC x2⟩, ⟨g5, 37, 562, YB⟩, ⟨g4, 37, 562, YA⟩] (ndT (.slice E j e2) (PB.take j) :: [ndT (.slice E1 h z1) PA]) wr) (fun i _ _ => h - (intOf i).toNat)
            case atStart => exact ⟨0, none, 0, by omega, rfl, rfl, M0.out⟩
            case round =>
              clear M0
              obtain ⟨j, E, e2, hj, rfl, rfl, hM⟩ := hrel
              by_cases hlt : j < h
              · have hjl : j < PB.length := by have := HLN.out.2; omega
                obtain ⟨go, oo, rfl, _, h6⟩ := HRB.out.row j hjl
                have h5 := Lib.hid (fun w' (hb : Below w.heap.size w w') => NIn.cell (HRB.out.keep hb) j hjl)
                have hp5 := HPPB.out
                have htk : PB.take (j + 1) = PB.take j ++ [PB[j]] := List.take_succ_eq_append_getElem hjl
                have hcl : (PB.take j).length = j := by rw [List.length_take]; omega
                generalize PB[j] = x at h5 htk
                generalize PB.take j = cur at htk hcl hM
                have n8 := HK.out.2.1
                have h63 : cur.length + [x].length ≤ 1000000000 := by simp; omega
                have HTK := Lib.hid htk
                have HCL := Lib.hid hcl
                have HP5 := Lib.hid hp5
                have q0 : (0 : Int) ≤ (j : Int) := Int.natCast_nonneg _
                have q1 : (j : Int) < (h : Int) := by omega
                clear htk hcl h6 hjl hp5
                go_wp2_with (first | ((with_reducible refine at_load ?_); first | refine lr (h5.out _ hM.below) ?_ (hty := Go.Proofs.YtbbdnlcjjcmllaaDoor.row_a16) | refine slc hM ?_ (hv := HP5.out)) | (refine lbn1 hM ?_; clear hM; intro g1 w5 hM) | ((with_reducible refine at_append ?_); refine lan (src_nd1 hM (List.Mem.head _)) hM h63 ?_ (hR := Go.Thg.UpdR.head _ _); clear hM; intro A3 N3 c3 wx hN3 hM))
                obtain rfl : N3 = j + 1 := by have := hN3.out; have := HCL.out; simp at *; omega
                exact ⟨⟨j + 1, A3, c3, by omega, by go_num, rfl, by rw [HTK.out]; exact hM.subL (List.Sublist.cons _ (List.Sublist.refl _))⟩, by simp [intOf]; omega⟩
              · obtain rfl : h = j := by omega
                rw [List.take_of_length_le (by have := HLN.out.2; omega)] at hM
                clear hlt hj
                have nB := ndT_in (hM.thing _ (List.Mem.head _))
                have nA := ndT_in (hM.thing _ (List.Mem.tail _ (List.Mem.head _)))
                go_wp2_with (first | ((with_reducible refine at_load ?_); first | refine slc hM ?_ (hv := HPPB.out) | refine slc hM ?_ (hv := H0A.out) (hty := Go.Proofs.YtbbdnlcjjcmllaaDoor.one_int) | refine sll hM ?_ (hty := Go.Proofs.YtbbdnlcjjcmllaaDoor.row_nd)))
                (refine (CO2.out _ _ _ _ _ nA nB hM.below).mono ?_)
                rintro e w1 ⟨rfl, hb⟩
                replace hM := hM.step hb
                clear hb nA nB
                go_wp2_with (first | ((with_reducible refine at_alloc ?_); refine slz hM ?_ (hz := zero_mtwo); clear hM; intro gx w1 hM) | ((with_reducible refine at_store ?_); refine slw hM ?_ (hL := Go.Thg.UpdL.head _ _ _ _ _) (hs := HTS.out) (h1 := HTO.out) (hty := Go.Proofs.YtbbdnlcjjcmllaaDoor.row_two); clear hM; intro wx hM))
                obtain ⟨g21, rfl⟩ := hM.name1
                replace hM := Mem.of_thg ((hM.subR (List.nil_sublist _)).subL (L' := [⟨g21, 44, 65, T⟩]) (List.Sublist.cons_cons _ (List.nil_sublist _)))
                simp only [List.map_cons, List.map_nil] at hM
                have eQ := EQ2.out
                have eJ := EJ.out
                refine Go.Bul.wp_region_class (Mem _ w _ _) (by kernel_rfl) (by kernel_rfl) hM.drew ?_
                repeat ((with_reducible refine wpQuiet_step (fun K hK => ?_)); (first | ((first | ((with_reducible refine quiet_some ?_ ?_); (· rfl)) | ((with_reducible refine quiet_wanted ?_ ?_); (· rfl))); apply Exists.intro; refine ⟨fun w' hM' => ?_, ?_⟩; (· first | first | exact quietAt_mem_cell hM' _ _ (by rfl) _ _ (by rfl) _ _ _ (by repeat (first | exact List.Mem.head _ | apply List.Mem.tail)) one_int _ HT0.out | exact quietAt_mem_part hM' _ _ (by rfl) _ _ (by rfl) _ _ _ (by repeat (first | exact List.Mem.head _ | apply List.Mem.tail)) 32 row_nd2H (by omega) _ (by first | exact HTA.out | exact HTB.out) | exact quietAt_mem_part hM' _ _ (by rfl) _ _ (by rfl) _ _ _ (by repeat (first | exact List.Mem.head _ | apply List.Mem.tail)) 16 row_ndH (by omega) _ (by first | exact HA0.out | exact HA1.out | exact HB0.out | exact HB1.out) | exact quietAt_mem_load hM' _ _ (by rfl) _ (by rfl) _ _ _ (by repeat (first | exact List.Mem.head _ | apply List.Mem.tail)) (by first | exact row_a16 | exact row_i35 | exact row_val | exact row_a32 | exact row_e35 | exact row_v35 | exact row_sig | exact row_evi | exact row_half | exact row_dig | exact row_i2 | exact row_i3 | exact row_b3 | exact row_h2 | exact row_pair) | exact quietAt_mem_num hM' _ _ (by rfl) _ _ (by rfl) _ _ _ _ (by repeat (first | exact List.Mem.head _ | apply List.Mem.tail)) (by first | exact one_u8 | exact one_int | exact one_u32 | exact one_bool | exact one_errno | exact one_u16 | exact one_sl) (by omega) | exact quietAt_mem_cell hM' _ _ (by rfl) _ _ (by rfl) _ _ _ (by repeat (first | exact List.Mem.head _ | apply List.Mem.tail)) (by first | exact one_u8 | exact one_int | exact one_u32 | exact one_bool | exact one_errno | exact one_u16 | exact one_sl) _ (by rfl) | exact quietAt_mem_piece hM' _ _ (by rfl) _ _ (by rfl) _ _ _ _ (by repeat (first | exact List.Mem.head _ | apply List.Mem.tail)) (by first | exact row_a16 | exact row_i35 | exact row_val | exact row_a32 | exact row_e35 | exact row_v35 | exact row_sig | exact row_evi | exact row_half | exact row_dig | exact row_i2 | exact row_i3 | exact row_b3 | exact row_h2 | exact row_pair) (by omega) | (go_simp; rfl) | (go_simp; with_reducible refine at_calls ?_; first | exact quiet_mem_call hM' (J1.out _ hM'.below) | exact quiet_mem_call hM' (J2.out _ hM'.below)))) | ((with_reducible refine quiet_unwanted ?_ ?_); (· rfl))); go_simp; (with_reducible refine hK _ ?_); clear hK K)
                refine wpQuiet_nil ?_
                intro wx hM
                go_wp2_with fail
                go_ret
                exact ⟨rfl, hM.below⟩
      · have ES : Hid (∀ W, (Op.equalIn 10000 34 (.agg (cellsOf .u8 SA)) (.agg (cellsOf .u8 SB))).run Tryd.prog W = .ok false W) := Lib.hid fun W => by rw [eq_e35 SA SB hSAl hSBl W 9997]; simp [hss]
        by_cases hrr : RA.val = RB.val
        · have ER : Hid (∀ W, (Op.equalIn 10000 23 (.agg (cellsOf .u8 RA.val)) (.agg (cellsOf .u8 RB.val))).run Tryd.prog W = .ok true W) := Lib.hid fun W => by rw [eq_b16 _ _ hRAl hRBl]; simp [hrr]
          clear hss hrr hRA hRB hRA2 hRB2 hx1 hx2 hSA hSB
          go_wp2_with (first | ((with_reducible refine at_load ?_); refine wpList_mem_cell hM rfl _ _ (by rfl) _ _ (by rfl) _ _ _ (by repeat (first | exact List.Mem.head _ | apply List.Mem.tail)) one_int _ H0A.out ?_) | ((first | with_reducible refine at_load ?_ | ((with_reducible refine at_load_g ?_ ?_); (· rfl))); first | refine kll hM ?_ | refine kln hM ?_) | ((with_reducible refine at_store ?_); (first | refine klw hM ?_ | refine kls hM ?_); clear hM; intro wx hM) | ((with_reducible refine at_alloc ?_); refine klz hM ?_; clear hM; intro gx wx hM) | ((with_reducible refine at_box ?_); refine klb hM ?_; clear hM; intro gx wx hM))
          (refine (CA.out _ hM.below).mono ?_)
          rintro e w1 ⟨rfl, hb1⟩
          replace hM := hM.step hb1
          clear hb1
          go_wp2_with (first | ((with_reducible refine at_load ?_); refine wpList_mem_cell hM rfl _ _ (by rfl) _ _ (by rfl) _ _ _ (by repeat (first | exact List.Mem.head _ | apply List.Mem.tail)) one_int _ H0A.out ?_) | ((first | with_reducible refine at_load ?_ | ((with_reducible refine at_load_g ?_ ?_); (· rfl))); first | refine kll hM ?_ | refine kln hM ?_) | ((with_reducible refine at_store ?_); (first | refine klw hM ?_ | refine kls hM ?_); clear hM; intro wx hM) | ((with_reducible refine at_alloc ?_); refine klz hM ?_; clear hM; intro gx wx hM) | ((with_reducible refine at_box ?_); refine klb hM ?_; clear hM; intro gx wx hM))
          (refine (CB.out _ hM.below).mono ?_)
          rintro e w1 ⟨rfl, hb1⟩
          replace hM := hM.step hb1
          clear hb1
          have eS := ES.out
          have eR := ER.out
          go_wp2_with (first | ((with_reducible refine at_load ?_); refine wpList_mem_cell hM rfl _ _ (by rfl) _ _ (by rfl) _ _ _ (by repeat (first | exact List.Mem.head _ | apply List.Mem.tail)) one_int _ H0A.out ?_) | ((first | with_reducible refine at_load ?_ | ((with_reducible refine at_load_g ?_ ?_); (· rfl))); first | refine kll hM ?_ | refine kln hM ?_) | ((with_reducible refine at_store ?_); (first | refine klw hM ?_ | refine kls hM ?_); clear hM; intro wx hM) | ((with_reducible refine at_alloc ?_); refine klz hM ?_; clear hM; intro gx wx hM) | ((with_reducible refine at_box ?_); refine klb hM ?_; clear hM; intro gx wx hM))
          go_ret
          exact ⟨rfl, hM.below⟩
        · have ER : Hid (∀ W, (Op.equalIn 10000 23 (.agg (cellsOf .u8 RA.val)) (.agg (cellsOf .u8 RB.val))).run Tryd.prog W = .ok false W) := Lib.hid fun W => by rw [eq_b16 _ _ hRAl hRBl]; simp [hrr]
          by_cases hxx : x1 = x2
          · have EX : Hid (∀ W, (Op.equalIn 10000 41 (.agg (cellsOf .u8 x1.val)) (.agg (cellsOf .u8 x2.val))).run Tryd.prog W = .ok true W) := Lib.hid fun W => (eq_nds 9998 x1 x2 W).trans (by simp [hxx])
            clear hss hrr hxx hRA hRB hRA2 hRB2 hx1 hx2 hSA hSB
            go_wp2_with (first | ((with_reducible refine at_load ?_); refine wpList_mem_cell hM rfl _ _ (by rfl) _ _ (by rfl) _ _ _ (by repeat (first | exact List.Mem.head _ | apply List.Mem.tail)) one_int _ H0A.out ?_) | ((first | with_reducible refine at_load ?_ | ((with_reducible refine at_load_g ?_ ?_); (· rfl))); first | refine kll hM ?_ | refine kln hM ?_) | ((with_reducible refine at_store ?_); (first | refine klw hM ?_ | refine kls hM ?_); clear hM; intro wx hM) | ((with_reducible refine at_alloc ?_); refine klz hM ?_; clear hM; intro gx wx hM) | ((with_reducible refine at_box ?_); refine klb hM ?_; clear hM; intro gx wx hM))
            (refine (CA.out _ hM.below).mono ?_)
            rintro e w1 ⟨rfl, hb1⟩
            replace hM := hM.step hb1
            clear hb1
            go_wp2_with (first | ((with_reducible refine at_load ?_); refine wpList_mem_cell hM rfl _ _ (by rfl) _ _ (by rfl) _ _ _ (by repeat (first | exact List.Mem.head _ | apply List.Mem.tail)) one_int _ H0A.out ?_) | ((first | with_reducible refine at_load ?_ | ((with_reducible refine at_load_g ?_ ?_); (· rfl))); first | refine kll hM ?_ | refine kln hM ?_) | ((with_reducible refine at_store ?_); (first | refine klw hM ?_ | refine kls hM ?_); clear hM; intro wx hM) | ((with_reducible refine at_alloc ?_); refine klz hM ?_; clear hM; intro gx wx hM) | ((with_reducible refine at_box ?_); refine klb hM ?_; clear hM; intro gx wx hM))
            (refine (CB.out _ hM.below).mono ?_)
            rintro e w1 ⟨rfl, hb1⟩
            replace hM := hM.step hb1
            clear hb1
            have eS := ES.out
            have eR := ER.out
            go_wp2_with (first | ((with_reducible refine at_load ?_); refine wpList_mem_cell hM rfl _ _ (by rfl) _ _ (by rfl) _ _ _ (by repeat (first | exact List.Mem.head _ | apply List.Mem.tail)) one_int _ H0A.out ?_) | ((first | with_reducible refine at_load ?_ | ((with_reducible refine at_load_g ?_ ?_); (· rfl))); first | refine kll hM ?_ | refine kln hM ?_) | ((with_reducible refine at_store ?_); (first | refine klw hM ?_ | refine kls hM ?_); clear hM; intro wx hM) | ((with_reducible refine at_alloc ?_); refine klz hM ?_; clear hM; intro gx wx hM) | ((with_reducible refine at_box ?_); refine klb hM ?_; clear hM; intro gx wx hM))
            obtain ⟨g13, rfl⟩ := hM.name1
            obtain ⟨g11, rfl⟩ := hM.name2
            clear eS eR
            refine wp_region_allHB hM (by kernel_rfl) ?_
            clear hM
            intro wd hM
            have HM0 := Lib.hid hM
            have hS := Below.refl wd.heap.size wd
            have rd1 := reads_blk (hM.blk (b := ⟨g11, 23, 16, cellsOf .u8 RA.val⟩) (List.Mem.tail _ (List.Mem.head _)))
            have rd2 := reads_blk (hM.blk (b := ⟨g13, 23, 16, cellsOf .u8 RB.val⟩) (List.Mem.head _))
            rw [hRAl] at rd1
            rw [hRBl] at rd2
            have RD1 := Lib.hid rd1
            have RD2 := Lib.hid rd2
            clear rd1 rd2
            refine wpAllH_takes [0, 2, 4, 6, 1, 5] (by kernel_rfl) (fun _ _ _ _ _ h => h) hS (by kernel_rfl) ?_
            simp only [pickOps, List.filterMap_cons, List.filterMap_nil, List.getElem?_cons_zero, List.getElem?_cons_succ]
            repeat ((with_reducible apply wpHeld_step); (· rfl); (· (intro wq hSw; first | (go_simp; rfl) | (have hM' := HM0.out.step hSw; first | exact yields_load (C := fun _ => True) (nqc hM') rfl | exact yields_load (C := fun _ => True) (nql hM') rfl | exact yields_load (C := fun _ => True) (nqp hM') rfl | exact yields_load (C := fun _ => True) (nqc hM' (hv := H0A.out)) rfl))); intro K hK; go_simp; (with_reducible refine hK _ ?_); clear hK K)
            refine wpHeld_nil ?_
            refine wpAllH_floats hS [⟨3, 112, 29, #[.tmp 110, .tmp 111], #[.int .i64 (k : Nat), .slice (some ⟨g11, 0, none⟩) 16 16], .agg (cellsOf .u8 x1.val)⟩, ⟨7, 116, 29, #[.tmp 114, .tmp 115], #[.int .i64 (k : Nat), .slice (some ⟨g13, 0, none⟩) 16 16], .agg (cellsOf .u8 x2.val)⟩] 8 9 10 11 15 16 112 116 ?_ rfl ⟨rfl, rfl, rfl⟩ rfl ⟨rfl, rfl, rfl⟩ rfl ⟨rfl, rfl, rfl⟩ rfl ⟨rfl, rfl, rfl⟩ (by kernel_rfl) (by kernel_rfl) (by kernel_rfl) (by kernel_rfl) (by simp) (by simp) (by simp) (by kernel_rfl) (by kernel_rfl) (.inl ⟨_, List.mem_cons_self, rfl, rfl, by kernel_rfl⟩) (.inl ⟨_, List.mem_cons_of_mem _ List.mem_cons_self, rfl, rfl, by kernel_rfl⟩) zero_ndH zero_ndH row_ndH row_ndH hx1z hx2z (vals_one _ _) (vals_one _ _) ?_
            · intro t ht
              simp only [List.mem_cons, List.not_mem_nil, or_false] at ht
              rcases ht with rfl | rfl
              · exact ⟨⟨_, _, rfl, rfl, rfl, rfl⟩, by kernel_rfl, (by simp only [List.map_toArray, List.map_cons, List.map_nil]; rfl), Tryd.call29, fun w' hb => LF1.out g11 w' (RD1.out.keep hb) (Below.step hM.below hb)⟩
              · exact ⟨⟨_, _, rfl, rfl, rfl, rfl⟩, by kernel_rfl, (by simp only [List.map_toArray, List.map_cons, List.map_nil]; rfl), Tryd.call29, fun w' hb => LF2.out g13 w' (RD2.out.keep hb) (Below.step hM.below hb)⟩
            intro g15 g16 wx hF
            replace hM := hM.frame hF
            simp only [List.cons_append, List.nil_append] at hM
            clear hS HM0 hF RD1 RD2
            simp only [List.foldl_cons, List.foldl_nil]
            go_simp
            have eR := ER.out
            have eX := EX.out
            go_wp2_with (first | ((first | with_reducible refine at_load ?_ | ((with_reducible refine at_load_g ?_ ?_); (· rfl))); refine wpList_mem_load hM rfl _ _ (by rfl) _ (by rfl) _ _ _ (by repeat (first | exact List.Mem.head _ | apply List.Mem.tail)) row_ndH ?_) | ((first | with_reducible refine at_load ?_ | ((with_reducible refine at_load_g ?_ ?_); (· rfl))); first | refine kll hM ?_ | refine kln hM ?_) | ((with_reducible refine at_store ?_); (first | refine klw hM ?_ | refine kls hM ?_); clear hM; intro wx hM) | ((with_reducible refine at_alloc ?_); refine klz hM ?_; clear hM; intro gx wx hM) | ((with_reducible refine at_box ?_); refine klb hM ?_; clear hM; intro gx wx hM))
            clear eR eX
            go_ret
            exact ⟨rfl, hM.below⟩
          · have EX : Hid (∀ W, (Op.equalIn 10000 41 (.agg (cellsOf .u8 x1.val)) (.agg (cellsOf .u8 x2.val))).run Tryd.prog W = .ok false W) := Lib.hid fun W => (eq_nds 9998 x1 x2 W).trans (by simp [hxx])
            have HCH : Hid (chgB (!decide (x2 = x1)) PB PA PA.length = true) := Lib.hid (by
              cases hch : chgB (!decide (x2 = x1)) PB PA PA.length
              · have := (chgB_no (HLN.out.2.trans HLN.out.1.symm) rfl hch).1
                simp at this
                exact absurd this.symm hxx
              · rfl)
            clear hss hrr hxx hRA hRB hRA2 hRB2 hx1 hx2 hSA hSB
            go_wp2_with (first | ((with_reducible refine at_load ?_); refine wpList_mem_cell hM rfl _ _ (by rfl) _ _ (by rfl) _ _ _ (by repeat (first | exact List.Mem.head _ | apply List.Mem.tail)) one_int _ H0A.out ?_) | ((first | with_reducible refine at_load ?_ | ((with_reducible refine at_load_g ?_ ?_); (· rfl))); first | refine kll hM ?_ | refine kln hM ?_) | ((with_reducible refine at_store ?_); (first | refine klw hM ?_ | refine kls hM ?_); clear hM; intro wx hM) | ((with_reducible refine at_alloc ?_); refine klz hM ?_; clear hM; intro gx wx hM) | ((with_reducible refine at_box ?_); refine klb hM ?_; clear hM; intro gx wx hM))
            (refine (CA.out _ hM.below).mono ?_)
            rintro e w1 ⟨rfl, hb1⟩
            replace hM := hM.step hb1
            clear hb1
            go_wp2_with (first | ((with_reducible refine at_load ?_); refine wpList_mem_cell hM rfl _ _ (by rfl) _ _ (by rfl) _ _ _ (by repeat (first | exact List.Mem.head _ | apply List.Mem.tail)) one_int _ H0A.out ?_) | ((first | with_reducible refine at_load ?_ | ((with_reducible refine at_load_g ?_ ?_); (· rfl))); first | refine kll hM ?_ | refine kln hM ?_) | ((with_reducible refine at_store ?_); (first | refine klw hM ?_ | refine kls hM ?_); clear hM; intro wx hM) | ((with_reducible refine at_alloc ?_); refine klz hM ?_; clear hM; intro gx wx hM) | ((with_reducible refine at_box ?_); refine klb hM ?_; clear hM; intro gx wx hM))
            (refine (CB.out _ hM.below).mono ?_)
            rintro e w1 ⟨rfl, hb1⟩
            replace hM := hM.step hb1
            clear hb1
            have eS := ES.out
            have eR := ER.out
            go_wp2_with (first | ((with_reducible refine at_load ?_); refine wpList_mem_cell hM rfl _ _ (by rfl) _ _ (by rfl) _ _ _ (by repeat (first | exact List.Mem.head _ | apply List.Mem.tail)) one_int _ H0A.out ?_) | ((first | with_reducible refine at_load ?_ | ((with_reducible refine at_load_g ?_ ?_); (· rfl))); first | refine kll hM ?_ | refine kln hM ?_) | ((with_reducible refine at_store ?_); (first | refine klw hM ?_ | refine kls hM ?_); clear hM; intro wx hM) | ((with_reducible refine at_alloc ?_); refine klz hM ?_; clear hM; intro gx wx hM) | ((with_reducible refine at_box ?_); refine klb hM ?_; clear hM; intro gx wx hM))
            obtain ⟨g13, rfl⟩ := hM.name1
            obtain ⟨g11, rfl⟩ := hM.name2
            clear eS eR
            refine wp_region_allHB hM (by kernel_rfl) ?_
            clear hM
            intro wd hM
            have HM0 := Lib.hid hM
            have hS := Below.refl wd.heap.size wd
            have rd1 := reads_blk (hM.blk (b := ⟨g11, 23, 16, cellsOf .u8 RA.val⟩) (List.Mem.tail _ (List.Mem.head _)))
            have rd2 := reads_blk (hM.blk (b := ⟨g13, 23, 16, cellsOf .u8 RB.val⟩) (List.Mem.head _))
            rw [hRAl] at rd1
            rw [hRBl] at rd2
            have RD1 := Lib.hid rd1
            have RD2 := Lib.hid rd2
            clear rd1 rd2
            refine wpAllH_takes [0, 2, 4, 6, 1, 5] (by kernel_rfl) (fun _ _ _ _ _ h => h) hS (by kernel_rfl) ?_
            simp only [pickOps, List.filterMap_cons, List.filterMap_nil, List.getElem?_cons_zero, List.getElem?_cons_succ]
            repeat ((with_reducible apply wpHeld_step); (· rfl); (· (intro wq hSw; first | (go_simp; rfl) | (have hM' := HM0.out.step hSw; first | exact yields_load (C := fun _ => True) (nqc hM') rfl | exact yields_load (C := fun _ => True) (nql hM') rfl | exact yields_load (C := fun _ => True) (nqp hM') rfl | exact yields_load (C := fun _ => True) (nqc hM' (hv := H0A.out)) rfl))); intro K hK; go_simp; (with_reducible refine hK _ ?_); clear hK K)
            refine wpHeld_nil ?_
            refine wpAllH_floats hS [⟨3, 112, 29, #[.tmp 110, .tmp 111], #[.int .i64 (k : Nat), .slice (some ⟨g11, 0, none⟩) 16 16], .agg (cellsOf .u8 x1.val)⟩, ⟨7, 116, 29, #[.tmp 114, .tmp 115], #[.int .i64 (k : Nat), .slice (some ⟨g13, 0, none⟩) 16 16], .agg (cellsOf .u8 x2.val)⟩] 8 9 10 11 15 16 112 116 ?_ rfl ⟨rfl, rfl, rfl⟩ rfl ⟨rfl, rfl, rfl⟩ rfl ⟨rfl, rfl, rfl⟩ rfl ⟨rfl, rfl, rfl⟩ (by kernel_rfl) (by kernel_rfl) (by kernel_rfl) (by kernel_rfl) (by simp) (by simp) (by simp) (by kernel_rfl) (by kernel_rfl) (.inl ⟨_, List.mem_cons_self, rfl, rfl, by kernel_rfl⟩) (.inl ⟨_, List.mem_cons_of_mem _ List.mem_cons_self, rfl, rfl, by kernel_rfl⟩) zero_ndH zero_ndH row_ndH row_ndH hx1z hx2z (vals_one _ _) (vals_one _ _) ?_
            · intro t ht
              simp only [List.mem_cons, List.not_mem_nil, or_false] at ht
              rcases ht with rfl | rfl
              · exact ⟨⟨_, _, rfl, rfl, rfl, rfl⟩, by kernel_rfl, (by simp only [List.map_toArray, List.map_cons, List.map_nil]; rfl), Tryd.call29, fun w' hb => LF1.out g11 w' (RD1.out.keep hb) (Below.step hM.below hb)⟩
              · exact ⟨⟨_, _, rfl, rfl, rfl, rfl⟩, by kernel_rfl, (by simp only [List.map_toArray, List.map_cons, List.map_nil]; rfl), Tryd.call29, fun w' hb => LF2.out g13 w' (RD2.out.keep hb) (Below.step hM.below hb)⟩
            intro g15 g16 wx hF
            replace hM := hM.frame hF
            simp only [List.cons_append, List.nil_append] at hM
            clear hS HM0 hF RD1 RD2
            simp only [List.foldl_cons, List.foldl_nil]
            go_simp
            have eR := ER.out
            have eX := EX.out
            go_wp2_with (first | ((first | with_reducible refine at_load ?_ | ((with_reducible refine at_load_g ?_ ?_); (· rfl))); refine wpList_mem_load hM rfl _ _ (by rfl) _ (by rfl) _ _ _ (by repeat (first | exact List.Mem.head _ | apply List.Mem.tail)) row_ndH ?_) | ((first | with_reducible refine at_load ?_ | ((with_reducible refine at_load_g ?_ ?_); (· rfl))); first | refine kll hM ?_ | refine kln hM ?_) | ((with_reducible refine at_store ?_); (first | refine klw hM ?_ | refine kls hM ?_); clear hM; intro wx hM) | ((with_reducible refine at_alloc ?_); refine klz hM ?_; clear hM; intro gx wx hM) | ((with_reducible refine at_box ?_); refine klb hM ?_; clear hM; intro gx wx hM))
            clear eR eX
            obtain ⟨lev, p, q, hno, htw, hpq, hjn⟩ := HCS.out.2 HCH.out
            have co2 := fun A1 c1 A2 c2 w' n1 n2 hb => CO.out A1 c1 A2 c2 w' n1 n2 hb
            rw [htw, show (collO (k : Int) x1 PA x2 PB).isSome = true from Option.isSome_iff_ne_none.2 hno] at co2
            have HTS := Lib.hid (twoC_size lev p q)
            have HTO := Lib.hid (twoC_one lev p q)
            have HT0 := Lib.hid (twoC_0 lev p q)
            have HTA := Lib.hid (twoC_A lev p q)
            have HTB := Lib.hid (twoC_B lev p q)
            have HA0 := Lib.hid (twoC_A0 lev p q)
            have HA1 := Lib.hid (twoC_A1 lev p q)
            have HB0 := Lib.hid (twoC_B0 lev p q)
            have HB1 := Lib.hid (twoC_B1 lev p q)
            have j1 := fun w' (hb : Below w.heap.size w w') => join_any lev p.1 p.2 w' (HT.out.keep hb)
            have j2 := fun w' (hb : Below w.heap.size w w') => join_any lev q.1 q.2 w' (HT.out.keep hb)
            rw [← hjn] at j2
            have EQ2 : Hid (∀ W, (Op.equalIn 10000 42 (.agg (ndC2 p.1 p.2)) (.agg (ndC2 q.1 q.2))).run Tryd.prog W = .ok false W) := Lib.hid fun W => by rw [eq_pr 9997 p q W]; simp [hpq]
            have EJ : Hid (∀ W, (Op.equalIn 10000 41 (.agg (ndC (joinN lev p.1 p.2))) (.agg (ndC (joinN lev p.1 p.2)))).run Tryd.prog W = .ok true W) := Lib.hid fun W => by rw [eq_nds 9998 _ _ W]; simp
            generalize twoC lev p q = T at co2 HTS HTO HT0 HTA HTB HA0 HA1 HB0 HB1
            generalize joinN lev p.1 p.2 = J at j1 j2 EJ
            generalize ndC2 p.1 p.2 = P2 at HTA EQ2
            generalize ndC2 q.1 q.2 = Q2 at HTB EQ2
            have CO2 := Lib.hid co2
            have J1 := Lib.hid j1
            have J2 := Lib.hid j2
            clear co2 j1 j2 hno htw hpq hjn CO HCS HCH
            replace hM := (hM.subL (L' := [⟨g15, 41, 16, cellsOf .u8 x1.val⟩, ⟨g16, 41, 16, cellsOf .u8 x2.val⟩, ⟨g5, 37, 562, YB⟩, ⟨g4, 37, 562, YA⟩]) (by repeat (first | exact List.Sublist.refl _ | exact List.nil_sublist _ | apply List.Sublist.cons_cons | apply List.Sublist.cons))).thg
            simp only [List.map_cons, List.map_nil] at hM
            have M0 := Lib.hid (hM.newThing (nbecomes_zero none (Go.Thg.KeptBut.refl _ _)))
            clear hM
            go_loopw [19, 17] (fun i p wr => ∃ (j : Nat) (E : Option Addr) (e2 : Nat), j ≤ h ∧ i = .int .i64 (j : Nat) ∧ p = .slice E j e2 ∧ Go.Thg.Mem [] w [⟨g15, 41, 16, ndC x1⟩, ⟨g16, 41, 16, ndC x2⟩, ⟨g5, 37, 562, YB⟩, ⟨g4, 37, 562, YA⟩] (ndT (.slice E j e2) (PA.take j) :: []) wr) (fun i _ _ => h - (intOf i).toNat)
            case atStart => exact ⟨0, none, 0, by omega, rfl, rfl, M0.out⟩
            case round =>
              clear M0
              obtain ⟨j, E, e2, hj, rfl, rfl, hM⟩ := hrel
              by_cases hlt : j < h
              · have hjl : j < PA.length := by have := HLN.out.1; omega
                obtain ⟨go, oo, rfl, _, h6⟩ := HRA.out.row j hjl
                have h5 := Lib.hid (fun w' (hb : Below w.heap.size w w') => NIn.cell (HRA.out.keep hb) j hjl)
                have hp5 := HPPA.out
                have htk : PA.take (j + 1) = PA.take j ++ [PA[j]] := List.take_succ_eq_append_getElem hjl
                have hcl : (PA.take j).length = j := by rw [List.length_take]; omega
                generalize PA[j] = x at h5 htk
                generalize PA.take j = cur at htk hcl hM
                have n8 := HK.out.2.1
                have h63 : cur.length + [x].length ≤ 1000000000 := by simp; omega
                have HTK := Lib.hid htk
                have HCL := Lib.hid hcl
                have HP5 := Lib.hid hp5
                have q0 : (0 : Int) ≤ (j : Int) := Int.natCast_nonneg _
                have q1 : (j : Int) < (h : Int) := by omega
                clear htk hcl h6 hjl hp5
                go_wp2_with (first | ((with_reducible refine at_load ?_); first | refine lr (h5.out _ hM.below) ?_ (hty := Go.Proofs.YtbbdnlcjjcmllaaDoor.row_a16) | refine slc hM ?_ (hv := HP5.out)) | (refine lbn1 hM ?_; clear hM; intro g1 w5 hM) | ((with_reducible refine at_append ?_); refine lan (src_nd1 hM (List.Mem.head _)) hM h63 ?_ (hR := Go.Thg.UpdR.head _ _); clear hM; intro A3 N3 c3 wx hN3 hM))
                obtain rfl : N3 = j + 1 := by have := hN3.out; have := HCL.out; simp at *; omega
                exact ⟨⟨j + 1, A3, c3, by omega, by go_num, rfl, by rw [HTK.out]; exact hM.subL (List.Sublist.cons _ (List.Sublist.refl _))⟩, by simp [intOf]; omega⟩
              · obtain rfl : h = j := by omega
                rw [List.take_of_length_le (by have := HLN.out.1; omega)] at hM
                obtain ⟨E1, hE1⟩ : ∃ E1, E1 = E := ⟨_, rfl⟩
                obtain ⟨z1, hz1⟩ : ∃ z1, z1 = e2 := ⟨_, rfl⟩
                rw [← hE1, ← hz1] at hM ⊢
                clear hlt hj hE1 hz1
                go_wp2_with (first | ((with_reducible refine at_load ?_); refine slc hM ?_ (hv := HPPA.out)))
                have M0 := Lib.hid (hM.newThing (nbecomes_zero none (Go.Thg.KeptBut.refl _ _)))
                clear hM
                go_loopw [20, 18] (fun i p wr => ∃ (j : Nat) (E : Option Addr) (e2 : Nat), j ≤ h ∧ i = .int .i64 (j : Nat) ∧ p = .slice E j e2 ∧ Go.Thg.Mem [] w [⟨g15, 41, 16, ndC x1⟩, ⟨g16, 41, 16, ndC x2⟩, ⟨g5, 37, 562, YB⟩, ⟨g4, 37, 562, YA⟩] (ndT (.slice E j e2) (PB.take j) :: [ndT (.slice E1 h z1) PA]) wr) (fun i _ _ => h - (intOf i).toNat)
                case atStart => exact ⟨0, none, 0, by omega, rfl, rfl, M0.out⟩
                case round =>
                  clear M0
                  obtain ⟨j, E, e2, hj, rfl, rfl, hM⟩ := hrel
                  by_cases hlt : j < h
                  · have hjl : j < PB.length := by have := HLN.out.2; omega
                    obtain ⟨go, oo, rfl, _, h6⟩ := HRB.out.row j hjl
                    have h5 := Lib.hid (fun w' (hb : Below w.heap.size w w') => NIn.cell (HRB.out.keep hb) j hjl)
                    have hp5 := HPPB.out
                    have htk : PB.take (j + 1) = PB.take j ++ [PB[j]] := List.take_succ_eq_append_getElem hjl
                    have hcl : (PB.take j).length = j := by rw [List.length_take]; omega
                    generalize PB[j] = x at h5 htk
                    generalize PB.take j = cur at htk hcl hM
                    have n8 := HK.out.2.1
                    have h63 : cur.length + [x].length ≤ 1000000000 := by simp; omega
                    have HTK := Lib.hid htk
                    have HCL := Lib.hid hcl
                    have HP5 := Lib.hid hp5
                    have q0 : (0 : Int) ≤ (j : Int) := Int.natCast_nonneg _
                    have q1 : (j : Int) < (h : Int) := by omega
                    clear htk hcl h6 hjl hp5
                    go_wp2_with (first | ((with_reducible refine at_load ?_); first | refine lr (h5.out _ hM.below) ?_ (hty := Go.Proofs.YtbbdnlcjjcmllaaDoor.row_a16) | refine slc hM ?_ (hv := HP5.out)) | (refine lbn1 hM ?_; clear hM; intro g1 w5 hM) | ((with_reducible refine at_append ?_); refine lan (src_nd1 hM (List.Mem.head _)) hM h63 ?_ (hR := Go.Thg.UpdR.head _ _); clear hM; intro A3 N3 c3 wx hN3 hM))
                    obtain rfl : N3 = j + 1 := by have := hN3.out; have := HCL.out; simp at *; omega
                    exact ⟨⟨j + 1, A3, c3, by omega, by go_num, rfl, by rw [HTK.out]; exact hM.subL (List.Sublist.cons _ (List.Sublist.refl _))⟩, by simp [intOf]; omega⟩
                  · obtain rfl : h = j := by omega
                    rw [List.take_of_length_le (by have := HLN.out.2; omega)] at hM
                    clear hlt hj
                    have nB := ndT_in (hM.thing _ (List.Mem.head _))
                    have nA := ndT_in (hM.thing _ (List.Mem.tail _ (List.Mem.head _)))
                    go_wp2_with (first | ((with_reducible refine at_load ?_); first | refine slc hM ?_ (hv := HPPB.out) | refine slc hM ?_ (hv := H0A.out) (hty := Go.Proofs.YtbbdnlcjjcmllaaDoor.one_int) | refine sll hM ?_ (hty := Go.Proofs.YtbbdnlcjjcmllaaDoor.row_nd)))
                    (refine (CO2.out _ _ _ _ _ nA nB hM.below).mono ?_)
                    rintro e w1 ⟨rfl, hb⟩
                    replace hM := hM.step hb
                    clear hb nA nB
                    go_wp2_with (first | ((with_reducible refine at_alloc ?_); refine slz hM ?_ (hz := zero_mtwo); clear hM; intro gx w1 hM) | ((with_reducible refine at_store ?_); refine slw hM ?_ (hL := Go.Thg.UpdL.head _ _ _ _ _) (hs := HTS.out) (h1 := HTO.out) (hty := Go.Proofs.YtbbdnlcjjcmllaaDoor.row_two); clear hM; intro wx hM))
                    obtain ⟨g21, rfl⟩ := hM.name1
                    replace hM := Mem.of_thg ((hM.subR (List.nil_sublist _)).subL (L' := [⟨g21, 44, 65, T⟩]) (List.Sublist.cons_cons _ (List.nil_sublist _)))
                    simp only [List.map_cons, List.map_nil] at hM
                    have eQ := EQ2.out
                    have eJ := EJ.out
                    refine Go.Bul.wp_region_class (Mem _ w _ _) (by kernel_rfl) (by kernel_rfl) hM.drew ?_
                    repeat ((with_reducible refine wpQuiet_step (fun K hK => ?_)); (first | ((first | ((with_reducible refine quiet_some ?_ ?_); (· rfl)) | ((with_reducible refine quiet_wanted ?_ ?_); (· rfl))); apply Exists.intro; refine ⟨fun w' hM' => ?_, ?_⟩; (· first | first | exact quietAt_mem_cell hM' _ _ (by rfl) _ _ (by rfl) _ _ _ (by repeat (first | exact List.Mem.head _ | apply List.Mem.tail)) one_int _ HT0.out | exact quietAt_mem_part hM' _ _ (by rfl) _ _ (by rfl) _ _ _ (by repeat (first | exact List.Mem.head _ | apply List.Mem.tail)) 32 row_nd2H (by omega) _ (by first | exact HTA.out | exact HTB.out) | exact quietAt_mem_part hM' _ _ (by rfl) _ _ (by rfl) _ _ _ (by repeat (first | exact List.Mem.head _ | apply List.Mem.tail)) 16 row_ndH (by omega) _ (by first | exact HA0.out | exact HA1.out | exact HB0.out | exact HB1.out) | exact quietAt_mem_load hM' _ _ (by rfl) _ (by rfl) _ _ _ (by repeat (first | exact List.Mem.head _ | apply List.Mem.tail)) (by first | exact row_a16 | exact row_i35 | exact row_val | exact row_a32 | exact row_e35 | exact row_v35 | exact row_sig | exact row_evi | exact row_half | exact row_dig | exact row_i2 | exact row_i3 | exact row_b3 | exact row_h2 | exact row_pair) | exact quietAt_mem_num hM' _ _ (by rfl) _ _ (by rfl) _ _ _ _ (by repeat (first | exact List.Mem.head _ | apply List.Mem.tail)) (by first | exact one_u8 | exact one_int | exact one_u32 | exact one_bool | exact one_errno | exact one_u16 | exact one_sl) (by omega) | exact quietAt_mem_cell hM' _ _ (by rfl) _ _ (by rfl) _ _ _ (by repeat (first | exact List.Mem.head _ | apply List.Mem.tail)) (by first | exact one_u8 | exact one_int | exact one_u32 | exact one_bool | exact one_errno | exact one_u16 | exact one_sl) _ (by rfl) | exact quietAt_mem_piece hM' _ _ (by rfl) _ _ (by rfl) _ _ _ _ (by repeat (first | exact List.Mem.head _ | apply List.Mem.tail)) (by first | exact row_a16 | exact row_i35 | exact row_val | exact row_a32 | exact row_e35 | exact row_v35 | exact row_sig | exact row_evi | exact row_half | exact row_dig | exact row_i2 | exact row_i3 | exact row_b3 | exact row_h2 | exact row_pair) (by omega) | (go_simp; rfl) | (go_simp; with_reducible refine at_calls ?_; first | exact quiet_mem_call hM' (J1.out _ hM'.below) | exact quiet_mem_call hM' (J2.out _ hM'.below)))) | ((with_reducible refine quiet_unwanted ?_ ?_); (· rfl))); go_simp; (with_reducible refine hK _ ?_); clear hK K)
                    refine wpQuiet_nil ?_
                    intro wx hM
                    go_wp2_with fail
                    go_ret
                    exact ⟨rfl, hM.below⟩
end Go.Proofs.YtbbdnlcjjcmllaaDoor.Once
