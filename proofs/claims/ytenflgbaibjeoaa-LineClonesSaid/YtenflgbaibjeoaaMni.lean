/- Contract of do. Contract of state. -/
import Derived.Test.YtenflgbaibjeoaaLqw
import Derived.Test.YtenflgbaibjeoaaLqj
import Derived.Test.YtenflgbaibjeoaaLqn
import Derived.Test.YtenflgbaibjeoaaLqa
import Derived.Test.YtenflgbaibjeoaaLqm
namespace Go.Thg
theorem wp_region_allHM {P : Go.Program} {w w0 : Go.World} {G : List Nat} {L : List Ent} {R : List Thing} {Q : Go.Exit → Go.Act → Go.World → Prop} (hM : Mem G w0 L R w) {id : Nat} {a : Go.Act} {l : List Go.Oper} (S : Go.World → Prop) (hm : P.follows .mixedOrders = true)
    (h : ∀ wd, Mem G w0 L R wd → Go.Bul.wpAllH P l.toArray Q S (Array.replicate l.toArray.size false) a wd) : (Go.Code.region id l.toArray true).wp P Q a w :=
  Go.Bul.wp_region_allH S hm (h _ hM.drew)
/-- Some blocks are what they are. -/
def HeldM (L : List Ent) (w : Go.World) : Prop := ∃ G w0 R, Mem G w0 L R w
theorem HeldM.of {w w0 : Go.World} {G : List Nat} {L : List Ent} {R : List Thing} (h : Mem G w0 L R w) : HeldM L w := ⟨_, _, _, h⟩
end Go.Thg
namespace Go.Lin
open Go
/-- What the line leaves behind Receive, Advance. -/
def recvS (S : Ln) (s n : Int) : Ln := if (s ≠ 0 ∧ s ≠ 1) ∨ n < 0 then S else if s = 0 then { S with e0 := { S.e0 with arr := S.e0.arr.drop n.toNat } } else { S with e1 := { S.e1 with arr := S.e1.arr.drop n.toNat } }
def advS (S : Ln) (k : Int) : Ln := if k < 0 ∨ 10000000 - S.now < k then S else passN k.toNat S
end Go.Lin
namespace Go.Proofs.Ytenflgbaibjeoaa
open Go Go.RowKit Go.Bul Go.Thg Go.Lin
theorem tie_recv {B : Nat} {S : Ln} {T : RL} (h : Tie B S T) (s n : Int) : Tie B (recvS S s n) (recvSR T s n) := by
  unfold recvS recvSR
  by_cases hb : (s ≠ 0 ∧ s ≠ 1) ∨ n < 0
  · rw [if_pos hb, if_pos hb]; exact h
  · rw [if_neg hb, if_neg hb]
    rcases (show s = 0 ∨ s = 1 by omega) with rfl | rfl
    · rw [if_pos rfl]; exact tie_recv0 h _
    · rw [if_neg (by decide)]; exact tie_recv1 h _
theorem tie_adv {B : Nat} {S : Ln} {T : RL} (h : Tie B S T) (k : Int) : Tie B (advS S k) (advR T k) := by
  unfold advS advR
  rw [h.rel.now]
  by_cases hb : k < 0 ∨ 10000000 - S.now < k
  · rw [if_pos hb, if_pos hb]; exact h
  · rw [if_neg hb, if_neg hb]; exact tie_minutes h _ (by omega)
theorem tie_drop {B : Nat} {S : Ln} {T : RL} (h : Tie B S T) : Tie B (if S.up then downS S else S) (if T.up then downR T else T) := by
  rw [h.rel.up]
  split
  · exact tie_down h
  · exact h
section
variable {w w0 : World} {G : List Nat} {L : List Ent} {R : List Thing} {S : Ln} {T : RL} {fp : List Nat} {p B : Nat}
theorem lsend_in (s : Int) (t : ByteArray) (hM : Mem G w0 L (lineT fp p S :: R) w) (hl : S.e0.wait.length ≤ 1000000000 ∧ S.e1.wait.length ≤ 1000000000 ∧ t.size ≤ 1000000000) :
    Calls Try.prog 16 #[.pointer (some ⟨p, 0, none⟩), .int .i64 s, .string t] w fun e w' => ∃ fp', e = .returned (.int .i64 (sendE S s t.size)) ∧ Mem G w0 L (lineT fp' p (sendS S s (nums t)) :: R) w' := by
  refine (send_any s t (HasLine.of hM) hl).mono ?_
  rintro e w' ⟨rfl, h⟩
  obtain ⟨fp', h⟩ := h.ex
  exact ⟨fp', rfl, h⟩
theorem lrecv_in (s n : Int) (hM : Mem G w0 L (lineT fp p S :: R) w) (hr : Rel S T) (h0 : S.e0.arr.length ≤ 1000000000) (h1 : S.e1.arr.length ≤ 1000000000) :
    Calls Try.prog 18 #[.pointer (some ⟨p, 0, none⟩), .int .i64 s, .int .i64 n] w fun e w' => ∃ fp', e = .returned (.tuple #[.string (bstr (recvTR T s n)), .int .i64 (recvER s n)]) ∧ Mem G w0 L (lineT fp' p (recvS S s n) :: R) w' := by
  unfold recvTR recvER recvS
  by_cases hb : (s ≠ 0 ∧ s ≠ 1) ∨ n < 0
  · rw [if_pos hb, if_pos hb, if_pos hb]
    refine (recv_no s n (HasLine.of hM) hb).mono ?_
    rintro e w' ⟨rfl, rfl⟩
    exact ⟨fp, rfl, hM⟩
  · rw [if_neg hb, if_neg hb, if_neg hb]
    rcases (show s = 0 ∨ s = 1 by omega) with rfl | rfl
    · rw [if_pos rfl, if_pos rfl, hr.a0]
      refine (recv_0 n (HasLine.of hM) (by omega) h0).mono ?_
      rintro e w' ⟨rfl, h⟩
      obtain ⟨fp', h⟩ := h.ex
      exact ⟨fp', rfl, h⟩
    · rw [if_neg (by decide), if_neg (by decide), hr.a1]
      refine (recv_1 n (HasLine.of hM) (by omega) h1).mono ?_
      rintro e w' ⟨rfl, h⟩
      obtain ⟨fp', h⟩ := h.ex
      exact ⟨fp', rfl, h⟩
theorem ladv_in (k : Int) (hM : Mem G w0 L (lineT fp p S :: R) w) (hT : Tie B S T) :
    Calls Try.prog 17 #[.pointer (some ⟨p, 0, none⟩), .int .i64 k] w fun e w' => ∃ fp', e = .returned (.int .i64 (advE T k)) ∧ Mem G w0 L (lineT fp' p (advS S k) :: R) w' := by
  unfold advE advS
  rw [hT.rel.now]
  by_cases hb : k < 0 ∨ 10000000 - S.now < k
  · rw [if_pos hb, if_pos hb]
    refine (adv_no k (HasLine.of hM) hT.fit.ok hb).mono ?_
    rintro e w' ⟨rfl, rfl⟩
    exact ⟨fp, rfl, hM⟩
  · rw [if_neg hb, if_neg hb]
    refine (adv_any k (HasLine.of hM) hT.fit.ok (by omega) (by omega)).mono ?_
    rintro e w' ⟨rfl, h⟩
    obtain ⟨fp', h⟩ := h.ex
    exact ⟨fp', rfl, h⟩
theorem ldrop_in (hM : Mem G w0 L (lineT fp p S :: R) w) (hr : Rel S T) :
    Calls Try.prog 29 #[.pointer (some ⟨p, 0, none⟩)] w fun e w' => ∃ fp', e = .returned (.int .i64 (if T.up then 0 else 26)) ∧ Mem G w0 L (lineT fp' p (if S.up then downS S else S) :: R) w' := by
  rw [hr.up]
  refine (drop_any (HasLine.of hM)).mono ?_
  rintro e w' ⟨rfl, h⟩
  obtain ⟨fp', h⟩ := h.ex
  exact ⟨fp', rfl, h⟩
end
set_option maxRecDepth 20000 in
set_option maxHeartbeats 40000000 in
theorem do_any {w w0 : World} {G : List Nat} {L : List Ent} {R : List Thing} {S : Ln} {T : RL} {v : RV} {fp : List Nat} {p B : Nat} (o : OpR) (ho : OpOk o) (hM : Mem G w0 L (lineT fp p S :: refT T v :: R) w) (hT : Tie B S T) (hB : B ≤ 100000) :
    Calls Try.prog 34 #[.pointer (some ⟨p, 0, none⟩), .agg (refCs T v), .agg (opCs o)] w fun e w' => ∃ S' T' fp' v', e = .returned (.tuple #[.agg (refCs T' v'), .bool true]) ∧ Tie (B + 200) S' T' ∧ Mem G w0 L (lineT fp' p S' :: refT T' v' :: R) w' := by
  have HB := Lib.hid (fun w => bound_any o w ho)
  have hok2 := boundO_ok ho
  have htx := boundO_size o
  generalize boundO o = q at HB hok2 htx
  obtain ⟨kk, sd, tx, nn⟩ := q
  obtain ⟨b1, b2, b3, b4, b5, b6⟩ := hok2
  simp only at b1 b2 b3 b4 b5 b6 htx
  clear ho b3 b4 b5 b6
  go_enter Try.func34, Try.ntmps34
  go_upto_region 3 with (first | ((with_reducible refine (HB.out _).mono ?_); rintro e w1 ⟨rfl, hb⟩; replace hM := hM.step hb; clear hb) | ((first | with_reducible refine at_load ?_ | ((with_reducible refine at_load_g ?_ ?_); (· rfl))); first | refine lc hM ?_ | refine ll hM ?_ | refine lp hM ?_) | ((with_reducible refine at_store ?_); first | (refine ls hM ?_; clear hM; intro wx hM) | (refine lw hM ?_; clear hM; intro wx hM) | (refine lt hM ?_; clear hM; intro wx hM)) | ((with_reducible refine at_alloc ?_); refine lz hM ?_; clear hM; intro gx wx hM) | ((with_reducible refine at_box ?_); refine lb hM ?_; clear hM; intro gx wx hM))
  obtain ⟨g5, hg5⟩ := (hM.subL (List.sublist_cons_self _ _)).name1
  subst hg5
  rcases (show kk % 7 = 0 ∨ kk % 7 = 1 ∨ kk % 7 = 2 ∨ kk % 7 = 3 ∨ kk % 7 = 4 ∨ kk % 7 = 5 ∨ kk % 7 = 6 by omega) with hq | hq | hq | hq | hq | hq | hq
  · have HR := Lib.hid (fun (L : List Ent) (fp : List Nat) w' (h : Mem G w0 L (lineT fp p S :: refT T v :: R) w') => rsend_in sd tx h (UpdR.tail _ (UpdR.head _ _)) (by have := (tie_rb hT (by omega)).w0; omega) (by have := (tie_rb hT (by omega)).w1; omega) (by omega))
    have HS := Lib.hid (fun (L : List Ent) (fp : List Nat) (R' : List Thing) w' (h : Mem G w0 L (lineT fp p S :: R') w') => lsend_in sd tx h (by have := hT.fit.len; omega))
    have HT2 := Lib.hid (tie_send hT (by omega) sd (nums tx) (by rw [nums_length]; omega) (bytes_of_nums tx))
    rw [rel_sendE hT.rel] at HR
    generalize sendE S sd tx.size = z at HR HS
    generalize sendR T sd (nums tx) = T' at HR HT2
    generalize sendS S sd (nums tx) = S' at HS HT2
    clear hT htx hB
    go_upto_region 6 with (first | ((with_reducible refine (HR.out _ _ _ hM).mono ?_); clear hM; rintro e w1 ⟨rfl, hM⟩) | ((first | with_reducible refine at_load ?_ | ((with_reducible refine at_load_g ?_ ?_); (· rfl))); first | refine lc hM ?_ | refine ll hM ?_ | refine lp hM ?_) | ((with_reducible refine at_store ?_); first | (refine ls hM ?_; clear hM; intro wx hM) | (refine lw hM ?_; clear hM; intro wx hM) | (refine lt hM ?_; clear hM; intro wx hM)) | ((with_reducible refine at_alloc ?_); refine lz hM ?_; clear hM; intro gx wx hM) | ((with_reducible refine at_box ?_); refine lb hM ?_; clear hM; intro gx wx hM))
    refine wp_region_allHM hM (HeldM [⟨gx, 66, 13, refCs T' v⟩, ⟨g5, 52, 4, opCs ⟨kk, sd, tx, nn⟩⟩]) (by kernel_rfl) ?_
    clear hM
    intro wd hM
    have hS := HeldM.of (hM.subL (List.Sublist.cons_cons _ (List.Sublist.cons _ (List.Sublist.cons_cons _ (List.nil_sublist _)))))
    refine wpAllH_takes [0, 1, 2, 3, 4, 5, 7] (by kernel_rfl) (fun _ _ _ _ _ h => h) hS (by kernel_rfl) ?_
    simp only [pickOps, List.filterMap_cons, List.filterMap_nil, List.getElem?_cons_zero, List.getElem?_cons_succ]
    repeat ((with_reducible apply wpHeld_step); (· rfl); (· (intro w hSw; first | (go_simp; rfl) | ((obtain ⟨_, _, _, hM'⟩ := hSw; first | exact yields_load (C := fun _ => True) (qc hM') rfl | exact yields_load (C := fun _ => True) (ql hM') rfl)))); intro K hK; go_simp; (with_reducible refine hK _ ?_); clear hK K)
    refine wpHeld_nil ?_
    refine wpAllH_one 6 rfl (by kernel_rfl) ?_
    go_wp2_with fail
    refine (HS.out _ _ _ _ hM).mono ?_
    clear hM hS
    rintro e w1 ⟨fp2, rfl, hM⟩
    go_wp2_with fail
    have hS := HeldM.of (hM.subL (List.Sublist.cons_cons _ (List.Sublist.cons _ (List.Sublist.cons_cons _ (List.nil_sublist _)))))
    refine then_normal ⟨hS, ?_⟩
    refine wpAllH_takes [8] (by kernel_rfl) (fun _ _ _ _ _ h => h) hS (by kernel_rfl) ?_
    simp only [pickOps, List.filterMap_cons, List.filterMap_nil, List.getElem?_cons_zero, List.getElem?_cons_succ]
    repeat ((with_reducible apply wpHeld_step); (· rfl); (· (intro w hSw; first | (go_simp; rfl) | (fail))); intro K hK; go_simp; (with_reducible refine hK _ ?_); clear hK K)
    refine wpHeld_nil ?_
    refine wpAllH_one 9 rfl (by kernel_rfl) ?_
    refine lw hM ?_
    clear hM hS
    intro wx hM
    have hS := HeldM.of (hM.subL (List.Sublist.cons_cons _ (List.Sublist.cons _ (List.Sublist.cons_cons _ (List.nil_sublist _)))))
    refine wpList_then ⟨hS, ?_⟩
    refine wpAllH_takes [10] (by kernel_rfl) (fun _ _ _ _ _ h => h) hS (by kernel_rfl) ?_
    simp only [pickOps, List.filterMap_cons, List.filterMap_nil, List.getElem?_cons_zero, List.getElem?_cons_succ]
    repeat ((with_reducible apply wpHeld_step); (· rfl); (· (intro w hSw; first | (go_simp; rfl) | (fail))); intro K hK; go_simp; (with_reducible refine hK _ ?_); clear hK K)
    refine wpHeld_nil ?_
    refine wpAllH_done (by kernel_rfl) ?_
    go_wp2_with fail
    exact bodyPost_ret (results_mem_cell_tmp hM rfl (by rfl) (by repeat (first | exact List.Mem.head _ | apply List.Mem.tail)) (by first | exact row_cfg | exact row_win | exact row_line | exact row_end | exact row_ends | exact row_pkt | exact row_C | exact row_W | exact row_L | exact row_End | exact row_Ends | exact row_B | exact row_op | exact row_str2 | exact row_b3) (by rfl)) rfl ⟨_, _, _, _, rfl, HT2.out, hM.subL (List.Sublist.cons _ (List.Sublist.cons _ (List.Sublist.cons _ (List.Sublist.cons _ (List.Sublist.refl _)))))⟩
  · have HR := Lib.hid (fun (L : List Ent) (fp : List Nat) w' (h : Mem G w0 L (lineT fp p S :: refT T v :: R) w') => rsend_in sd tx h (UpdR.tail _ (UpdR.head _ _)) (by have := (tie_rb hT (by omega)).w0; omega) (by have := (tie_rb hT (by omega)).w1; omega) (by omega))
    have HS := Lib.hid (fun (L : List Ent) (fp : List Nat) (R' : List Thing) w' (h : Mem G w0 L (lineT fp p S :: R') w') => lsend_in sd tx h (by have := hT.fit.len; omega))
    have HT2 := Lib.hid (tie_send hT (by omega) sd (nums tx) (by rw [nums_length]; omega) (bytes_of_nums tx))
    rw [rel_sendE hT.rel] at HR
    generalize sendE S sd tx.size = z at HR HS
    generalize sendR T sd (nums tx) = T' at HR HT2
    generalize sendS S sd (nums tx) = S' at HS HT2
    clear hT htx hB
    go_upto_region 6 with (first | ((with_reducible refine (HR.out _ _ _ hM).mono ?_); clear hM; rintro e w1 ⟨rfl, hM⟩) | ((first | with_reducible refine at_load ?_ | ((with_reducible refine at_load_g ?_ ?_); (· rfl))); first | refine lc hM ?_ | refine ll hM ?_ | refine lp hM ?_) | ((with_reducible refine at_store ?_); first | (refine ls hM ?_; clear hM; intro wx hM) | (refine lw hM ?_; clear hM; intro wx hM) | (refine lt hM ?_; clear hM; intro wx hM)) | ((with_reducible refine at_alloc ?_); refine lz hM ?_; clear hM; intro gx wx hM) | ((with_reducible refine at_box ?_); refine lb hM ?_; clear hM; intro gx wx hM))
    refine wp_region_allHM hM (HeldM [⟨gx, 66, 13, refCs T' v⟩, ⟨g5, 52, 4, opCs ⟨kk, sd, tx, nn⟩⟩]) (by kernel_rfl) ?_
    clear hM
    intro wd hM
    have hS := HeldM.of (hM.subL (List.Sublist.cons_cons _ (List.Sublist.cons _ (List.Sublist.cons_cons _ (List.nil_sublist _)))))
    refine wpAllH_takes [0, 1, 2, 3, 4, 5, 7] (by kernel_rfl) (fun _ _ _ _ _ h => h) hS (by kernel_rfl) ?_
    simp only [pickOps, List.filterMap_cons, List.filterMap_nil, List.getElem?_cons_zero, List.getElem?_cons_succ]
    repeat ((with_reducible apply wpHeld_step); (· rfl); (· (intro w hSw; first | (go_simp; rfl) | ((obtain ⟨_, _, _, hM'⟩ := hSw; first | exact yields_load (C := fun _ => True) (qc hM') rfl | exact yields_load (C := fun _ => True) (ql hM') rfl)))); intro K hK; go_simp; (with_reducible refine hK _ ?_); clear hK K)
    refine wpHeld_nil ?_
    refine wpAllH_one 6 rfl (by kernel_rfl) ?_
    go_wp2_with fail
    refine (HS.out _ _ _ _ hM).mono ?_
    clear hM hS
    rintro e w1 ⟨fp2, rfl, hM⟩
    go_wp2_with fail
    have hS := HeldM.of (hM.subL (List.Sublist.cons_cons _ (List.Sublist.cons _ (List.Sublist.cons_cons _ (List.nil_sublist _)))))
    refine then_normal ⟨hS, ?_⟩
    refine wpAllH_takes [8] (by kernel_rfl) (fun _ _ _ _ _ h => h) hS (by kernel_rfl) ?_
    simp only [pickOps, List.filterMap_cons, List.filterMap_nil, List.getElem?_cons_zero, List.getElem?_cons_succ]
    repeat ((with_reducible apply wpHeld_step); (· rfl); (· (intro w hSw; first | (go_simp; rfl) | (fail))); intro K hK; go_simp; (with_reducible refine hK _ ?_); clear hK K)
    refine wpHeld_nil ?_
    refine wpAllH_one 9 rfl (by kernel_rfl) ?_
    refine lw hM ?_
    clear hM hS
    intro wx hM
    have hS := HeldM.of (hM.subL (List.Sublist.cons_cons _ (List.Sublist.cons _ (List.Sublist.cons_cons _ (List.nil_sublist _)))))
    refine wpList_then ⟨hS, ?_⟩
    refine wpAllH_takes [10] (by kernel_rfl) (fun _ _ _ _ _ h => h) hS (by kernel_rfl) ?_
    simp only [pickOps, List.filterMap_cons, List.filterMap_nil, List.getElem?_cons_zero, List.getElem?_cons_succ]
    repeat ((with_reducible apply wpHeld_step); (· rfl); (· (intro w hSw; first | (go_simp; rfl) | (fail))); intro K hK; go_simp; (with_reducible refine hK _ ?_); clear hK K)
    refine wpHeld_nil ?_
    refine wpAllH_done (by kernel_rfl) ?_
    go_wp2_with fail
    exact bodyPost_ret (results_mem_cell_tmp hM rfl (by rfl) (by repeat (first | exact List.Mem.head _ | apply List.Mem.tail)) (by first | exact row_cfg | exact row_win | exact row_line | exact row_end | exact row_ends | exact row_pkt | exact row_C | exact row_W | exact row_L | exact row_End | exact row_Ends | exact row_B | exact row_op | exact row_str2 | exact row_b3) (by rfl)) rfl ⟨_, _, _, _, rfl, HT2.out, hM.subL (List.Sublist.cons _ (List.Sublist.cons _ (List.Sublist.cons _ (List.Sublist.cons _ (List.Sublist.refl _)))))⟩
  · have HR := Lib.hid (fun (L : List Ent) (fp : List Nat) w' (h : Mem G w0 L (lineT fp p S :: refT T v :: R) w') => rrecv_in sd nn h (UpdR.tail _ (UpdR.head _ _)) (by have := (tie_rb hT (by omega)).a0; omega) (by have := (tie_rb hT (by omega)).a1; omega))
    have HS := Lib.hid (fun (L : List Ent) (fp : List Nat) (R' : List Thing) w' (h : Mem G w0 L (lineT fp p S :: R') w') => lrecv_in sd nn h hT.rel (by have := hT.fit.len; omega) (by have := hT.fit.len; omega))
    have HT2 := Lib.hid ((tie_recv hT sd nn).mono (C := B + 200) (by omega))
    generalize recvER sd nn = z at HR HS
    generalize recvTR T sd nn = tt at HR HS
    generalize recvSR T sd nn = T' at HR HT2
    generalize recvS S sd nn = S' at HS HT2
    clear hT htx hB
    go_wp2_with (first | ((with_reducible refine (HR.out _ _ _ hM).mono ?_); clear hM; rintro e w1 ⟨rfl, hM⟩) | ((with_reducible refine (HS.out _ _ _ _ hM).mono ?_); clear hM; rintro e w1 ⟨fp2, rfl, hM⟩) | ((first | with_reducible refine at_load ?_ | ((with_reducible refine at_load_g ?_ ?_); (· rfl))); first | refine lc hM ?_ | refine ll hM ?_ | refine lp hM ?_) | ((with_reducible refine at_store ?_); first | (refine ls hM ?_; clear hM; intro wx hM) | (refine lw hM ?_; clear hM; intro wx hM) | (refine lt hM ?_; clear hM; intro wx hM)) | ((with_reducible refine at_alloc ?_); refine lz hM ?_; clear hM; intro gx wx hM) | ((with_reducible refine at_box ?_); refine lb hM ?_; clear hM; intro gx wx hM))
    exact bodyPost_ret (results_mem_cell_tmp hM rfl (by rfl) (by repeat (first | exact List.Mem.head _ | apply List.Mem.tail)) (by first | exact row_cfg | exact row_win | exact row_line | exact row_end | exact row_ends | exact row_pkt | exact row_C | exact row_W | exact row_L | exact row_End | exact row_Ends | exact row_B | exact row_op | exact row_str2 | exact row_b3) (by rfl)) rfl ⟨_, _, _, _, rfl, HT2.out, hM.subL (List.Sublist.cons _ (List.Sublist.cons _ (List.Sublist.cons _ (List.Sublist.cons _ (List.Sublist.refl _)))))⟩
  · have HR := Lib.hid (fun (L : List Ent) (fp : List Nat) w' (h : Mem G w0 L (lineT fp p S :: refT T v :: R) w') => rrecv_in sd nn h (UpdR.tail _ (UpdR.head _ _)) (by have := (tie_rb hT (by omega)).a0; omega) (by have := (tie_rb hT (by omega)).a1; omega))
    have HS := Lib.hid (fun (L : List Ent) (fp : List Nat) (R' : List Thing) w' (h : Mem G w0 L (lineT fp p S :: R') w') => lrecv_in sd nn h hT.rel (by have := hT.fit.len; omega) (by have := hT.fit.len; omega))
    have HT2 := Lib.hid ((tie_recv hT sd nn).mono (C := B + 200) (by omega))
    generalize recvER sd nn = z at HR HS
    generalize recvTR T sd nn = tt at HR HS
    generalize recvSR T sd nn = T' at HR HT2
    generalize recvS S sd nn = S' at HS HT2
    clear hT htx hB
    go_wp2_with (first | ((with_reducible refine (HR.out _ _ _ hM).mono ?_); clear hM; rintro e w1 ⟨rfl, hM⟩) | ((with_reducible refine (HS.out _ _ _ _ hM).mono ?_); clear hM; rintro e w1 ⟨fp2, rfl, hM⟩) | ((first | with_reducible refine at_load ?_ | ((with_reducible refine at_load_g ?_ ?_); (· rfl))); first | refine lc hM ?_ | refine ll hM ?_ | refine lp hM ?_) | ((with_reducible refine at_store ?_); first | (refine ls hM ?_; clear hM; intro wx hM) | (refine lw hM ?_; clear hM; intro wx hM) | (refine lt hM ?_; clear hM; intro wx hM)) | ((with_reducible refine at_alloc ?_); refine lz hM ?_; clear hM; intro gx wx hM) | ((with_reducible refine at_box ?_); refine lb hM ?_; clear hM; intro gx wx hM))
    exact bodyPost_ret (results_mem_cell_tmp hM rfl (by rfl) (by repeat (first | exact List.Mem.head _ | apply List.Mem.tail)) (by first | exact row_cfg | exact row_win | exact row_line | exact row_end | exact row_ends | exact row_pkt | exact row_C | exact row_W | exact row_L | exact row_End | exact row_Ends | exact row_B | exact row_op | exact row_str2 | exact row_b3) (by rfl)) rfl ⟨_, _, _, _, rfl, HT2.out, hM.subL (List.Sublist.cons _ (List.Sublist.cons _ (List.Sublist.cons _ (List.Sublist.cons _ (List.Sublist.refl _)))))⟩
  · have hn1 := hT.fit.ok.now1
    have hn2 := hT.fit.ok.now2
    have HR := Lib.hid (fun (L : List Ent) (fp : List Nat) w' (h : Mem G w0 L (lineT fp p S :: refT T v :: R) w') => radv_in nn h (UpdR.tail _ (UpdR.head _ _)) (by rw [hT.rel.now]; omega) (by rw [hT.rel.now]; omega) (fun j hj => tie_rb (tie_minutes hT j (by rw [← hT.rel.now]; omega)) (by omega)))
    have HS := Lib.hid (fun (L : List Ent) (fp : List Nat) (R' : List Thing) w' (h : Mem G w0 L (lineT fp p S :: R') w') => ladv_in nn h hT)
    have HT2 := Lib.hid ((tie_adv hT nn).mono (C := B + 200) (by omega))
    generalize advE T nn = z at HR HS
    generalize advR T nn = T' at HR HT2
    generalize advS S nn = S' at HS HT2
    clear hT htx hB hn1 hn2
    go_upto_region 15 with (first | ((with_reducible refine (HR.out _ _ _ hM).mono ?_); clear hM; rintro e w1 ⟨v2, rfl, hM⟩) | ((first | with_reducible refine at_load ?_ | ((with_reducible refine at_load_g ?_ ?_); (· rfl))); first | refine lc hM ?_ | refine ll hM ?_ | refine lp hM ?_) | ((with_reducible refine at_store ?_); first | (refine ls hM ?_; clear hM; intro wx hM) | (refine lw hM ?_; clear hM; intro wx hM) | (refine lt hM ?_; clear hM; intro wx hM)) | ((with_reducible refine at_alloc ?_); refine lz hM ?_; clear hM; intro gx wx hM) | ((with_reducible refine at_box ?_); refine lb hM ?_; clear hM; intro gx wx hM))
    refine wp_region_allHM hM (HeldM [⟨gx, 66, 13, refCs T' v2⟩, ⟨g5, 52, 4, opCs ⟨kk, sd, tx, nn⟩⟩]) (by kernel_rfl) ?_
    clear hM
    intro wd hM
    have hS := HeldM.of (hM.subL (List.Sublist.cons_cons _ (List.Sublist.cons _ (List.Sublist.cons_cons _ (List.nil_sublist _)))))
    refine wpAllH_takes [0, 1, 2, 3, 5] (by kernel_rfl) (fun _ _ _ _ _ h => h) hS (by kernel_rfl) ?_
    simp only [pickOps, List.filterMap_cons, List.filterMap_nil, List.getElem?_cons_zero, List.getElem?_cons_succ]
    repeat ((with_reducible apply wpHeld_step); (· rfl); (· (intro w hSw; first | (go_simp; rfl) | ((obtain ⟨_, _, _, hM'⟩ := hSw; first | exact yields_load (C := fun _ => True) (qc hM') rfl | exact yields_load (C := fun _ => True) (ql hM') rfl)))); intro K hK; go_simp; (with_reducible refine hK _ ?_); clear hK K)
    refine wpHeld_nil ?_
    refine wpAllH_one 4 rfl (by kernel_rfl) ?_
    go_wp2_with fail
    refine (HS.out _ _ _ _ hM).mono ?_
    clear hM hS
    rintro e w1 ⟨fp2, rfl, hM⟩
    go_wp2_with fail
    have hS := HeldM.of (hM.subL (List.Sublist.cons_cons _ (List.Sublist.cons _ (List.Sublist.cons_cons _ (List.nil_sublist _)))))
    refine then_normal ⟨hS, ?_⟩
    refine wpAllH_takes [6] (by kernel_rfl) (fun _ _ _ _ _ h => h) hS (by kernel_rfl) ?_
    simp only [pickOps, List.filterMap_cons, List.filterMap_nil, List.getElem?_cons_zero, List.getElem?_cons_succ]
    repeat ((with_reducible apply wpHeld_step); (· rfl); (· (intro w hSw; first | (go_simp; rfl) | (fail))); intro K hK; go_simp; (with_reducible refine hK _ ?_); clear hK K)
    refine wpHeld_nil ?_
    refine wpAllH_one 7 rfl (by kernel_rfl) ?_
    refine lw hM ?_
    clear hM hS
    intro wx hM
    have hS := HeldM.of (hM.subL (List.Sublist.cons_cons _ (List.Sublist.cons _ (List.Sublist.cons_cons _ (List.nil_sublist _)))))
    refine wpList_then ⟨hS, ?_⟩
    refine wpAllH_takes [8] (by kernel_rfl) (fun _ _ _ _ _ h => h) hS (by kernel_rfl) ?_
    simp only [pickOps, List.filterMap_cons, List.filterMap_nil, List.getElem?_cons_zero, List.getElem?_cons_succ]
    repeat ((with_reducible apply wpHeld_step); (· rfl); (· (intro w hSw; first | (go_simp; rfl) | (fail))); intro K hK; go_simp; (with_reducible refine hK _ ?_); clear hK K)
    refine wpHeld_nil ?_
    refine wpAllH_done (by kernel_rfl) ?_
    go_wp2_with fail
    exact bodyPost_ret (results_mem_cell_tmp hM rfl (by rfl) (by repeat (first | exact List.Mem.head _ | apply List.Mem.tail)) (by first | exact row_cfg | exact row_win | exact row_line | exact row_end | exact row_ends | exact row_pkt | exact row_C | exact row_W | exact row_L | exact row_End | exact row_Ends | exact row_B | exact row_op | exact row_str2 | exact row_b3) (by rfl)) rfl ⟨_, _, _, _, rfl, HT2.out, hM.subL (List.Sublist.cons _ (List.Sublist.cons _ (List.Sublist.cons _ (List.Sublist.cons _ (List.Sublist.refl _)))))⟩
  · have hn1 := hT.fit.ok.now1
    have hn2 := hT.fit.ok.now2
    have HR := Lib.hid (fun (L : List Ent) (fp : List Nat) w' (h : Mem G w0 L (lineT fp p S :: refT T v :: R) w') => radv_in nn h (UpdR.tail _ (UpdR.head _ _)) (by rw [hT.rel.now]; omega) (by rw [hT.rel.now]; omega) (fun j hj => tie_rb (tie_minutes hT j (by rw [← hT.rel.now]; omega)) (by omega)))
    have HS := Lib.hid (fun (L : List Ent) (fp : List Nat) (R' : List Thing) w' (h : Mem G w0 L (lineT fp p S :: R') w') => ladv_in nn h hT)
    have HT2 := Lib.hid ((tie_adv hT nn).mono (C := B + 200) (by omega))
    generalize advE T nn = z at HR HS
    generalize advR T nn = T' at HR HT2
    generalize advS S nn = S' at HS HT2
    clear hT htx hB hn1 hn2
    go_upto_region 15 with (first | ((with_reducible refine (HR.out _ _ _ hM).mono ?_); clear hM; rintro e w1 ⟨v2, rfl, hM⟩) | ((first | with_reducible refine at_load ?_ | ((with_reducible refine at_load_g ?_ ?_); (· rfl))); first | refine lc hM ?_ | refine ll hM ?_ | refine lp hM ?_) | ((with_reducible refine at_store ?_); first | (refine ls hM ?_; clear hM; intro wx hM) | (refine lw hM ?_; clear hM; intro wx hM) | (refine lt hM ?_; clear hM; intro wx hM)) | ((with_reducible refine at_alloc ?_); refine lz hM ?_; clear hM; intro gx wx hM) | ((with_reducible refine at_box ?_); refine lb hM ?_; clear hM; intro gx wx hM))
    refine wp_region_allHM hM (HeldM [⟨gx, 66, 13, refCs T' v2⟩, ⟨g5, 52, 4, opCs ⟨kk, sd, tx, nn⟩⟩]) (by kernel_rfl) ?_
    clear hM
    intro wd hM
    have hS := HeldM.of (hM.subL (List.Sublist.cons_cons _ (List.Sublist.cons _ (List.Sublist.cons_cons _ (List.nil_sublist _)))))
    refine wpAllH_takes [0, 1, 2, 3, 5] (by kernel_rfl) (fun _ _ _ _ _ h => h) hS (by kernel_rfl) ?_
    simp only [pickOps, List.filterMap_cons, List.filterMap_nil, List.getElem?_cons_zero, List.getElem?_cons_succ]
    repeat ((with_reducible apply wpHeld_step); (· rfl); (· (intro w hSw; first | (go_simp; rfl) | ((obtain ⟨_, _, _, hM'⟩ := hSw; first | exact yields_load (C := fun _ => True) (qc hM') rfl | exact yields_load (C := fun _ => True) (ql hM') rfl)))); intro K hK; go_simp; (with_reducible refine hK _ ?_); clear hK K)
    refine wpHeld_nil ?_
    refine wpAllH_one 4 rfl (by kernel_rfl) ?_
    go_wp2_with fail
    refine (HS.out _ _ _ _ hM).mono ?_
    clear hM hS
    rintro e w1 ⟨fp2, rfl, hM⟩
    go_wp2_with fail
    have hS := HeldM.of (hM.subL (List.Sublist.cons_cons _ (List.Sublist.cons _ (List.Sublist.cons_cons _ (List.nil_sublist _)))))
    refine then_normal ⟨hS, ?_⟩
    refine wpAllH_takes [6] (by kernel_rfl) (fun _ _ _ _ _ h => h) hS (by kernel_rfl) ?_
    simp only [pickOps, List.filterMap_cons, List.filterMap_nil, List.getElem?_cons_zero, List.getElem?_cons_succ]
    repeat ((with_reducible apply wpHeld_step); (· rfl); (· (intro w hSw; first | (go_simp; rfl) | (fail))); intro K hK; go_simp; (with_reducible refine hK _ ?_); clear hK K)
    refine wpHeld_nil ?_
    refine wpAllH_one 7 rfl (by kernel_rfl) ?_
    refine lw hM ?_
    clear hM hS
    intro wx hM
    have hS := HeldM.of (hM.subL (List.Sublist.cons_cons _ (List.Sublist.cons _ (List.Sublist.cons_cons _ (List.nil_sublist _)))))
    refine wpList_then ⟨hS, ?_⟩
    refine wpAllH_takes [8] (by kernel_rfl) (fun _ _ _ _ _ h => h) hS (by kernel_rfl) ?_
    simp only [pickOps, List.filterMap_cons, List.filterMap_nil, List.getElem?_cons_zero, List.getElem?_cons_succ]
    repeat ((with_reducible apply wpHeld_step); (· rfl); (· (intro w hSw; first | (go_simp; rfl) | (fail))); intro K hK; go_simp; (with_reducible refine hK _ ?_); clear hK K)
    refine wpHeld_nil ?_
    refine wpAllH_done (by kernel_rfl) ?_
    go_wp2_with fail
    exact bodyPost_ret (results_mem_cell_tmp hM rfl (by rfl) (by repeat (first | exact List.Mem.head _ | apply List.Mem.tail)) (by first | exact row_cfg | exact row_win | exact row_line | exact row_end | exact row_ends | exact row_pkt | exact row_C | exact row_W | exact row_L | exact row_End | exact row_Ends | exact row_B | exact row_op | exact row_str2 | exact row_b3) (by rfl)) rfl ⟨_, _, _, _, rfl, HT2.out, hM.subL (List.Sublist.cons _ (List.Sublist.cons _ (List.Sublist.cons _ (List.Sublist.cons _ (List.Sublist.refl _)))))⟩
  · have HR := Lib.hid (fun (L : List Ent) (fp : List Nat) w' (h : Mem G w0 L (lineT fp p S :: refT T v :: R) w') => rdrop_in h (UpdR.tail _ (UpdR.head _ _)))
    have HS := Lib.hid (fun (L : List Ent) (fp : List Nat) (R' : List Thing) w' (h : Mem G w0 L (lineT fp p S :: R') w') => ldrop_in h hT.rel)
    have HT2 := Lib.hid ((tie_drop hT).mono (C := B + 200) (by omega))
    generalize (if T.up then (0 : Int) else 26) = z at HR HS
    generalize (if T.up then downR T else T) = T' at HR HT2
    generalize (if S.up then downS S else S) = S' at HS HT2
    clear hT htx hB
    go_upto_region 17 with (first | ((with_reducible refine (HR.out _ _ _ hM).mono ?_); clear hM; rintro e w1 ⟨v2, rfl, hM⟩) | ((first | with_reducible refine at_load ?_ | ((with_reducible refine at_load_g ?_ ?_); (· rfl))); first | refine lc hM ?_ | refine ll hM ?_ | refine lp hM ?_) | ((with_reducible refine at_store ?_); first | (refine ls hM ?_; clear hM; intro wx hM) | (refine lw hM ?_; clear hM; intro wx hM) | (refine lt hM ?_; clear hM; intro wx hM)) | ((with_reducible refine at_alloc ?_); refine lz hM ?_; clear hM; intro gx wx hM) | ((with_reducible refine at_box ?_); refine lb hM ?_; clear hM; intro gx wx hM))
    refine wp_region_allHM hM (HeldM [⟨gx, 66, 13, refCs T' v2⟩]) (by kernel_rfl) ?_
    clear hM
    intro wd hM
    have hS := HeldM.of (hM.subL (List.Sublist.cons_cons _ (List.nil_sublist _)))
    refine wpAllH_takes [0, 1, 3] (by kernel_rfl) (fun _ _ _ _ _ h => h) hS (by kernel_rfl) ?_
    simp only [pickOps, List.filterMap_cons, List.filterMap_nil, List.getElem?_cons_zero, List.getElem?_cons_succ]
    repeat ((with_reducible apply wpHeld_step); (· rfl); (· (intro w hSw; first | (go_simp; rfl) | ((obtain ⟨_, _, _, hM'⟩ := hSw; first | exact yields_load (C := fun _ => True) (qc hM') rfl | exact yields_load (C := fun _ => True) (ql hM') rfl)))); intro K hK; go_simp; (with_reducible refine hK _ ?_); clear hK K)
    refine wpHeld_nil ?_
    refine wpAllH_one 2 rfl (by kernel_rfl) ?_
    go_wp2_with fail
    refine (HS.out _ _ _ _ hM).mono ?_
    clear hM hS
    rintro e w1 ⟨fp2, rfl, hM⟩
    go_wp2_with fail
    have hS := HeldM.of (hM.subL (List.Sublist.cons_cons _ (List.nil_sublist _)))
    refine then_normal ⟨hS, ?_⟩
    refine wpAllH_takes [4] (by kernel_rfl) (fun _ _ _ _ _ h => h) hS (by kernel_rfl) ?_
    simp only [pickOps, List.filterMap_cons, List.filterMap_nil, List.getElem?_cons_zero, List.getElem?_cons_succ]
    repeat ((with_reducible apply wpHeld_step); (· rfl); (· (intro w hSw; first | (go_simp; rfl) | (fail))); intro K hK; go_simp; (with_reducible refine hK _ ?_); clear hK K)
    refine wpHeld_nil ?_
    refine wpAllH_one 5 rfl (by kernel_rfl) ?_
    refine lw hM ?_
    clear hM hS
    intro wx hM
    have hS := HeldM.of (hM.subL (List.Sublist.cons_cons _ (List.nil_sublist _)))
    refine wpList_then ⟨hS, ?_⟩
    refine wpAllH_takes [6] (by kernel_rfl) (fun _ _ _ _ _ h => h) hS (by kernel_rfl) ?_
    simp only [pickOps, List.filterMap_cons, List.filterMap_nil, List.getElem?_cons_zero, List.getElem?_cons_succ]
    repeat ((with_reducible apply wpHeld_step); (· rfl); (· (intro w hSw; first | (go_simp; rfl) | (fail))); intro K hK; go_simp; (with_reducible refine hK _ ?_); clear hK K)
    refine wpHeld_nil ?_
    refine wpAllH_done (by kernel_rfl) ?_
    go_wp2_with fail
    exact bodyPost_ret (results_mem_cell_tmp hM rfl (by rfl) (by repeat (first | exact List.Mem.head _ | apply List.Mem.tail)) (by first | exact row_cfg | exact row_win | exact row_line | exact row_end | exact row_ends | exact row_pkt | exact row_C | exact row_W | exact row_L | exact row_End | exact row_Ends | exact row_B | exact row_op | exact row_str2 | exact row_b3) (by rfl)) rfl ⟨_, _, _, _, rfl, HT2.out, hM.subL (List.Sublist.cons _ (List.Sublist.cons _ (List.Sublist.cons _ (List.Sublist.cons _ (List.Sublist.refl _)))))⟩
end Go.Proofs.Ytenflgbaibjeoaa
namespace Go.Proofs.Ytenflgbaibjeoaa
open Go Go.RowKit Go.Bul Go.Thg Go.Lin
section
variable {G : List Nat} {w0 w : World} {L : List Ent} {R : List Thing} {p : Nat} {S : Ln}
theorem swait_0 (h : HasLine G w0 L R p S w) : Calls Try.prog 36 #[.pointer (some ⟨p, 0, none⟩), .int .i64 0] w fun e w' => e = .returned (.int .i64 (S.e0.wait.length : Nat)) ∧ w = w' := waiting_any 0 h
theorem swait_1 (h : HasLine G w0 L R p S w) : Calls Try.prog 36 #[.pointer (some ⟨p, 0, none⟩), .int .i64 1] w fun e w' => e = .returned (.int .i64 (S.e1.wait.length : Nat)) ∧ w = w' := waiting_any 1 h
theorem swait_2 (h : HasLine G w0 L R p S w) : Calls Try.prog 36 #[.pointer (some ⟨p, 0, none⟩), .int .i64 2] w fun e w' => e = .returned (.int .i64 0) ∧ w = w' := waiting_any 2 h
end
set_option maxRecDepth 20000 in
set_option maxHeartbeats 40000000 in
theorem state_any {w w0 : World} {G : List Nat} {L : List Ent} {R : List Thing} {S : Ln} {T : RL} {v : RV} {fp : List Nat} {p B : Nat} (hM : Mem G w0 L (lineT fp p S :: R) w) (hT : Tie B S T) (hB : B ≤ 100000) :
    Calls Try.prog 35 #[.pointer (some ⟨p, 0, none⟩), .agg (refCs T v)] w fun e w' => e = .returned (.bool true) ∧ Mem G w0 L (lineT fp p S :: R) w' := by
  have HN := Lib.hid (fun (L : List Ent) w' (h : Mem G w0 L (lineT fp p S :: R) w') => quiet_mem_call_same h (now_any (HasLine.of h)))
  have HU := Lib.hid (fun (L : List Ent) w' (h : Mem G w0 L (lineT fp p S :: R) w') => quiet_mem_call_same h (up_any (HasLine.of h)))
  have HS := Lib.hid (fun (L : List Ent) w' (h : Mem G w0 L (lineT fp p S :: R) w') => quiet_mem_call_same h (ses_any (HasLine.of h)))
  have HW0 := Lib.hid (fun (L : List Ent) w' (h : Mem G w0 L (lineT fp p S :: R) w') => quiet_mem_call_same h (swait_0 (HasLine.of h)))
  have HW1 := Lib.hid (fun (L : List Ent) w' (h : Mem G w0 L (lineT fp p S :: R) w') => quiet_mem_call_same h (swait_1 (HasLine.of h)))
  have HW2 := Lib.hid (fun (L : List Ent) w' (h : Mem G w0 L (lineT fp p S :: R) w') => quiet_mem_call_same h (swait_2 (HasLine.of h)))
  have hl := hT.fit.len
  have HY0 := Lib.hid (fun (L : List Ent) w' (h : Mem G w0 L (lineT fp p S :: R) w') => quiet_mem_call h (under_0 (HasLine.of h) (by omega) hT.fit.ok.w0))
  have HY1 := Lib.hid (fun (L : List Ent) w' (h : Mem G w0 L (lineT fp p S :: R) w') => quiet_mem_call h (under_1 (HasLine.of h) (by omega) hT.fit.ok.w1))
  have HYN := Lib.hid (fun (L : List Ent) w' (h : Mem G w0 L (lineT fp p S :: R) w') => quiet_mem_call_same h (under_no (-1) (HasLine.of h) (by decide) (by decide)))
  have e1 : T.now = S.now := hT.rel.now
  have e2 : T.up = S.up := hT.rel.up
  have e3 : T.ses = S.ses := hT.rel.ses
  have e4 : (bstr T.w0).size = S.e0.wait.length := by rw [bstr_size, hT.rel.w0]
  have e5 : (bstr T.w1).size = S.e1.wait.length := by rw [bstr_size, hT.rel.w1]
  have e6 : T.y0.length = wb S.e0.way := by rw [hT.rel.y0, spread_length]
  have e7 : T.y1.length = wb S.e1.way := by rw [hT.rel.y1, spread_length]
  obtain ⟨r, d, q, ws, now, up, ses, u0, y0, a0, u1, y1, a1⟩ := T
  obtain ⟨vA, vc, vy0, vc0, vy1, vc1⟩ := v
  simp only at e1 e2 e3 e4 e5 e6 e7
  show Calls _ _ #[_, .agg #[.int .i64 r, .int .i64 d, .int .i64 q, .slice vA ws.length vc, .int .i64 now, .bool up, .int .i64 ses, .string (bstr u0), .slice vy0 y0.length vc0, .string (bstr a0), .string (bstr u1), .slice vy1 y1.length vc1, .string (bstr a1)]] _ _
  generalize S.now = nw at HN e1
  generalize S.up = uu at HU e2
  generalize S.ses = ss at HS e3
  generalize S.e0.wait.length = l0 at HW0 e4
  generalize S.e1.wait.length = l1 at HW1 e5
  generalize wb S.e0.way = l2 at HY0 e6
  generalize wb S.e1.way = l3 at HY1 e7
  subst e1 e2 e3
  rw [e6, e7]
  clear hT hB hl e6 e7
  go_enter Try.func35, Try.ntmps35
  go_wp2_with (first | ((first | with_reducible refine at_load ?_ | ((with_reducible refine at_load_g ?_ ?_); (· rfl))); first | refine lc hM ?_ | refine ll hM ?_ | refine lp hM ?_) | ((with_reducible refine at_store ?_); first | (refine ls hM ?_; clear hM; intro wx hM) | (refine lw hM ?_; clear hM; intro wx hM) | (refine lt hM ?_; clear hM; intro wx hM)) | ((with_reducible refine at_alloc ?_); refine lz hM ?_; clear hM; intro gx wx hM) | ((with_reducible refine at_box ?_); refine lb hM ?_; clear hM; intro gx wx hM))
  refine Go.Bul.wp_region_class (Mem _ w0 _ _) (by kernel_rfl) (by kernel_rfl) hM.drew ?_
  repeat ((with_reducible refine wpQuiet_step (fun K hK => ?_)); (first | ((first | ((with_reducible refine quiet_some ?_ ?_); (· rfl)) | ((with_reducible refine quiet_wanted ?_ ?_); (· rfl))); apply Exists.intro; refine ⟨fun w' hM' => ?_, ?_⟩; (· first | (go_simp; rfl) | exact qc hM' | (go_simp; with_reducible refine at_calls ?_; first | exact HN.out _ _ hM' | exact HU.out _ _ hM' | exact HS.out _ _ hM' | exact HW2.out _ _ hM' | exact HYN.out _ _ hM') | exact ql hM' | exact qp hM')) | ((with_reducible refine quiet_unwanted ?_ ?_); (· rfl))); go_simp; (with_reducible refine hK _ ?_); clear hK K)
  refine wpQuiet_nil ?_
  intro wx hM
  go_wp2_with (first | ((first | with_reducible refine at_load ?_ | ((with_reducible refine at_load_g ?_ ?_); (· rfl))); first | refine lc hM ?_ | refine ll hM ?_ | refine lp hM ?_) | ((with_reducible refine at_store ?_); first | (refine ls hM ?_; clear hM; intro wx hM) | (refine lw hM ?_; clear hM; intro wx hM) | (refine lt hM ?_; clear hM; intro wx hM)) | ((with_reducible refine at_alloc ?_); refine lz hM ?_; clear hM; intro gx wx hM) | ((with_reducible refine at_box ?_); refine lb hM ?_; clear hM; intro gx wx hM))
  refine wp_loop_rounds 3 ?_
  rw [rounds_succ]
  go_wp2_with (first | ((first | with_reducible refine at_load ?_ | ((with_reducible refine at_load_g ?_ ?_); (· rfl))); first | refine lc hM ?_ | refine ll hM ?_ | refine lp hM ?_) | ((with_reducible refine at_store ?_); first | (refine ls hM ?_; clear hM; intro wx hM) | (refine lw hM ?_; clear hM; intro wx hM) | (refine lt hM ?_; clear hM; intro wx hM)) | ((with_reducible refine at_alloc ?_); refine lz hM ?_; clear hM; intro gx wx hM) | ((with_reducible refine at_box ?_); refine lb hM ?_; clear hM; intro gx wx hM))
  refine Go.Bul.wp_region_class (Mem _ w0 _ _) (by kernel_rfl) (by kernel_rfl) hM.drew ?_
  repeat ((with_reducible refine wpQuiet_step (fun K hK => ?_)); (first | ((first | ((with_reducible refine quiet_some ?_ ?_); (· rfl)) | ((with_reducible refine quiet_wanted ?_ ?_); (· rfl))); apply Exists.intro; refine ⟨fun w' hM' => ?_, ?_⟩; (· first | (go_simp; rfl) | exact qc hM' | (go_simp; with_reducible refine at_calls ?_; first | exact HW0.out _ _ hM' | exact HY0.out _ _ hM') | exact ql hM' | exact qp hM')) | ((with_reducible refine quiet_unwanted ?_ ?_); (· rfl))); go_simp; (with_reducible refine hK _ ?_); clear hK K)
  refine wpQuiet_nil ?_
  intro wx hM
  go_wp2_with (first | ((first | with_reducible refine at_load ?_ | ((with_reducible refine at_load_g ?_ ?_); (· rfl))); first | refine lc hM ?_ | refine ll hM ?_ | refine lp hM ?_) | ((with_reducible refine at_store ?_); first | (refine ls hM ?_; clear hM; intro wx hM) | (refine lw hM ?_; clear hM; intro wx hM) | (refine lt hM ?_; clear hM; intro wx hM)) | ((with_reducible refine at_alloc ?_); refine lz hM ?_; clear hM; intro gx wx hM) | ((with_reducible refine at_box ?_); refine lb hM ?_; clear hM; intro gx wx hM))
  rw [rounds_succ]
  go_wp2_with (first | ((first | with_reducible refine at_load ?_ | ((with_reducible refine at_load_g ?_ ?_); (· rfl))); first | refine lc hM ?_ | refine ll hM ?_ | refine lp hM ?_) | ((with_reducible refine at_store ?_); first | (refine ls hM ?_; clear hM; intro wx hM) | (refine lw hM ?_; clear hM; intro wx hM) | (refine lt hM ?_; clear hM; intro wx hM)) | ((with_reducible refine at_alloc ?_); refine lz hM ?_; clear hM; intro gx wx hM) | ((with_reducible refine at_box ?_); refine lb hM ?_; clear hM; intro gx wx hM))
  refine Go.Bul.wp_region_class (Mem _ w0 _ _) (by kernel_rfl) (by kernel_rfl) hM.drew ?_
  repeat ((with_reducible refine wpQuiet_step (fun K hK => ?_)); (first | ((first | ((with_reducible refine quiet_some ?_ ?_); (· rfl)) | ((with_reducible refine quiet_wanted ?_ ?_); (· rfl))); apply Exists.intro; refine ⟨fun w' hM' => ?_, ?_⟩; (· first | (go_simp; rfl) | exact qc hM' | (go_simp; with_reducible refine at_calls ?_; first | exact HW1.out _ _ hM' | exact HY1.out _ _ hM') | exact ql hM' | exact qp hM')) | ((with_reducible refine quiet_unwanted ?_ ?_); (· rfl))); go_simp; (with_reducible refine hK _ ?_); clear hK K)
  refine wpQuiet_nil ?_
  intro wx hM
  go_wp2_with (first | ((first | with_reducible refine at_load ?_ | ((with_reducible refine at_load_g ?_ ?_); (· rfl))); first | refine lc hM ?_ | refine ll hM ?_ | refine lp hM ?_) | ((with_reducible refine at_store ?_); first | (refine ls hM ?_; clear hM; intro wx hM) | (refine lw hM ?_; clear hM; intro wx hM) | (refine lt hM ?_; clear hM; intro wx hM)) | ((with_reducible refine at_alloc ?_); refine lz hM ?_; clear hM; intro gx wx hM) | ((with_reducible refine at_box ?_); refine lb hM ?_; clear hM; intro gx wx hM))
  rw [rounds_succ]
  go_wp2_with (first | ((first | with_reducible refine at_load ?_ | ((with_reducible refine at_load_g ?_ ?_); (· rfl))); first | refine lc hM ?_ | refine ll hM ?_ | refine lp hM ?_) | ((with_reducible refine at_store ?_); first | (refine ls hM ?_; clear hM; intro wx hM) | (refine lw hM ?_; clear hM; intro wx hM) | (refine lt hM ?_; clear hM; intro wx hM)) | ((with_reducible refine at_alloc ?_); refine lz hM ?_; clear hM; intro gx wx hM) | ((with_reducible refine at_box ?_); refine lb hM ?_; clear hM; intro gx wx hM))
  go_ret
  exact ⟨rfl, hM.subL (List.sublist_cons_self _ _)⟩
end Go.Proofs.Ytenflgbaibjeoaa
