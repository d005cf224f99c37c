/- Seat c: Divide at a body of printed lines. -/
import Derived.Test.YtlidpdjainmaiaaGreatDoorGzh
namespace Go.Bul
open Go
def onlyN (Q : Exit → Act → World → Prop) : Exit → Act → World → Prop
  | .normal, a, w => Q .normal a w
  | _, _, _ => False
theorem wp_onlyN {P : Program} {c : Code} {Q : Exit → Act → World → Prop} {a : Act} {w : World} (h : c.wp P (onlyN Q) a w) : c.wp P Q a w :=
  wp_mono h (fun e a w he => by cases e <;> first | exact he | exact he.elim)
end Go.Bul
namespace Go.Cht
open Go Go.Bul
theorem prL_not (l : Ln) : ((bstr (prL l)).toList == [45, 45, 32]) = false := by
  rw [beq_eq_false_iff_ne]
  intro h
  have h1 : (bstr (prL l)).data.toList = [45, 45, 32] := by rw [← Lib.toList_data]; exact h
  rw [bstr_toList] at h1
  simp [prL] at h1
end Go.Cht
namespace Go.Proofs.YtlidpdjainmaiaaGreatDoor
open Go Go.RowKit Go.Bul Go.Thg Go.Lin Go.Cht
theorem results_mem_cc {P : Program} {w w0 : World} {G : List Nat} {L : List Ent} {R : List Thing} (hM : Mem G w0 L R w) {fn : Func} {p p2 : Tmp} {ty : TypeId} (h : fn.results = #[.cell p ty, .cell p2 ty]) {tmps : Array Value} {g g2 : Nat} (hp : tmps.getD p undef = .pointer (some ⟨g, 0, none⟩)) (hp2 : tmps.getD p2 undef = .pointer (some ⟨g2, 0, none⟩)) {t t2 : TypeId} {n n2 : Nat} {cs cs2 : Array Value}
    (hL : ⟨g, t, n, cs⟩ ∈ L) (hL2 : ⟨g2, t2, n2, cs2⟩ ∈ L) (hty : OneTy P ty) {v v2 : Value} (hv : cs[0]? = some v) (hv2 : cs2[0]? = some v2) : (results fn tmps).run P w = .ok (.tuple #[v, v2]) w := by
  have hl := run_one_load (P := P) hty (((hM.blk hL).cell 0).trans hv)
  have hl2 := run_one_load (P := P) hty (((hM.blk hL2).cell 0).trans hv2)
  rw [Array.getD_eq_getD_getElem?] at hp hp2
  simp [results, h, hp, hp2, asAddr, hl, hl2]
set_option maxRecDepth 100000 in
set_option maxHeartbeats 4000000 in
theorem divide_any (s : ByteArray) (ls : List Ln) (hs : nums s = bodyL ls) (hok : ∀ l ∈ ls, OkL l) (hsz : s.size ≤ 100000000) (w : World) : Calls Tryz.prog 54 #[.string s] w fun e w' => e = .returned (.tuple #[.string s, .string ⟨#[]⟩]) ∧ Below w.heap.size w w' := by
  have hM := Mem.start [] w
  have HRU := Lib.hid (alines_any s)
  have HS := Lib.hid hs
  have HOK := Lib.hid hok
  obtain ⟨m, hm⟩ : ∃ m, s.size = m := ⟨_, rfl⟩
  have hsz9 : s.size ≤ 1000000000 := by omega
  have m0 : (0 : Int) ≤ (m : Int) := Int.natCast_nonneg _
  have m9 : (m : Int) ≤ 100000000 := by omega
  have HBL := Lib.hid (show (bodyL ls).length = m by rw [← hs, nums_length, hm])
  clear hs hok hsz
  refine (callsIn_wide (n := 3)).1 ?_
  refine callsIn_of_wp_marks Tryz.func54 rfl trivial ?_ rfl
  refine wpIn_wide.2 ?_
  simp only [Tryz.ntmps54, List.size_toArray, List.length_cons, List.length_nil, Nat.reduceAdd, Nat.reduceSub, Array.replicate_succ, Array.replicate_zero, List.push_toArray, List.append_toArray, List.nil_append, List.cons_append]
  go_wp2_with (first | ((with_reducible refine at_box ?_); refine nlx (v := .string s) hM ?_; clear hM; intro gbd wx hM; refine nlz hM ?_ (hz := zero_str); clear hM; intro gtx wy hM; refine nlz hM ?_ (hz := zero_str); clear hM; intro gsg wz hM) | ((with_reducible refine (HRU.out _).mono ?_); rintro e w1 ⟨gs, rfl, hA1⟩; replace hM := hM.frame hA1; clear hA1; simp only [List.cons_append, List.nil_append] at hM) | ((first | with_reducible refine at_load ?_ | ((with_reducible refine at_load_g ?_ ?_); (· rfl))); first | refine nll hM ?_ | refine nlc hM ?_ | refine nlp hM ?_) | ((with_reducible refine at_store ?_); first | (refine nlw hM ?_; clear hM; intro wx hM) | (refine nls hM ?_; clear hM; intro wx hM) | (refine nlt hM ?_; clear hM; intro wx hM)) | ((with_reducible refine at_alloc ?_); refine nlz hM ?_; clear hM; intro gx wx hM) | ((with_reducible refine at_box ?_); first | (refine nlb hM ?_; clear hM; intro gx wx hM) | (refine nlx hM ?_; clear hM; intro gx wx hM)))
  obtain ⟨D, hD⟩ : ∃ D, w1.heap.size = D := ⟨_, rfl⟩
  refine (wpIn_wide (n := 3)).1 ?_
  refine rangeFunc_of 2 rfl (enters_of Tryz.func76 (by kernel_rfl) rfl) ?_
  intro rec hR2
  have hM2 := hM.loopNew (rec .ready none)
  clear hM
  rw [hD] at hM2 ⊢
  clear hD
  obtain ⟨l, hl⟩ : ∃ l, D + 1 = l := ⟨_, rfl⟩
  rw [hl] at hM2 ⊢
  clear hl
  refine (alines_in l gs s ls HS.out HOK.out hsz9 (fun q : Nat => ⟨gs, 9, 1, #[.string s]⟩ :: ⟨gx, 3, 1, #[.int .i64 (q : Nat)]⟩ :: ⟨gsg, 9, 1, #[.string ⟨#[]⟩]⟩ :: ⟨gtx, 9, 1, #[.string s]⟩ :: ⟨gbd, 9, 1, #[.string s]⟩ :: []) (fun _ => objT l (.loop (rec .ready none)) :: objT D (.deferred (some [])) :: []) (fun q k => Hid (q = (bodyL (ls.take k)).length)) (fun _ => False) 0 (Lib.hid rfl) hM2 (fun _ => .head _) ?yield).mono ?after
  case yield =>
    intro q k W hk hinv hM
    refine round_goes hR2 hM.loopAt rfl ?_
    refine wpIn_round_lit (k := l) (by rintro ⟨_, _, h⟩; exact h) (by rfl) ?_
    go_wp2_with fail
    refine ⟨hM.loopAt, ?_⟩
    replace hM := hM.loopPut (rec .busy none)
    generalize World.putObj _ l (Obj.loop (rec LoopState.busy none)) = wy at hM ⊢
    have hpl : (prL ls[k]).length ≤ m := by
      have h1 := body_drop hk
      have h2 := congrArg List.length h1
      rw [List.length_drop, List.length_append, HBL.out] at h2
      omega
    have hq := hinv.out
    have hdr := body_drop hk
    rw [← hq] at hdr
    have hqm := drop_len (l := bodyL ls) hdr (by simp [prL])
    rw [HBL.out, List.length_cons] at hqm
    obtain ⟨p, hp⟩ : ∃ p, (prL ls[k]).length = p := ⟨_, rfl⟩
    rw [hp] at hqm
    have hps : (bstr (prL ls[k])).size = p := by rw [bstr_size, hp]
    have hne : ((bstr (prL ls[k])).toList == [45, 45, 32]) = false := prL_not ls[k]
    have HQ := Lib.hid (show q + p + 1 = (bodyL (ls.take (k + 1))).length by rw [bodyL_take hk, List.length_append, List.length_append, hp, ← hq]; rfl)
    have q0 : (0 : Int) ≤ (q : Int) := Int.natCast_nonneg _
    have p0 : (0 : Int) ≤ (p : Int) := Int.natCast_nonneg _
    have qm : (q : Int) + (p : Int) + 1 ≤ (m : Int) := by omega
    have hmin : min ((q : Int) + (p : Int) + 1) (m : Int) = (q : Int) + (p : Int) + 1 := by omega
    clear hpl hq hdr hqm hinv hp
    go_simp
    gi_wp2_with (refine wpListIn_round (by rintro ⟨_, _, h⟩; exact h) _ _ _ (by rfl) ?_)
    go_wp2_with (first | ((first | with_reducible refine at_load ?_ | ((with_reducible refine at_load_g ?_ ?_); (· rfl))); first | refine nll hM ?_ | refine nlc hM ?_ | refine nlp hM ?_) | ((with_reducible refine at_store ?_); first | (refine nlw hM ?_; clear hM; intro wx hM) | (refine nls hM ?_; clear hM; intro wx hM) | (refine nlt hM ?_; clear hM; intro wx hM)) | ((with_reducible refine at_alloc ?_); refine nlz hM ?_; clear hM; intro gx wx hM) | ((with_reducible refine at_box ?_); first | (refine nlb hM ?_; clear hM; intro gx wx hM) | (refine nlx hM ?_; clear hM; intro gx wx hM)))
    gi_wp2_with (refine wpListIn_round (by rintro ⟨_, _, h⟩; exact h) _ _ _ (by rfl) ?_)
    go_wp2_with (first | ((first | with_reducible refine at_load ?_ | ((with_reducible refine at_load_g ?_ ?_); (· rfl))); first | refine nll hM ?_ | refine nlc hM ?_ | refine nlp hM ?_) | ((with_reducible refine at_store ?_); first | (refine nlw hM ?_; clear hM; intro wx hM) | (refine nls hM ?_; clear hM; intro wx hM) | (refine nlt hM ?_; clear hM; intro wx hM)) | ((with_reducible refine at_alloc ?_); refine nlz hM ?_; clear hM; intro gx wx hM) | ((with_reducible refine at_box ?_); first | (refine nlb hM ?_; clear hM; intro gx wx hM) | (refine nlx hM ?_; clear hM; intro gx wx hM)))
    gi_wp2_with (refine wpListIn_round (by rintro ⟨_, _, h⟩; exact h) _ _ _ (by rfl) ?_)
    go_wp2_with (first | ((first | with_reducible refine at_load ?_ | ((with_reducible refine at_load_g ?_ ?_); (· rfl))); first | refine nll hM ?_ | refine nlc hM ?_ | refine nlp hM ?_) | ((with_reducible refine at_store ?_); first | (refine nlw hM ?_; clear hM; intro wx hM) | (refine nls hM ?_; clear hM; intro wx hM) | (refine nlt hM ?_; clear hM; intro wx hM)) | ((with_reducible refine at_alloc ?_); refine nlz hM ?_; clear hM; intro gx wx hM) | ((with_reducible refine at_box ?_); first | (refine nlb hM ?_; clear hM; intro gx wx hM) | (refine nlx hM ?_; clear hM; intro gx wx hM)))
    gi_wp2_with fail
    refine ⟨hM.loopAt, rfl, q + p + 1, HQ, ?_⟩
    simp only [Int.natCast_add, Int.natCast_one]
    exact hM.loopPut _
  case after =>
    rintro e W ⟨⟨v, rfl⟩, ⟨q, hinv, hM⟩ | hF⟩
    · refine ⟨⟨v, rfl⟩, .inl ⟨hM.loopAt, ?_⟩⟩
      replace hM := hM.loopPut (rec .exhausted none)
      generalize World.putObj _ l (Obj.loop (rec LoopState.exhausted none)) = wy at hM ⊢
      clear hinv
      go_wp2_with (first | ((first | with_reducible refine at_load ?_ | ((with_reducible refine at_load_g ?_ ?_); (· rfl))); first | refine nll hM ?_ | refine nlc hM ?_ | refine nlp hM ?_) | ((with_reducible refine at_store ?_); first | (refine nlw hM ?_; clear hM; intro wx hM) | (refine nls hM ?_; clear hM; intro wx hM) | (refine nlt hM ?_; clear hM; intro wx hM)) | ((with_reducible refine at_alloc ?_); refine nlz hM ?_; clear hM; intro gx wx hM) | ((with_reducible refine at_box ?_); first | (refine nlb hM ?_; clear hM; intro gx wx hM) | (refine nlx hM ?_; clear hM; intro gx wx hM)))
      refine wp_onlyN ?_
      refine wp_region_allN hM (by kernel_rfl) ?_
      clear hM
      intro wd hM
      refine wpAll_two 0 1 rfl rfl (by kernel_rfl) ?_ ?_
      · refine nlc hM ?_
        refine wpList_then ?_
        go_simp
        refine wpAll_two 1 2 rfl rfl (by kernel_rfl) ?_ ?_
        · refine nlc hM ?_
          refine wpList_then ?_
          go_simp
          refine wpAll_seq [2, 3] (by kernel_rfl) ?_
          simp only [pickOps, List.filterMap_cons, List.filterMap_nil, List.getElem?_cons_zero, List.getElem?_cons_succ]
          repeat (first | ((first | ((first | with_reducible refine at_load ?_ | ((with_reducible refine at_load_g ?_ ?_); (· rfl))); first | refine nll hM ?_ | refine nlc hM ?_ | refine nlp hM ?_) | ((with_reducible refine at_store ?_); first | (refine nlw hM ?_; clear hM; intro wx hM) | (refine nls hM ?_; clear hM; intro wx hM) | (refine nlt hM ?_; clear hM; intro wx hM)) | ((with_reducible refine at_alloc ?_); refine nlz hM ?_; clear hM; intro gx wx hM) | ((with_reducible refine at_box ?_); first | (refine nlb hM ?_; clear hM; intro gx wx hM) | (refine nlx hM ?_; clear hM; intro gx wx hM))); go_simp) | ((with_reducible apply wpList_pure); (· rfl); (· (go_simp; rfl)); go_simp))
          refine wpList_end ?_
          simp only [onlyN]
          go_wp2_with fail
          refine leaves_marks (by simp) (fun w' hM' => ?_) [D] _ (hM.subR (List.sublist_cons_self _ _))
          exact ⟨_, results_mem_cc hM' rfl (by rfl) (by rfl) (.tail _ (.tail _ (.tail _ (.head _)))) (.tail _ (.tail _ (.head _))) one_str rfl rfl, rfl, hM'.below⟩
        · refine nls hM ?_
          clear hM
          intro wx hM
          refine wpList_then ?_
          go_simp
          refine wpAll_seq [1, 3] (by kernel_rfl) ?_
          simp only [pickOps, List.filterMap_cons, List.filterMap_nil, List.getElem?_cons_zero, List.getElem?_cons_succ]
          repeat (first | ((first | ((first | with_reducible refine at_load ?_ | ((with_reducible refine at_load_g ?_ ?_); (· rfl))); first | refine nll hM ?_ | refine nlc hM ?_ | refine nlp hM ?_) | ((with_reducible refine at_store ?_); first | (refine nlw hM ?_; clear hM; intro wx hM) | (refine nls hM ?_; clear hM; intro wx hM) | (refine nlt hM ?_; clear hM; intro wx hM)) | ((with_reducible refine at_alloc ?_); refine nlz hM ?_; clear hM; intro gx wx hM) | ((with_reducible refine at_box ?_); first | (refine nlb hM ?_; clear hM; intro gx wx hM) | (refine nlx hM ?_; clear hM; intro gx wx hM))); go_simp) | ((with_reducible apply wpList_pure); (· rfl); (· (go_simp; rfl)); go_simp))
          refine wpList_end ?_
          simp only [onlyN]
          go_wp2_with fail
          refine leaves_marks (by simp) (fun w' hM' => ?_) [D] _ (hM.subR (List.sublist_cons_self _ _))
          exact ⟨_, results_mem_cc hM' rfl (by rfl) (by rfl) (.tail _ (.tail _ (.tail _ (.head _)))) (.tail _ (.tail _ (.head _))) one_str rfl rfl, rfl, hM'.below⟩
      · refine nlc hM ?_
        refine wpList_then ?_
        go_simp
        refine wpAll_seq [0, 2, 3] (by kernel_rfl) ?_
        simp only [pickOps, List.filterMap_cons, List.filterMap_nil, List.getElem?_cons_zero, List.getElem?_cons_succ]
        repeat (first | ((first | ((first | with_reducible refine at_load ?_ | ((with_reducible refine at_load_g ?_ ?_); (· rfl))); first | refine nll hM ?_ | refine nlc hM ?_ | refine nlp hM ?_) | ((with_reducible refine at_store ?_); first | (refine nlw hM ?_; clear hM; intro wx hM) | (refine nls hM ?_; clear hM; intro wx hM) | (refine nlt hM ?_; clear hM; intro wx hM)) | ((with_reducible refine at_alloc ?_); refine nlz hM ?_; clear hM; intro gx wx hM) | ((with_reducible refine at_box ?_); first | (refine nlb hM ?_; clear hM; intro gx wx hM) | (refine nlx hM ?_; clear hM; intro gx wx hM))); go_simp) | ((with_reducible apply wpList_pure); (· rfl); (· (go_simp; rfl)); go_simp))
        refine wpList_end ?_
        simp only [onlyN]
        go_wp2_with fail
        refine leaves_marks (by simp) (fun w' hM' => ?_) [D] _ (hM.subR (List.sublist_cons_self _ _))
        exact ⟨_, results_mem_cc hM' rfl (by rfl) (by rfl) (.tail _ (.tail _ (.tail _ (.head _)))) (.tail _ (.tail _ (.head _))) one_str rfl rfl, rfl, hM'.below⟩
    · exact hF.elim
end Go.Proofs.YtlidpdjainmaiaaGreatDoor
