/- Seat c: texts: what a gateway says of an article that was made of lines. -/
import Derived.Test.YtlidpdjainmaiaaGreatDoorGzi
namespace Go.Bul
open Go Go.RowKit Go.Thg
theorem leaves_marksR {F : Fence} {n : Nat} {P : Program} {fn : Func} {tmps : Array Value} {X : Ending → World → Prop} {u : FrameMode} {G : List Nat} {L : List Ent} {R : List Thing} {w0 : World} (hu : u ≠ .run) (h : ∀ w', Mem G w0 L R w' → LeavesInM F n P fn tmps X [] u w') :
    ∀ (Ds : List Nat) (w : World), Mem G w0 L (Ds.map markT ++ R) w → LeavesInM F n P fn tmps X (Ds.map markD) u w
  | [], w, hM => h w hM
  | D :: Ds, w, hM => by
    refine ⟨hu, .inl ⟨D, _, rfl, run_takeDeferred hM.loopAt, ?_⟩⟩
    have h1 := hM.turn (UpdR.head _ _) (obj_put (hM.thing _ (List.Mem.head _)) (.deferred none))
    exact leaves_marksR hu h Ds _ (h1.subR (List.sublist_cons_self _ _))
end Go.Bul
namespace Go.Lin
open Go Go.Bul Go.Thg Go.RowKit
section
variable {α : Type} {sz : Nat} {cf : α → List Value} {w w0 : World} {G : List Nat} {L : List Ent} {R : List Thing}
/-- A block of one element is a row. -/
theorem Mem.entRow {g : Nat} {e : TypeId} {x : α} (hM : Mem G w0 (⟨g, e, sz, (cf x).toArray⟩ :: L) R w) (hC : Cf sz cf) : Mem G w0 L (gT e sz cf (.slice (some ⟨g, 0, none⟩) 1 1) [x] :: R) w := by
  have hB : Blk w g e (cf x).toArray := hM.blk (List.Mem.head _)
  refine hM.repack (fun b hb => hM.blk_ b (.tail _ hb)) (fun r hr => ?_) ?_
  · rcases List.mem_cons.1 hr with rfl | hr
    · show OffRow w e sz _ 1 (rows cf [x])
      rw [rows_one]
      refine ⟨by rw [hC.len]; omega, _, 1, rfl, Nat.le_refl _, by unfold maxLen; omega, fun _ => ⟨g, 0, _, rfl, hB, ?_, fun j hj => ?_⟩⟩
      · rw [List.size_toArray, hC.len]; omega
      · rw [Nat.zero_add, List.getElem?_toArray]
    · exact hM.thing r hr
  · show (foot L (gT e sz cf (.slice (some ⟨g, 0, none⟩) 1 1) [x] :: R)).Perm _
    have e5 : (gT e sz cf (.slice (some ⟨g, 0, none⟩) 1 1) [x]).fp = [g] := rfl
    simp only [foot, List.flatMap_cons, e5, List.map_cons]
    exact List.perm_middle
/-- The first elements of a row are a row. -/
theorem gT_front (hC : Cf sz cf) {e : TypeId} {n c : Nat} {A : Option Addr} {l : List α} (h : (gT e sz cf (.slice A n c) l).P w) (k : Nat) (hk : k ≤ n) : Becomes (gT e sz cf (.slice A n c) l).fp w (gT e sz cf (.slice A k c) (l.take k)) w := by
  obtain ⟨rfl, _⟩ := gT_len h
  refine ⟨?_, KeptBut.refl _ _, fun g hg => .inl (by cases A <;> cases c <;> exact hg)⟩
  obtain ⟨h1, A', c', he, h2, h3, h4⟩ := h
  have e1 : A = A' := by injection he
  have e2 : c = c' := by injection he
  subst e1 e2
  have hl : (l.take k).length = k := by rw [List.length_take]; omega
  show OffRow w e sz (.slice A k c) (l.take k).length (rows cf (l.take k))
  rw [hl, rows_take hC]
  have hm : k * sz ≤ l.length * sz := Nat.mul_le_mul_right _ hk
  refine ⟨by rw [List.length_take, h1]; omega, A, c, rfl, by omega, h3, fun hc => ?_⟩
  obtain ⟨g, off, cur, hA, h5, h6, h7⟩ := h4 hc
  refine ⟨g, off, cur, hA, h5, h6, fun j hj => ?_⟩
  rw [h7 j (by omega), List.getElem?_take, if_pos hj]
end
end Go.Lin
namespace Go.Cht
open Go Go.Bul
theorem good_rtr {b : Nat} {t : List Nat} (hb : blk b = false) (hpr : Pr (b :: t)) (h4 : (b :: t).length ≤ 400) : chkT (nums (bstr (rtr (b :: t)))) = 0 := by
  have h := Pr.rtr _ _ rfl hpr
  rw [nums_bstr fun x hx => (h.bytes x hx).2.2, chkT_zero]
  exact ⟨rtr_head hb, by have := rtr_len (b :: t); omega, h⟩
end Go.Cht
namespace Go.Proofs.YtlidpdjainmaiaaGreatDoor
open Go Go.RowKit Go.Bul Go.Thg Go.Lin Go.Cht
section
variable {w : World} {o : Oper} {a : Act} {x y : Operand} {A : Option Addr} {n c k size : Nat} {T e : TypeId}
theorem ysg_hi (ht : Tryz.prog.underlying T = some (.slice e)) (hs : (Tryz.prog.info? e).map (·.size) = some size) (hk : k ≤ c) (hA : advA A 0 c size = A) (ho : o.op = .slice T x none (some y) none := by rfl) (hx : a.eval x = .slice A n c := by rfl) (hy : a.eval y = .int .i64 (k : Nat) := by rfl) : (execOp a.eval o).run Tryz.prog w = .ok (.value (.slice A k c)) w := by
  have hr := run_slice_hi T e size ht hs A n c k hk w
  rw [hA] at hr
  unfold execOp
  simp only [ho, hx, hy, Option.map_some, Option.map_none, Sem.run_bind, hr, Result.andThen_ok, Sem.run_pure]
end
set_option maxRecDepth 100000 in
set_option maxHeartbeats 4000000 in
theorem texts_any (j : Nat) (nm sj bd : ByteArray) (date : Int) (ls : List Ln) (b : Nat) (t : List Nat) (hbd : nums bd = bodyL ls) (hok : ∀ l ∈ ls, OkL l) (hpl : ∀ l ∈ ls, (prL l).length ≤ 400) (h50 : ls.length ≤ 50) (hhd : nums ((nm ++ ⟨#[58, 32]⟩) ++ sj) = b :: t) (hblk : blk b = false) (hpr : Pr (b :: t)) (h4 : (b :: t).length ≤ 400) (hbs : bd.size ≤ 100000000) (w : World) (hB : Bnd w) (hP : Pow w) :
    Calls Tryz.prog 28 #[.agg (stC j [.string nm, .string sj, .string bd, .int .i64 date])] w fun e w' => ∃ (A : Option Addr) (n c : Nat) (T : List ByteArray), 0 < T.length ∧ T.length ≤ 50 ∧ (∀ x ∈ T, chkT (nums x) = 0) ∧ e = .returned (.slice A n c) ∧ Becomes [] w (sT (.slice A n c) T) w' := by
  have hM := Mem.start [] w
  have hsz : nm.size + 2 + sj.size = (b :: t).length := by rw [← hhd, nums_length, ByteArray.size_append', ByteArray.size_append']; rfl
  have HB := Lib.hid (fun w' hb => hB.keep (w' := w') hb)
  have HPW := Lib.hid (fun w' hb => hP.keep (w' := w') hb)
  have HP0 := Lib.hid (fun w hB => plain_any ((nm ++ ⟨#[58, 32]⟩) ++ sj) b t hhd hblk hpr (by rw [← nums_length, hhd]; exact h4) w hB)
  have HG0 := Lib.hid (good_rtr hblk hpr h4)
  have HDV := Lib.hid (fun w => divide_any bd ls hbd hok hbs w)
  have HRU := Lib.hid (alines_any bd)
  have HBD := Lib.hid hbd
  have HOK := Lib.hid hok
  have HPL := Lib.hid hpl
  have H50 := Lib.hid h50
  have hsz1 : nm.size ≤ 400 := by omega
  have hsz2 : sj.size ≤ 400 := by omega
  have hsz9 : bd.size ≤ 1000000000 := by omega
  generalize bstr (rtr (b :: t)) = u0 at HP0 HG0
  clear hbd hok hpl h50 hhd hblk hpr h4 hbs hsz hB hP
  refine (callsIn_wide (n := 3)).1 ?_
  refine callsIn_of_wp_marks Tryz.func28 rfl trivial ?_ rfl
  refine wpIn_wide.2 ?_
  simp only [Tryz.ntmps28, List.size_toArray, List.length_cons, List.length_nil, Nat.reduceAdd, Nat.reduceSub, Array.replicate_succ, Array.replicate_zero, List.push_toArray, List.append_toArray, List.nil_append, List.cons_append]
  go_wp2_with (first | ((with_reducible refine at_box ?_); refine nlb (cs := stC j [.string nm, .string sj, .string bd, .int .i64 date]) hM ?_ (n := 36) (hn := stC_size _ _); clear hM; intro gp wx hM) | ((with_reducible refine (HP0.out _ (HB.out _ hM.below)).mono ?_); rintro e w1 ⟨rfl, hb⟩; replace hM := hM.step hb; clear hb) | ((with_reducible refine at_bslice ?_); refine gbs hM rt_st (v := .string u0) (cs := #[.string u0]) rfl rfl (by decide) ?_; clear hM; intro gb wb hM) | ((with_reducible refine (HDV.out _).mono ?_); rintro e w1 ⟨rfl, hb⟩; replace hM := hM.step hb; clear hb) | ((with_reducible refine (HRU.out _).mono ?_); rintro e w1 ⟨gs, rfl, hA1⟩; replace hM := hM.frame hA1; clear hA1; simp only [List.cons_append, List.nil_append] at hM) | ((first | with_reducible refine at_load ?_ | ((with_reducible refine at_load_g ?_ ?_); (· rfl))); first | refine nll hM ?_ | refine nlc hM ?_ | refine nlp hM ?_) | ((with_reducible refine at_store ?_); first | (refine nlw hM ?_; clear hM; intro wx hM) | (refine nls hM ?_; clear hM; intro wx hM) | (refine nlt hM ?_; clear hM; intro wx hM)) | ((with_reducible refine at_alloc ?_); refine nlz hM ?_; clear hM; intro gx wx hM) | ((with_reducible refine at_box ?_); first | (refine nlb hM ?_; clear hM; intro gx wx hM) | (refine nlx hM ?_; clear hM; intro gx wx hM)))
  have hM3 := hM.permL (List.perm_middle (l₁ := [_, _])).symm
  clear hM
  have hM := Mem.entRow (x := u0) hM3 cf_st
  clear hM3
  obtain ⟨D, hD⟩ : ∃ D, w1.heap.size = D := ⟨_, rfl⟩
  refine (wpIn_wide (n := 3)).1 ?_
  refine rangeFunc_of 2 rfl (enters_of Tryz.func76 (by kernel_rfl) rfl) ?_
  intro rec hR2
  have hM2 := hM.loopNew (rec .ready none)
  clear hM
  rw [hD] at hM2 ⊢
  clear hD
  obtain ⟨l, hl⟩ : ∃ l, D + 1 = l := ⟨_, rfl⟩
  rw [hl] at hM2 ⊢
  clear hl
  refine (alines_in l gs bd ls HBD.out HOK.out hsz9 (fun st : Value × List ByteArray => ⟨gs, 9, 1, #[.string bd]⟩ :: ⟨gx, 33, 1, #[st.1]⟩ :: ⟨gp, 48, 36, stC j [.string nm, .string sj, .string bd, .int .i64 date]⟩ :: []) (fun st => objT l (.loop (rec .ready none)) :: objT D (.deferred (some [])) :: sT st.1 st.2 :: []) (fun st k => Hid (st.2.length = k + 1 ∧ ∀ x ∈ st.2, chkT (nums x) = 0)) (fun _ => False) (.slice (some ⟨gb, 0, none⟩) 1 1, [u0]) (Lib.hid ⟨rfl, by simpa using HG0.out⟩) hM2 (fun _ => .head _) ?yield).mono ?after
  case yield =>
    rintro ⟨V, T⟩ k W hk hinv hM
    refine round_goes hR2 hM.loopAt rfl ?_
    refine wpIn_round_lit (k := l) (by rintro ⟨_, _, h⟩; exact h) (by rfl) ?_
    go_wp2_with fail
    refine ⟨hM.loopAt, ?_⟩
    replace hM := hM.loopPut (rec .busy none)
    generalize World.putObj _ l (Obj.loop (rec LoopState.busy none)) = wy at hM ⊢
    obtain ⟨hT1, hT2⟩ : T.length = k + 1 ∧ ∀ x ∈ T, chkT (nums x) = 0 := hinv.out
    try simp only at hM
    have hkok := HOK.out _ (List.getElem_mem hk)
    have hkl := HPL.out _ (List.getElem_mem hk)
    have hnb := nums_bstr (prL_bytes ls[k])
    have hsb : (bstr (prL ls[k])).size = (prL ls[k]).length := bstr_size _
    have HLV := Lib.hid (fun w => level_any (bstr (prL ls[k])) 91 _ hnb (by decide) w)
    have hprk := prL_pr hkok
    have HPK := Lib.hid (fun w hB => plain_any (bstr (prL ls[k])) 91 _ hnb rfl hprk (by rw [hsb]; exact hkl) w hB)
    have HGK := Lib.hid (good_rtr (b := 91) rfl hprk hkl)
    have hxne : rtr (prL ls[k]) ≠ [] := rtr_head (b := 91) rfl
    obtain ⟨x, hx⟩ : ∃ x, bstr (rtr (prL ls[k])) = x := ⟨_, rfl⟩
    have hxs : 0 < x.size := by rw [← hx, bstr_size]; exact List.length_pos_iff.2 hxne
    have hxe : x.toList.isEmpty = false := isEmpty_no hxs
    replace HPK := Lib.hid (fun w hB => hx ▸ HPK.out w hB)
    replace HGK : RowKit.Hid (chkT (nums x) = 0) := Lib.hid (hx ▸ HGK.out)
    have hTl : T.length + 1 ≤ 1000000000 := by have := H50.out; omega
    have HT := Lib.hid (And.intro hT1 hT2)
    clear hinv hT1 hT2 hkok hkl hnb hsb hprk hxne hx hxs
    go_simp
    gi_wp2_with (refine wpListIn_round (by rintro ⟨_, _, h⟩; exact h) _ _ _ (by rfl) ?_)
    go_wp2_with (first | ((with_reducible refine (HLV.out _).mono ?_); rintro e w1 ⟨⟨uu, rfl⟩, hb⟩; replace hM := hM.step hb; clear hb) | ((with_reducible refine (HPK.out _ (HB.out _ hM.below)).mono ?_); rintro e w1 ⟨rfl, hb⟩; replace hM := hM.step hb; clear hb) | ((with_reducible refine at_bslice ?_); refine gbs hM rt_st (v := .string x) (cs := #[.string x]) rfl rfl (by decide) ?_; clear hM; intro gb wb hM) | ((with_reducible refine at_append ?_); refine gap (l := T) hM rt_st (ent_src (x := x) hM rt_st rfl (List.Mem.head _)) hTl ?_; clear hM; intro A2 N2 c2 wz HNN hM) | ((first | with_reducible refine at_load ?_ | ((with_reducible refine at_load_g ?_ ?_); (· rfl))); first | refine nll hM ?_ | refine nlc hM ?_ | refine nlp hM ?_) | ((with_reducible refine at_store ?_); first | (refine nlw hM ?_; clear hM; intro wx hM) | (refine nls hM ?_; clear hM; intro wx hM) | (refine nlt hM ?_; clear hM; intro wx hM)) | ((with_reducible refine at_alloc ?_); refine nlz hM ?_; clear hM; intro gx wx hM) | ((with_reducible refine at_box ?_); first | (refine nlb hM ?_; clear hM; intro gx wx hM) | (refine nlx hM ?_; clear hM; intro gx wx hM)))
    gi_wp2_with (refine wpListIn_round (by rintro ⟨_, _, h⟩; exact h) _ _ _ (by rfl) ?_)
    go_wp2_with (first | ((with_reducible refine (HLV.out _).mono ?_); rintro e w1 ⟨⟨uu, rfl⟩, hb⟩; replace hM := hM.step hb; clear hb) | ((with_reducible refine (HPK.out _ (HB.out _ hM.below)).mono ?_); rintro e w1 ⟨rfl, hb⟩; replace hM := hM.step hb; clear hb) | ((with_reducible refine at_bslice ?_); refine gbs hM rt_st (v := .string x) (cs := #[.string x]) rfl rfl (by decide) ?_; clear hM; intro gb wb hM) | ((with_reducible refine at_append ?_); refine gap (l := T) hM rt_st (ent_src (x := x) hM rt_st rfl (List.Mem.head _)) hTl ?_; clear hM; intro A2 N2 c2 wz HNN hM) | ((first | with_reducible refine at_load ?_ | ((with_reducible refine at_load_g ?_ ?_); (· rfl))); first | refine nll hM ?_ | refine nlc hM ?_ | refine nlp hM ?_) | ((with_reducible refine at_store ?_); first | (refine nlw hM ?_; clear hM; intro wx hM) | (refine nls hM ?_; clear hM; intro wx hM) | (refine nlt hM ?_; clear hM; intro wx hM)) | ((with_reducible refine at_alloc ?_); refine nlz hM ?_; clear hM; intro gx wx hM) | ((with_reducible refine at_box ?_); first | (refine nlb hM ?_; clear hM; intro gx wx hM) | (refine nlx hM ?_; clear hM; intro gx wx hM)))
    gi_wp2_with (refine wpListIn_round (by rintro ⟨_, _, h⟩; exact h) _ _ _ (by rfl) ?_)
    go_wp2_with (first | ((with_reducible refine (HLV.out _).mono ?_); rintro e w1 ⟨⟨uu, rfl⟩, hb⟩; replace hM := hM.step hb; clear hb) | ((with_reducible refine (HPK.out _ (HB.out _ hM.below)).mono ?_); rintro e w1 ⟨rfl, hb⟩; replace hM := hM.step hb; clear hb) | ((with_reducible refine at_bslice ?_); refine gbs hM rt_st (v := .string x) (cs := #[.string x]) rfl rfl (by decide) ?_; clear hM; intro gb wb hM) | ((with_reducible refine at_append ?_); refine gap (l := T) hM rt_st (ent_src (x := x) hM rt_st rfl (List.Mem.head _)) hTl ?_; clear hM; intro A2 N2 c2 wz HNN hM) | ((first | with_reducible refine at_load ?_ | ((with_reducible refine at_load_g ?_ ?_); (· rfl))); first | refine nll hM ?_ | refine nlc hM ?_ | refine nlp hM ?_) | ((with_reducible refine at_store ?_); first | (refine nlw hM ?_; clear hM; intro wx hM) | (refine nls hM ?_; clear hM; intro wx hM) | (refine nlt hM ?_; clear hM; intro wx hM)) | ((with_reducible refine at_alloc ?_); refine nlz hM ?_; clear hM; intro gx wx hM) | ((with_reducible refine at_box ?_); first | (refine nlb hM ?_; clear hM; intro gx wx hM) | (refine nlx hM ?_; clear hM; intro gx wx hM)))
    gi_wp2_with (refine wpListIn_round (by rintro ⟨_, _, h⟩; exact h) _ _ _ (by rfl) ?_)
    go_wp2_with (first | ((with_reducible refine (HLV.out _).mono ?_); rintro e w1 ⟨⟨uu, rfl⟩, hb⟩; replace hM := hM.step hb; clear hb) | ((with_reducible refine (HPK.out _ (HB.out _ hM.below)).mono ?_); rintro e w1 ⟨rfl, hb⟩; replace hM := hM.step hb; clear hb) | ((with_reducible refine at_bslice ?_); refine gbs hM rt_st (v := .string x) (cs := #[.string x]) rfl rfl (by decide) ?_; clear hM; intro gb wb hM) | ((with_reducible refine at_append ?_); refine gap (l := T) hM rt_st (ent_src (x := x) hM rt_st rfl (List.Mem.head _)) hTl ?_; clear hM; intro A2 N2 c2 wz HNN hM) | ((first | with_reducible refine at_load ?_ | ((with_reducible refine at_load_g ?_ ?_); (· rfl))); first | refine nll hM ?_ | refine nlc hM ?_ | refine nlp hM ?_) | ((with_reducible refine at_store ?_); first | (refine nlw hM ?_; clear hM; intro wx hM) | (refine nls hM ?_; clear hM; intro wx hM) | (refine nlt hM ?_; clear hM; intro wx hM)) | ((with_reducible refine at_alloc ?_); refine nlz hM ?_; clear hM; intro gx wx hM) | ((with_reducible refine at_box ?_); first | (refine nlb hM ?_; clear hM; intro gx wx hM) | (refine nlx hM ?_; clear hM; intro gx wx hM)))
    gi_wp2_with (refine wpListIn_round (by rintro ⟨_, _, h⟩; exact h) _ _ _ (by rfl) ?_)
    go_wp2_with (first | ((with_reducible refine (HLV.out _).mono ?_); rintro e w1 ⟨⟨uu, rfl⟩, hb⟩; replace hM := hM.step hb; clear hb) | ((with_reducible refine (HPK.out _ (HB.out _ hM.below)).mono ?_); rintro e w1 ⟨rfl, hb⟩; replace hM := hM.step hb; clear hb) | ((with_reducible refine at_bslice ?_); refine gbs hM rt_st (v := .string x) (cs := #[.string x]) rfl rfl (by decide) ?_; clear hM; intro gb wb hM) | ((with_reducible refine at_append ?_); refine gap (l := T) hM rt_st (ent_src (x := x) hM rt_st rfl (List.Mem.head _)) hTl ?_; clear hM; intro A2 N2 c2 wz HNN hM) | ((first | with_reducible refine at_load ?_ | ((with_reducible refine at_load_g ?_ ?_); (· rfl))); first | refine nll hM ?_ | refine nlc hM ?_ | refine nlp hM ?_) | ((with_reducible refine at_store ?_); first | (refine nlw hM ?_; clear hM; intro wx hM) | (refine nls hM ?_; clear hM; intro wx hM) | (refine nlt hM ?_; clear hM; intro wx hM)) | ((with_reducible refine at_alloc ?_); refine nlz hM ?_; clear hM; intro gx wx hM) | ((with_reducible refine at_box ?_); first | (refine nlb hM ?_; clear hM; intro gx wx hM) | (refine nlx hM ?_; clear hM; intro gx wx hM)))
    gi_wp2_with fail
    refine ⟨hM.loopAt, rfl, _, T ++ [x], Lib.hid ⟨by rw [List.length_append, HT.out.1]; rfl, fun y hy => ?_⟩, (hM.subL (List.sublist_cons_self _ _)).loopPut _⟩
    rcases List.mem_append.1 hy with hy | hy
    · exact HT.out.2 y hy
    · rw [List.mem_singleton.1 hy]; exact HGK.out
  case after =>
    rintro e W ⟨⟨v, rfl⟩, ⟨⟨V, T⟩, hinv, hM⟩ | hF⟩
    · refine ⟨⟨v, rfl⟩, .inl ⟨hM.loopAt, ?_⟩⟩
      replace hM := hM.loopPut (rec .exhausted none)
      generalize World.putObj _ l (Obj.loop (rec LoopState.exhausted none)) = wy at hM ⊢
      obtain ⟨hT1, hT2⟩ : T.length = ls.length + 1 ∧ ∀ x ∈ T, chkT (nums x) = 0 := hinv.out
      try simp only at hM
      obtain ⟨A, c, hV, hTc⟩ := gT_form (hM.thing _ (.tail _ (.tail _ (.head _))))
      subst hV
      obtain ⟨n, hn⟩ : ∃ n, T.length = n := ⟨_, rfl⟩
      rw [hn] at hM hT1 hTc
      have n1 : (1 : Int) ≤ (n : Int) := by omega
      have n2 : (n : Int) ≤ 51 := by have := H50.out; omega
      have HT := Lib.hid (And.intro hT1 (And.intro hT2 hTc))
      clear hinv hT1 hT2 hTc
      by_cases h51 : n = 51
      · subst h51
        have HX := Lib.hid (And.intro HT.out.2.1 hn)
        have HA := Lib.hid (adv_zero (hM.thing _ (.tail _ (.tail _ (.head _)))))
        have HDG := Lib.hid (show ∀ w, Pow w → Calls Tryz.prog 23 #[.int .i64 2] w fun e w' => e = .returned (.string ⟨#[50]⟩) ∧ Below w.heap.size w w' from fun w hT => (digits_any 2 (by decide) w hT).mono (by
          rintro e w' ⟨rfl, hb⟩
          exact ⟨by rw [digN_small (by decide)]; rfl, hb⟩))
        have HC51 := Lib.hid HT.out.2.2
        have hl49 : (T.take 49).length + 1 ≤ 1000000000 := by rw [List.length_take]; omega
        go_upto_region 12 with (first | ((first | with_reducible refine at_load ?_ | ((with_reducible refine at_load_g ?_ ?_); (· rfl))); first | refine nll hM ?_ | refine nlc hM ?_ | refine nlp hM ?_) | ((with_reducible refine at_store ?_); first | (refine nlw hM ?_; clear hM; intro wx hM) | (refine nls hM ?_; clear hM; intro wx hM) | (refine nlt hM ?_; clear hM; intro wx hM)) | ((with_reducible refine at_alloc ?_); refine nlz hM ?_; clear hM; intro gx wx hM) | ((with_reducible refine at_box ?_); first | (refine nlb hM ?_; clear hM; intro gx wx hM) | (refine nlx hM ?_; clear hM; intro gx wx hM)))
        refine wp_onlyN ?_
        refine wp_region_allN hM (by kernel_rfl) ?_
        clear hM
        intro wd hM
        refine wpAll_takes [2] (by kernel_rfl) (fun _ _ _ _ _ h => h) (by kernel_rfl) ?_
        simp only [pickOps, List.filterMap_cons, List.filterMap_nil, List.getElem?_cons_zero, List.getElem?_cons_succ]
        repeat ((with_reducible apply wpPure_step); (· rfl); (· (intro w; go_simp; rfl)); intro K hK; go_simp; (with_reducible refine hK _ ?_); clear hK K)
        refine wpPure_nil ?_
        refine wpAll_of_T (fun w' => Below wd.heap.size wd w') 7 ?_
        have hS := Below.refl wd.heap.size wd
        have HM0 := Lib.hid hM
        refine wpAllT_takes [0, 1] (by kernel_rfl) (fun _ _ _ _ _ h => h) hS (by kernel_rfl) ?_
        simp only [pickOps, List.filterMap_cons, List.filterMap_nil, List.getElem?_cons_zero, List.getElem?_cons_succ]
        repeat ((with_reducible apply wpHeld_step); (· rfl); (· (intro wq hSw; first | (go_simp; rfl) | (have hM' := HM0.out.step hSw; first | exact yields_load (C := fun _ => True) (nqc hM') rfl | exact yields_load (C := fun _ => True) (nql hM') rfl | exact yields_load (C := fun _ => True) (nqp hM') rfl | exact ysg_hi rt_st.u rt_st.sz (k := 49) (by have := HC51.out; omega) HA.out))); intro K hK; go_simp; (with_reducible refine hK _ ?_); clear hK K)
        refine wpHeld_nil ?_
        refine wpAllT_one 3 rfl (by kernel_rfl) ?_
        go_wp2_with fail
        refine (HDG.out _ (HPW.out _ hM.below)).mono ?_
        rintro e w1 ⟨rfl, hb⟩
        go_wp2_with fail
        replace hM := hM.step hb
        replace hS := Below.step hS hb
        clear hb
        refine then_normal ⟨.inr hS, ?_⟩
        refine wpAllT_takes [4, 5] (by kernel_rfl) (fun _ _ _ _ _ h => h) hS (by kernel_rfl) ?_
        simp only [pickOps, List.filterMap_cons, List.filterMap_nil, List.getElem?_cons_zero, List.getElem?_cons_succ]
        repeat ((with_reducible apply wpHeld_step); (· rfl); (· (intro wq hSw; first | (go_simp; rfl) | (have hM' := HM0.out.step hSw; first | exact yields_load (C := fun _ => True) (nqc hM') rfl | exact yields_load (C := fun _ => True) (nql hM') rfl | exact yields_load (C := fun _ => True) (nqp hM') rfl | exact ycat))); intro K hK; go_simp; (with_reducible refine hK _ ?_); clear hK K)
        refine wpHeld_nil ?_
        refine wpAllT_one 6 rfl (by kernel_rfl) ?_
        refine gbs (Mem.start [] _) rt_st (v := .string _) (cs := #[.string _]) rfl rfl (by decide) ?_
        intro gb wb hF
        replace hM := hM.frame hF
        simp only [List.cons_append, List.nil_append] at hM
        replace hS := Below.step hS hF.below
        clear hF
        refine wpList_then ⟨.inr hS, ?_⟩
        have hM3 := hM.turn (UpdR.tail _ (UpdR.tail _ (UpdR.head _ _))) (gT_front cf_st (hM.thing _ (.tail _ (.tail _ (.head _)))) 49 (by decide))
        clear hM
        have hM := hM3
        clear hM3
        refine wpAllT_one 7 rfl (by kernel_rfl) ?_
        refine gap (l := T.take 49) hM rt_st (ent_src (x := _) hM rt_st rfl (List.Mem.head _)) hl49 ?_
        clear hM hS HM0
        intro A2 N2 c2 wz HNN hM
        refine wpList_then ⟨.inl (by kernel_rfl), wpAllT_drop (by kernel_rfl) ?_⟩
        go_simp
        refine wpAll_seq [8] (by kernel_rfl) ?_
        simp only [pickOps, List.filterMap_cons, List.filterMap_nil, List.getElem?_cons_zero, List.getElem?_cons_succ]
        repeat (first | ((first | ((first | with_reducible refine at_load ?_ | ((with_reducible refine at_load_g ?_ ?_); (· rfl))); first | refine nll hM ?_ | refine nlc hM ?_ | refine nlp hM ?_) | ((with_reducible refine at_store ?_); first | (refine nlw hM ?_; clear hM; intro wx hM) | (refine nls hM ?_; clear hM; intro wx hM) | (refine nlt hM ?_; clear hM; intro wx hM)) | ((with_reducible refine at_alloc ?_); refine nlz hM ?_; clear hM; intro gx wx hM) | ((with_reducible refine at_box ?_); first | (refine nlb hM ?_; clear hM; intro gx wx hM) | (refine nlx hM ?_; clear hM; intro gx wx hM))); go_simp) | ((with_reducible apply wpList_pure); (· rfl); (· (go_simp; rfl)); go_simp))
        refine wpList_end ?_
        simp only [onlyN]
        go_wp2_with (first | ((first | with_reducible refine at_load ?_ | ((with_reducible refine at_load_g ?_ ?_); (· rfl))); first | refine nll hM ?_ | refine nlc hM ?_ | refine nlp hM ?_) | ((with_reducible refine at_store ?_); first | (refine nlw hM ?_; clear hM; intro wx hM) | (refine nls hM ?_; clear hM; intro wx hM) | (refine nlt hM ?_; clear hM; intro wx hM)) | ((with_reducible refine at_alloc ?_); refine nlz hM ?_; clear hM; intro gx wx hM) | ((with_reducible refine at_box ?_); first | (refine nlb hM ?_; clear hM; intro gx wx hM) | (refine nlx hM ?_; clear hM; intro gx wx hM)))
        refine leaves_marksR (by simp) (fun w' hM' => ?_) [D] _ (hM.subR (List.sublist_cons_self _ _))
        refine ⟨_, results_tmp rfl _ _ _, _, _, _, T.take 49 ++ [_], ?_, ?_, ?_, rfl, hM'.becomes (.head _)⟩
        · rw [List.length_append]; simp
        · rw [List.length_append, List.length_take]; simp; omega
        · intro y hy
          rcases List.mem_append.1 hy with hy | hy
          · exact HX.out.1 y (List.mem_of_mem_take hy)
          · rw [List.mem_singleton.1 hy]
            rw [chkT_zero]
            refine ⟨by decide, by decide, Pr.ascii _ (by decide)⟩
      · have hgt : (n : Int) ≤ 50 := by omega
        have HX := Lib.hid (show 0 < T.length ∧ T.length ≤ 50 by omega)
        clear h51
        go_wp2_with (first | ((first | with_reducible refine at_load ?_ | ((with_reducible refine at_load_g ?_ ?_); (· rfl))); first | refine nll hM ?_ | refine nlc hM ?_ | refine nlp hM ?_) | ((with_reducible refine at_store ?_); first | (refine nlw hM ?_; clear hM; intro wx hM) | (refine nls hM ?_; clear hM; intro wx hM) | (refine nlt hM ?_; clear hM; intro wx hM)) | ((with_reducible refine at_alloc ?_); refine nlz hM ?_; clear hM; intro gx wx hM) | ((with_reducible refine at_box ?_); first | (refine nlb hM ?_; clear hM; intro gx wx hM) | (refine nlx hM ?_; clear hM; intro gx wx hM)))
        refine leaves_marksR (by simp) (fun w' hM' => ?_) [D] _ (hM.subR (List.sublist_cons_self _ _))
        exact ⟨_, results_tmp rfl _ _ _, _, _, _, T, HX.out.1, HX.out.2, HT.out.2.1, rfl, hM'.becomes (.head _)⟩
    · exact hF.elim
end Go.Proofs.YtlidpdjainmaiaaGreatDoor
