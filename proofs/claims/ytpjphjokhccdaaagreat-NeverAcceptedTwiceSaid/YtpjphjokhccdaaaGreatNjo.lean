/- Seat n: one step of the planner. -/
import Derived.Test.YtpjphjokhccdaaaGreatNjl
import Derived.Test.YtpjphjokhccdaaaGreatNjn
namespace Go.Proofs.YtpjphjokhccdaaaGreat
open Go Go.RowKit Go.Bul Go.Thg Go.Lin Go.Maps
theorem run_fns (gb : Nat) (w : World) : (Instr.buildSlice 120 4 #[(1, .func (.func 46) #[] #[]), (2, .func (.func 47) #[] #[]), (3, .func (.func 48) #[] #[.pointer (some ⟨gb, 0, none⟩)])]).run Tryz.prog w = .ok (.slice (some ⟨w.heap.size, 0, none⟩) 4 4) (w.alloc (.cells (fnsC gb) 119)) := by kernel_rfl
section
variable {w w0 : World} {G : List Nat} {L : List Ent} {R : List Thing} {F : Thing → List Thing}
theorem nfns {ops : Array Oper} {rest : List Oper} {o : Oper} {a : Act} {Q : Exit → Act → World → Prop} {x1 x2 x3 : Operand} {gb : Nat} (hM : Mem G w0 L R w) (h : ∀ g w', Mem G w0 (⟨g, 119, 4, fnsC gb⟩ :: L) R w' → wpList Tryz.prog ops Q rest (a.put o.dst (.slice (some ⟨g, 0, none⟩) 4 4)) w')
    (hgd : o.guard = none := by rfl) (ho : o.op = .buildSlice 120 4 #[(1, x1), (2, x2), (3, x3)] := by rfl) (h1 : a.eval x1 = .func (.func 46) #[] #[] := by rfl) (h2 : a.eval x2 = .func (.func 47) #[] #[] := by rfl) (h3 : a.eval x3 = .func (.func 48) #[] #[.pointer (some ⟨gb, 0, none⟩)] := by rfl) : wpList Tryz.prog ops Q (o :: rest) a w := by
  refine wpList_plain hgd fun K hK => ?_
  unfold Oper.wp execOp
  simp only [ho, List.map_toArray, List.map_cons, List.map_nil, h1, h2, h3, Sem.run_bind, run_fns, Result.andThen_ok]
  exact hK _ _ (h _ _ (hM.alloc _ _ rfl))
/-- What a step may return. -/
def StepEnd (G : List Nat) (w0 : World) (L : List Ent) (R : List Thing) (pp bh : Nat) (B : Option Addr) (n e : Nat) (byt bud : Int) (cl : List El) (en : Ending) (w' : World) : Prop :=
  (en = .returned (.tuple #[.agg (stC 0 [.int .i64 0]), .bool false]) ∧ ∃ mp, Mem G w0 (⟨pp, 108, 4, plC B n e bh byt bud⟩ :: L) (elT 113 10 (.slice B n e) cl :: mapT bh mp :: R) w') ∨
  ∃ (i : Nat) (hi : i < cl.length) (kind byt' : Int) (mp : Nat → Option Value), en = .returned (.tuple #[.agg (stC (cl[i]).1 [.int .i64 kind]), .bool true]) ∧ byt - 100 ≤ byt' ∧ byt' ≤ byt ∧ Mem G w0 (⟨pp, 108, 4, plC B (n - 1) e bh byt' bud⟩ :: L) (elT 113 10 (.slice B (n - 1) e) (cl.eraseIdx i) :: mapT bh mp :: R) w'
def measK (i : Value) (w : World) : Nat := match i with | .pointer (some ad) => (match w.cell? ad with | some (.int _ z) => 4 - z.toNat | _ => 0) | _ => 0
theorem measK_eq {g q : Nat} {t : TypeId} (hM : Mem G w0 (⟨g, t, 1, #[.int .i64 (q : Nat)]⟩ :: L) R w) : measK (.pointer (some ⟨g, 0, none⟩)) w = 4 - q := by
  have h := (hM.blk (List.Mem.head _)).cell 0
  unfold measK
  simp only [h]
  simp
set_option maxRecDepth 20000 in
set_option maxHeartbeats 20000000 in
theorem step_any (pp bh : Nat) (B : Option Addr) (n e : Nat) (byt bud : Int) (cl : List El) (mp : Nat → Option Value) (hl : cl.length ≤ 11) (hok : ∀ x ∈ cl, CandOk R x) (y0 : -100000 ≤ byt) (y1 : byt ≤ 100000) (hM : Mem G w0 (⟨pp, 108, 4, plC B n e bh byt bud⟩ :: L) (elT 113 10 (.slice B n e) cl :: mapT bh mp :: R) w) :
    Calls Tryz.prog 29 #[.pointer (some ⟨pp, 0, none⟩)] w (StepEnd G w0 L R pp bh B n e byt bud cl) := by
  have hn := (elT_len (hM.thing _ (List.Mem.head _))).1
  have HN := Lib.hid hn
  have HOK := Lib.hid hok
  have HL := Lib.hid hl
  clear hok hl hn
  go_enter Tryz.func29, Tryz.ntmps29
  go_wp2_with (first | ((with_reducible refine at_box ?_); refine nlx (v := .pointer (some ⟨pp, 0, none⟩)) hM ?_; clear hM; intro gb wb hM) | ((with_reducible refine at_bslice ?_); refine nfns (gb := gb) hM ?_; clear hM; intro gf wf hM) | ((first | with_reducible refine at_load ?_ | ((with_reducible refine at_load_g ?_ ?_); (· rfl))); first | refine nll hM ?_ | refine nlc hM ?_ | refine nlp hM ?_) | ((with_reducible refine at_store ?_); first | (refine nlw hM ?_; clear hM; intro wx hM) | (refine nls hM ?_; clear hM; intro wx hM) | (refine nlt hM ?_; clear hM; intro wx hM)) | ((with_reducible refine at_alloc ?_); refine nlz hM ?_; clear hM; intro gx wx hM) | ((with_reducible refine at_box ?_); first | (refine nlb hM ?_; clear hM; intro gx wx hM) | (refine nlx hM ?_; clear hM; intro gx wx hM)))
  rename_i w1 v1 gR v2 v3 K0 HK v4
  have M0 := Lib.hid hM
  clear hM
  have hgx := M0.out.name1
  go_simp
  go_loopw [5] (fun i wr => ∃ q gK : Nat, (1 ≤ q ∧ q ≤ 4) ∧ i = .pointer (some ⟨gK, 0, none⟩) ∧ Mem G w0 (⟨gK, 3, 1, #[.int .i64 (q : Nat)]⟩ :: ⟨gR, 120, 1, #[.slice (some ⟨gf, 0, none⟩) 4 4]⟩ :: ⟨gf, 119, 4, fnsC gb⟩ :: ⟨w1, 62, 33, stC 0 [.int .i64 0]⟩ :: ⟨gb, 90, 1, #[.pointer (some ⟨pp, 0, none⟩)]⟩ :: ⟨pp, 108, 4, plC B n e bh byt bud⟩ :: L) (elT 113 10 (.slice B n e) cl :: mapT bh mp :: R) wr) (fun i wr => measK i wr)
  case atStart => exact ⟨1, gx, ⟨Nat.le_refl _, by omega⟩, rfl, M0.out⟩
  case round =>
    clear M0
    obtain ⟨q, gK, ⟨q1, q4⟩, rfl, hM⟩ := hrel
    have hms := Lib.hid (measK_eq hM)
    by_cases hlt : q ≤ 3
    · have c0 : ((q : Int) ≤ 3) := by omega
      have c1 : (0 : Int) ≤ (q : Int) := Int.natCast_nonneg _
      have HI := Lib.hid (fun w (hM : Mem G w0 (⟨gK, 3, 1, #[.int .i64 (q : Nat)]⟩ :: ⟨gR, 120, 1, #[.slice (some ⟨gf, 0, none⟩) 4 4]⟩ :: ⟨gf, 119, 4, fnsC gb⟩ :: ⟨w1, 62, 33, stC 0 [.int .i64 0]⟩ :: ⟨gb, 90, 1, #[.pointer (some ⟨pp, 0, none⟩)]⟩ :: ⟨pp, 108, 4, plC B n e bh byt bud⟩ :: L) (elT 113 10 (.slice B n e) cl :: mapT bh mp :: R) w) => idxCand_any gR gK gb gf pp q B n e bh byt bud cl hM ⟨q1, hlt⟩ HL.out (fun x hx => ⟨(HOK.out x hx).j, by obtain ⟨d, a, gg, b, k, f, o, m, e1, e2, e3⟩ := (HOK.out x hx).ex; exact ⟨d, a, gg, b, k, f, o, m, e1, e2, .tail _ (.tail _ e3)⟩⟩) (.tail _ (.head _)) (.head _) (.tail _ (.tail _ (.head _))) (.tail _ (.tail _ (.tail _ (.tail _ (.head _))))) (.tail _ (.tail _ (.tail _ (.tail _ (.tail _ (.head _)))))) (.head _))
      go_upto_region 6 with (first | ((with_reducible refine (HI.out _ hM).mono ?_); rintro e1 w2 ⟨⟨z, rfl, hz⟩, hM2⟩; clear hM; have hM := hM2; clear hM2) | ((first | with_reducible refine at_load ?_ | ((with_reducible refine at_load_g ?_ ?_); (· rfl))); first | refine nll hM ?_ | refine nlc hM ?_ | refine nlp hM ?_) | ((with_reducible refine at_store ?_); first | (refine nlw hM ?_; clear hM; intro wx hM) | (refine nls hM ?_; clear hM; intro wx hM) | (refine nlt hM ?_; clear hM; intro wx hM)) | ((with_reducible refine at_alloc ?_); refine nlz hM ?_; clear hM; intro gx wx hM) | ((with_reducible refine at_box ?_); first | (refine nlb hM ?_; clear hM; intro gx wx hM) | (refine nlx hM ?_; clear hM; intro gx wx hM)))
      rcases hz with rfl | ⟨i, hi, rfl⟩
      · clear HI
        go_wp2_with (first | ((first | with_reducible refine at_load ?_ | ((with_reducible refine at_load_g ?_ ?_); (· rfl))); first | refine nll hM ?_ | refine nlc hM ?_ | refine nlp hM ?_) | ((with_reducible refine at_store ?_); first | (refine nlw hM ?_; clear hM; intro wx hM) | (refine nls hM ?_; clear hM; intro wx hM) | (refine nlt hM ?_; clear hM; intro wx hM)) | ((with_reducible refine at_alloc ?_); refine nlz hM ?_; clear hM; intro gx wx hM) | ((with_reducible refine at_box ?_); first | (refine nlb hM ?_; clear hM; intro gx wx hM) | (refine nlx hM ?_; clear hM; intro gx wx hM)))
        rw [show ((q : Int) + 1) = ((q + 1 : Nat) : Int) by omega] at hM
        have hM2 := hM.subL (by exact List.Sublist.cons_cons _ (List.Sublist.cons _ (List.Sublist.refl _)))
        refine ⟨⟨q + 1, gx, ⟨by omega, by omega⟩, rfl, hM2⟩, ?_⟩
        rw [measK_eq hM2, hms.out]
        omega
      · have ci : (0 : Int) ≤ (i : Int) := Int.natCast_nonneg _
        have ci2 : (i : Int) ≤ 10 := by have := HN.out; have := HL.out; omega
        have hlt' : (i : Int) < (n : Int) := by omega
        have hil : i < cl.length := by have := HN.out; omega
        have hT := hM.thing _ (.head _)
        obtain ⟨g, off, rfl, _, hcell⟩ := elT_at hT i hil
        have HX := Lib.hid (hcell i hil)
        obtain ⟨hj, d, a, gg, b, kk, f, o, m, htl, hb, _⟩ := (⟨(HOK.out _ (List.getElem_mem hil)).j, (HOK.out _ (List.getElem_mem hil)).ex⟩ : (cl[i]).1 < 11 ∧ ∃ d a gg b k f o m, (cl[i]).2 = candTl d a gg b k f o m ∧ (0 ≤ b ∧ b ≤ 100) ∧ grpT gg ∈ R)
        have e1 : elC cl[i] = stC (cl[i]).1 (candTl d a gg b kk f o m) := by unfold elC; rw [htl]
        rw [e1] at HX
        generalize hjj : (cl[i]).1 = j at HX hj
        have HJ2 := Lib.hid (show ∃ hi : i < cl.length, (cl[i]).1 = j from ⟨hil, hjj⟩)
        clear htl e1 hcell hT hjj hil HI
        go_upto_region 8 with (first | ((with_reducible refine at_load ?_); refine nlr HX.out ?_ (hty := row_cand)) | ((first | with_reducible refine at_load ?_ | ((with_reducible refine at_load_g ?_ ?_); (· rfl))); first | refine nll hM ?_ | refine nlc hM ?_ | refine nlp hM ?_) | ((with_reducible refine at_store ?_); first | (refine nlw hM ?_; clear hM; intro wx hM) | (refine nls hM ?_; clear hM; intro wx hM) | (refine nlt hM ?_; clear hM; intro wx hM)) | ((with_reducible refine at_alloc ?_); refine nlz hM ?_; clear hM; intro gx wx hM) | ((with_reducible refine at_box ?_); first | (refine nlb hM ?_; clear hM; intro gx wx hM) | (refine nlx hM ?_; clear hM; intro gx wx hM)))
        have HF := Lib.hid (fun w' (e1 e2 e3 e4 e5 eb ep : Ent) R' (h : Mem G w0 (e1 :: e2 :: e3 :: e4 :: e5 :: eb :: ep :: L) R' w') => (h.subL (show [eb, ep].Sublist (e1 :: e2 :: e3 :: e4 :: e5 :: eb :: ep :: L) from List.Sublist.cons _ (List.Sublist.cons _ (List.Sublist.cons _ (List.Sublist.cons _ (List.Sublist.cons _ (List.Sublist.cons_cons _ (List.Sublist.cons_cons _ (List.nil_sublist _))))))))).subR (List.nil_sublist R'))
        refine Go.Bul.wp_region_allT (fun w' => Mem G w0 [⟨gb, 90, 1, #[.pointer (some ⟨pp, 0, none⟩)]⟩, ⟨pp, 108, 4, plC (some ⟨g, off, none⟩) n e bh byt bud⟩] [] w') 11 (by kernel_rfl) ?_
        replace hM := hM.drew
        generalize wx.drew = wd at hM ⊢
        have hS := HF.out _ _ _ _ _ _ _ _ _ hM
        refine wpAllT_takes [5, 6, 7, 0, 1, 2, 3, 4] (by kernel_rfl) (fun _ _ _ _ _ h => h) hS (by kernel_rfl) ?_
        simp only [pickOps, List.filterMap_cons, List.filterMap_nil, List.getElem?_cons_zero, List.getElem?_cons_succ]
        repeat ((with_reducible apply wpHeld_step); (· rfl); (· (intro wq hSw; first | (go_simp; rfl) | (first | exact yields_load (C := fun _ => True) (nqc hSw) rfl | exact yields_load (C := fun _ => True) (nql hSw) rfl | exact yields_load (C := fun _ => True) (nqp hSw) rfl))); intro K hK; go_simp; (with_reducible refine hK _ ?_); clear hK K)
        refine wpHeld_nil ?_
        refine wpAllT_one 8 rfl (by kernel_rfl) ?_
        go_wp2_with fail
        refine (delete_any (some ⟨g, off, none⟩) n e i cl hi HL.out hM (UpdR.head _ _)).mono ?_
        rintro e2 w3 ⟨rfl, hM2⟩
        clear hM
        have hM := hM2
        clear hM2
        go_wp2_with fail
        clear hS
        have hS := HF.out _ _ _ _ _ _ _ _ _ hM
        refine then_normal ⟨.inr hS, ?_⟩
        refine wpAllT_takes [9, 10] (by kernel_rfl) (fun _ _ _ _ _ h => h) hS (by kernel_rfl) ?_
        simp only [pickOps, List.filterMap_cons, List.filterMap_nil, List.getElem?_cons_zero, List.getElem?_cons_succ]
        repeat ((with_reducible apply wpHeld_step); (· rfl); (· (intro wq hSw; first | (go_simp; rfl) | (fail))); intro K hK; go_simp; (with_reducible refine hK _ ?_); clear hK K)
        refine wpHeld_nil ?_
        refine wpAllT_one 11 rfl (by kernel_rfl) ?_
        (with_reducible refine at_store ?_); refine nls hM ?_ (hX := set_4_0 _ _ _ _ _)
        clear hM hS
        intro wx2 hM
        refine wpList_then ⟨.inl (by kernel_rfl), wpAllT_drop (by kernel_rfl) (wpAll_done (by kernel_rfl) ?_)⟩
        clear HF
        go_upto_region 9 with fail
        refine wp_region_allB hM 7 (by kernel_rfl) ?_
        clear hM
        intro wd hM
        have HM0 := Lib.hid hM
        have hS := Below.refl wd.heap.size wd
        refine wpAllT_takes [4, 5, 0, 1, 2, 3, 6] (by kernel_rfl) (fun _ _ _ _ _ h => h) hS (by kernel_rfl) ?_
        simp only [pickOps, List.filterMap_cons, List.filterMap_nil, List.getElem?_cons_zero, List.getElem?_cons_succ]
        repeat ((with_reducible apply wpHeld_step); (· rfl); (· (intro wq hSw; first | (go_simp; rfl) | (have hM' := HM0.out.step hSw; first | exact yields_load (C := fun _ => True) (nqc hM') rfl | exact yields_load (C := fun _ => True) (nql hM') rfl | exact yields_load (C := fun _ => True) (nqp hM') rfl | fail))); intro K hK; go_simp; (with_reducible refine hK _ ?_); clear hK K)
        refine wpHeld_nil ?_
        refine wpAllT_one 7 rfl (by kernel_rfl) ?_
        refine nmd hM mty_bool hj ?_
        clear hM HM0 hS
        intro wx hM
        refine wpList_then ⟨.inl (by kernel_rfl), wpAllT_drop (by kernel_rfl) (wpAll_done (by kernel_rfl) ?_)⟩
        have hw : IntKind.i64.wrap (byt - b) = byt - b := IntWalk.i64_in _ ⟨by omega, by omega⟩
        go_upto_region 10 with fail
        refine wp_region_allB hM 10 (by kernel_rfl) ?_
        clear hM
        intro wd hM
        have HM0 := Lib.hid hM
        have hS := Below.refl wd.heap.size wd
        refine wpAllT_takes [4, 5, 0, 1, 2, 3, 6, 7, 8, 9] (by kernel_rfl) (fun _ _ _ _ _ h => h) hS (by kernel_rfl) ?_
        simp only [pickOps, List.filterMap_cons, List.filterMap_nil, List.getElem?_cons_zero, List.getElem?_cons_succ]
        repeat ((with_reducible apply wpHeld_step); (· rfl); (· (intro wq hSw; first | (go_simp; rfl) | (have hM' := HM0.out.step hSw; first | exact yields_load (C := fun _ => True) (nqc hM') rfl | exact yields_load (C := fun _ => True) (nql hM') rfl | exact yields_load (C := fun _ => True) (nqp hM') rfl | fail))); intro K hK; go_simp; (with_reducible refine hK _ ?_); clear hK K)
        refine wpHeld_nil ?_
        refine wpAllT_one 10 rfl (by kernel_rfl) ?_
        refine nls hM ?_ (v := .int .i64 (byt - b)) (hy := by first | (go_simp; done) | (go_simp; rfl) | (go_simp; rw [hw])) (hX := set_4_2 _ _ _ _ _)
        clear hM HM0 hS
        intro wx hM
        refine wpList_then ⟨.inl (by kernel_rfl), wpAllT_drop (by kernel_rfl) (wpAll_done (by kernel_rfl) ?_)⟩
        go_wp2_with (first | ((with_reducible refine at_load ?_); refine nlp hM ?_ (hty := row_id) (hX := by with_reducible exact stC_id _ _)) | ((with_reducible refine at_load ?_); refine nlc hM ?_) | ((with_reducible refine at_build ?_); refine nb_reas (j := j) (v1 := q) ?_) | ((with_reducible refine at_store ?_); refine nlw hM ?_; clear hM; intro wx hM))
        obtain ⟨hi', hj'⟩ := HJ2.out
        exact bodyPost_ret (results_mem_cell_tmp hM rfl (by rfl) (by repeat (first | exact List.Mem.head _ | apply List.Mem.tail)) row_reas (by rfl)) rfl (.inr ⟨i, hi', q, byt - b, updM mp j none, by rw [hj']; rfl, by omega, by omega, hM.subL (by exact List.Sublist.cons _ (List.Sublist.cons _ (List.Sublist.cons _ (List.Sublist.cons _ (List.Sublist.cons _ (List.Sublist.cons _ (List.Sublist.refl _)))))))⟩)
    · obtain rfl : q = 4 := by omega
      go_wp2_with (first | ((with_reducible refine at_build ?_); refine wpList_build_run rfl _ _ rfl #[] (by simp) _ (run_reas0 _) ?_) | ((first | with_reducible refine at_load ?_ | ((with_reducible refine at_load_g ?_ ?_); (· rfl))); first | refine nll hM ?_ | refine nlc hM ?_ | refine nlp hM ?_) | ((with_reducible refine at_store ?_); first | (refine nlw hM ?_; clear hM; intro wx hM) | (refine nls hM ?_; clear hM; intro wx hM) | (refine nlt hM ?_; clear hM; intro wx hM)) | ((with_reducible refine at_alloc ?_); refine nlz hM ?_; clear hM; intro gx wx hM) | ((with_reducible refine at_box ?_); first | (refine nlb hM ?_; clear hM; intro gx wx hM) | (refine nlx hM ?_; clear hM; intro gx wx hM)))
      exact bodyPost_ret (results_mem_cell_tmp hM rfl (by rfl) (by repeat (first | exact List.Mem.head _ | apply List.Mem.tail)) row_reas (by rfl)) rfl (.inl ⟨rfl, mp, hM.subL (by exact List.Sublist.cons _ (List.Sublist.cons _ (List.Sublist.cons _ (List.Sublist.cons _ (List.Sublist.cons _ (List.Sublist.refl _))))))⟩)
end
end Go.Proofs.YtpjphjokhccdaaaGreat
