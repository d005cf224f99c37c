/- Seat c: Take. -/
import Derived.Test.YtlidpdjainmaiaaGreatDoorGv
namespace Go.Cht
open Go Go.Bul
theorem prL_bytes (l : Ln) : Bytes (prL l) := by
  intro b hb
  simp only [prL, List.mem_cons, List.mem_append] at hb
  rcases hb with rfl | hb | rfl | rfl | rfl | hb | rfl | rfl | hb
  · omega
  · have := digN_digits _ b hb; omega
  · omega
  · omega
  · omega
  · exact bytes_of_nums _ b hb
  · omega
  · omega
  · exact bytes_of_nums _ b hb
theorem bodyL_take {ls : List Ln} {k : Nat} (h : k < ls.length) : bodyL (ls.take (k + 1)) = bodyL (ls.take k) ++ (prL ls[k] ++ [10]) := by
  rw [List.take_succ_eq_append_getElem h, bodyL_snoc]
theorem prL_len (l : Ln) (h : l.m ≤ 1000000000) (h1 : l.nick.size ≤ 1000) (h2 : l.text.size ≤ 1000) : (prL l).length ≤ 2016 := by
  have := digN_len l.m 10 (by decide) (by omega)
  simp only [prL, List.length_cons, List.length_append, nums_length]
  omega
theorem bodyL_len {ls : List Ln} (h : ∀ l ∈ ls, l.m ≤ 1000000000 ∧ l.nick.size ≤ 1000 ∧ l.text.size ≤ 1000) : (bodyL ls).length ≤ ls.length * 2017 := by
  induction ls with
  | nil => simp [bodyL]
  | cons l ls ih =>
    have h1 := h l (List.Mem.head _)
    have h2 := prL_len l h1.1 h1.2.1 h1.2.2
    have h3 := ih (fun x hx => h x (List.Mem.tail _ hx))
    rw [bodyL_cons, List.length_append, List.length_cons, List.length_cons]
    omega
theorem bodyL_bytes (ls : List Ln) : Bytes (bodyL ls) := by
  induction ls with
  | nil => intro b hb; simp [bodyL] at hb
  | cons l ls ih =>
    intro b hb
    rw [bodyL_cons] at hb
    rcases List.mem_append.1 hb with hb | hb
    · exact prL_bytes l b hb
    · rcases List.mem_cons.1 hb with rfl | hb
      · omega
      · exact ih b hb
theorem bodyL_pos {ls : List Ln} (h : 0 < ls.length) : 0 < (bodyL ls).length := by
  cases ls with
  | nil => simp at h
  | cons l ls => rw [bodyL_cons]; simp [prL]
end Go.Cht
namespace Go.Thg
open Go Go.RowKit Go.Bul
/-- What is new stands where something stood; one more is forgotten. -/
theorem Mem.swapR {G : List Nat} {w0 w : World} {L : List Ent} {R : List Thing} {r n x : Thing} {F : Thing → List Thing} (h : Mem G w0 L (n :: x :: R) w) (hu : UpdR r R F) : Mem G w0 L (F n) w := by
  obtain ⟨A, B, rfl, hF⟩ := hu
  rw [hF]
  have h1 := h.subR (R' := n :: (A ++ B)) (List.Sublist.cons_cons _ (List.Sublist.cons _ (List.Sublist.append_left (List.sublist_cons_self _ _) _)))
  refine h1.perm ?_
  exact List.perm_middle
theorem adv_zero {w : World} {e : TypeId} {size : Nat} {A : Option Addr} {n c m : Nat} {xs : List Value} (h : OffRow w e size (.slice A n c) m xs) : advA A 0 c size = A := by
  obtain ⟨_, B, d, hb, _, _, h5⟩ := h
  have e1 : A = B := by injection hb
  have e2 : c = d := by injection hb
  subst e1 e2
  unfold advA
  by_cases hc : c = 0
  · rw [if_pos hc]
  · rw [if_neg hc]
    obtain ⟨g, off, cur, rfl, _⟩ := h5 (by omega)
    simp [addr_at]
end Go.Thg
namespace Go.Proofs.YtlidpdjainmaiaaGreatDoor
open Go Go.RowKit Go.Bul Go.Thg Go.Lin Go.Cht
section
variable {w w0 : World} {G : List Nat} {L : List Ent} {R : List Thing} {FL : Array Value → List Ent} {FR : Thing → List Thing}
theorem pb_used (b : Nat) : PB b (pbl b) := .inr rfl
theorem wnl_any (b : Nat) (p V : Value) (l : List Nat) (hp : PB b p) (hz : Zf V) (hM : Mem G w0 L R w) (hL : UpdL b 63 2 #[p, V] L FL) (hR : UpdR (bT V l) R FR) (hs : l.length + 1 ≤ 1000000000) :
    Calls Tryz.prog 22 #[pbl b, .int .u8 10] w fun e w' => (∃ v, e = .returned v) ∧ ∃ A n c, Zf (.slice A n c) ∧ Mem G w0 (FL #[pbl b, .slice A n c]) (FR (bT (.slice A n c) (l ++ [10]))) w' := wbyte_any b p V l 10 hp hz hM hL hR hs
set_option maxRecDepth 20000 in
set_option maxHeartbeats 2000000 in
theorem take_no (g n c : Nat) (rm gp nk : ByteArray) (A : Option Addr) (last now mm mr : Nat) (hM : Mem G w0 L R w) (hL : ⟨g, 57, 7, gwA rm gp nk (.slice A n c) last mm mr⟩ ∈ L) (hl : last ≤ 1000000000) (hn : n ≤ 1000) (hno : n = 0 ∨ (n < 50 ∧ now < last + 10)) :
    Calls Tryz.prog 8 #[.pointer (some ⟨g, 0, none⟩), .int .i64 (now : Nat)] w fun e w' => e = .returned (.tuple #[.string ⟨#[]⟩, .string ⟨#[]⟩, .bool false]) ∧ Mem G w0 L R w' := by
  have l0 : (0 : Int) ≤ (last : Int) := Int.natCast_nonneg _
  have l1 : (last : Int) ≤ 1000000000 := by omega
  have n0 : (0 : Int) ≤ (n : Int) := Int.natCast_nonneg _
  by_cases h0 : n = 0
  · subst h0
    clear hno hn
    go_enter Tryz.func8, Tryz.ntmps8
    go_wp2_with (first | ((first | with_reducible refine at_load ?_ | ((with_reducible refine at_load_g ?_ ?_); (· rfl))); first | refine nll hM ?_ | refine nlc hM ?_ | refine nlp hM ?_) | ((with_reducible refine at_store ?_); first | (refine nlw hM ?_; clear hM; intro wx hM) | (refine nls hM ?_; clear hM; intro wx hM) | (refine nlt hM ?_; clear hM; intro wx hM)) | ((with_reducible refine at_alloc ?_); refine nlz hM ?_; clear hM; intro gx wx hM) | ((with_reducible refine at_box ?_); first | (refine nlb hM ?_; clear hM; intro gx wx hM) | (refine nlx hM ?_; clear hM; intro gx wx hM)))
    go_ret3
    exact ⟨rfl, hM⟩
  · have h1 : (((n : Nat) : Int) == 0) = false := by simp; omega
    have h2 : (n : Int) < 50 := by omega
    have h3 : (now : Int) < (last : Int) + 10 := by omega
    clear hno h0
    go_enter Tryz.func8, Tryz.ntmps8
    go_wp2_with (first | ((first | with_reducible refine at_load ?_ | ((with_reducible refine at_load_g ?_ ?_); (· rfl))); first | refine nll hM ?_ | refine nlc hM ?_ | refine nlp hM ?_) | ((with_reducible refine at_store ?_); first | (refine nlw hM ?_; clear hM; intro wx hM) | (refine nls hM ?_; clear hM; intro wx hM) | (refine nlt hM ?_; clear hM; intro wx hM)) | ((with_reducible refine at_alloc ?_); refine nlz hM ?_; clear hM; intro gx wx hM) | ((with_reducible refine at_box ?_); first | (refine nlb hM ?_; clear hM; intro gx wx hM) | (refine nlx hM ?_; clear hM; intro gx wx hM)))
    go_ret3
    exact ⟨rfl, hM⟩
set_option maxRecDepth 20000 in
set_option maxHeartbeats 8000000 in
theorem take_yes (g n c : Nat) (rm gp nk : ByteArray) (A : Option Addr) (last now mm mr : Nat) (ls : List Ln) (hM : Mem [] w0 L R w) (hT : Pow w0) (hL : UpdL g 57 7 (gwA rm gp nk (.slice A n c) last mm mr) L FL) (hR : UpdR (lT (.slice A n c) ls) R FR) (hl : last ≤ 1000000000) (hn : n ≤ 50) (hn0 : 0 < n) (hyes : n = 50 ∨ last + 10 ≤ now) (hls : ∀ l ∈ ls, l.m ≤ 1000000000 ∧ l.nick.size ≤ 1000 ∧ l.text.size ≤ 1000) (hrm : rm.size ≤ 1000) :
    Calls Tryz.prog 8 #[.pointer (some ⟨g, 0, none⟩), .int .i64 (now : Nat)] w fun e w' => ∃ (s : ByteArray) (m : Nat) (A' : Option Addr) (c' : Nat), m ≤ 1000000000 ∧ nums s = [67, 104, 97, 116, 32] ++ (nums rm ++ (32 :: digN m)) ∧ e = .returned (.tuple #[.string s, .string (bstr (bodyL ls)), .bool true]) ∧ Mem [] w0 (FL (gwA rm gp nk (.slice A' 0 c') last mm mr)) (FR (lT (.slice A' 0 c') [])) w' := by
  have l0 : (0 : Int) ≤ (last : Int) := Int.natCast_nonneg _
  have l1 : (last : Int) ≤ 1000000000 := by omega
  have n0 : (0 : Int) ≤ (n : Int) := Int.natCast_nonneg _
  have n1 : (n : Int) ≤ 50 := by omega
  have h1 : (((n : Nat) : Int) == 0) = false := by simp; omega
  have hL0 := mem_of_updL hL
  have hR0 := mem_of_updR hR
  have hP := hM.thing _ hR0
  obtain ⟨hnl, hnc⟩ := gT_len hP
  have HA := Lib.hid (adv_zero hP)
  obtain ⟨ga, off, rfl, _, _⟩ := gT_at cf_ln hP (by omega)
  have HT := Lib.hid hT
  have HLS := Lib.hid hls
  have HNL := Lib.hid hnl
  have HN := Lib.hid (And.intro hn0 (And.intro hn hnc))
  have hmin : min (n : Int) 50 = (n : Int) := by omega
  clear hT hls hnl hP
  by_cases h50 : n = 50
  · have h2 : ¬ (n : Int) < 50 := by omega
    clear hyes h50 hn hn0 hnc hl
    go_enter Tryz.func8, Tryz.ntmps8
    go_wp2_with (first | ((with_reducible refine at_slice ?_); refine lsl_hi rt_ln.u rt_ln.sz HN.out.2.2 HA.out ?_) | ((first | with_reducible refine at_load ?_ | ((with_reducible refine at_load_g ?_ ?_); (· rfl))); first | refine nll hM ?_ | refine nlc hM ?_ | refine nlp hM ?_) | ((with_reducible refine at_store ?_); first | (refine nlw hM ?_; clear hM; intro wx hM) | (refine nls hM ?_; clear hM; intro wx hM) | (refine nlt hM ?_; clear hM; intro wx hM)) | ((with_reducible refine at_alloc ?_); refine nlz hM ?_; clear hM; intro gx wx hM) | ((with_reducible refine at_box ?_); first | (refine nlb hM ?_; clear hM; intro gx wx hM) | (refine nlx hM ?_; clear hM; intro gx wx hM)))
    obtain ⟨bb, rfl⟩ : ∃ bb, bb = gx := ⟨_, rfl⟩
    have M0 := Lib.hid hM
    clear hM
    go_loopw [49] (fun a wr => ∃ k : Nat, k ≤ n ∧ a = .int .i64 (k : Nat) ∧ ∃ p V, Hid (PB bb p ∧ Zf V) ∧ Mem [] w0 (⟨bb, 63, 2, #[p, V]⟩ :: L) (bT V (bodyL (ls.take k)) :: R) wr) (fun a _ => n - (intOf a).toNat)
    case atStart => exact ⟨0, Nat.zero_le _, rfl, _, _, Lib.hid ⟨.inl rfl, Zf.nil⟩, Mem.gNil M0.out _ _ _⟩
    case round =>
      clear M0
      obtain ⟨k, hk, rfl, p, V, hpz, hM⟩ := hrel
      have k0 : (0 : Int) ≤ (k : Int) := Int.natCast_nonneg _
      by_cases hlt : k < n
      · have hlt' : (k : Int) < (n : Int) := by omega
        have hkl : k < ls.length := by have := HNL.out; omega
        have HX := Lib.hid (show ∀ w', Mem [] w0 (⟨bb, 63, 2, #[p, V]⟩ :: L) (bT V (bodyL (ls.take k)) :: R) w' → ∀ j u, (lnA ls[k])[j]? = some u → w'.cell? ⟨ga, off + k * 3 + j, none⟩ = some u from fun w' h j u hu => by
          obtain ⟨g2, o2, hA2, _, hc⟩ := gT_at cf_ln (h.thing _ (List.Mem.tail _ hR0)) (by omega)
          injection hA2 with hA2
          injection hA2 with e1 e2
          subst e1 e2
          exact hc k hkl j u (by rw [← hu]; simp [lnF]))
        have hlk := HLS.out ls[k] (List.getElem_mem hkl)
        have HPR := Lib.hid (fun w hT => print_any ls[k] hlk.1 hlk.2.1 hlk.2.2 w hT)
        have hbl := bodyL_len (ls := ls.take k) (fun x hx => HLS.out x (List.mem_of_mem_take hx))
        rw [List.length_take] at hbl
        have hpl := prL_len ls[k] hlk.1 hlk.2.1 hlk.2.2
        have hsz : (bodyL (ls.take k)).length + (bstr (prL ls[k])).size ≤ 1000000000 := by rw [bstr_size]; omega
        have HNP := Lib.hid (nums_bstr (prL_bytes ls[k]))
        have HTK := Lib.hid (bodyL_take hkl)
        have hsz2 : (bodyL (ls.take k) ++ nums (bstr (prL ls[k]))).length + 1 ≤ 1000000000 := by rw [HNP.out, List.length_append]; omega
        clear hlk hbl hpl
        go_wp2_with (first | ((with_reducible refine at_load ?_); refine nlr (HX.out _ hM) ?_ (hty := row_line)) | ((with_reducible refine (HPR.out _ (HT.out.keep hM.below)).mono ?_); rintro e w1 ⟨rfl, hb⟩; replace hM := hM.step hb; clear hb) | ((with_reducible refine (wstr_any bb p V _ _ hpz.out.1 hpz.out.2 hM (UpdL.tail _ (UpdL.head _ _ _ _ _)) (UpdR.head _ _) hsz).mono ?_); rintro e w1 ⟨⟨v1, rfl⟩, A2, N2, c2, hz2, hM2⟩; clear hM; have hM := hM2; clear hM2) | ((with_reducible refine (wnl_any bb (pbl bb) _ _ (pb_used bb) hz2 hM (UpdL.tail _ (UpdL.head _ _ _ _ _)) (UpdR.head _ _) hsz2).mono ?_); rintro e w1 ⟨⟨v1, rfl⟩, A3, N3, c3, hz3, hM2⟩; clear hM; have hM := hM2; clear hM2) | ((first | with_reducible refine at_load ?_ | ((with_reducible refine at_load_g ?_ ?_); (· rfl))); first | refine nll hM ?_ | refine nlc hM ?_ | refine nlp hM ?_) | ((with_reducible refine at_store ?_); first | (refine nlw hM ?_; clear hM; intro wx hM) | (refine nls hM ?_; clear hM; intro wx hM) | (refine nlt hM ?_; clear hM; intro wx hM)) | ((with_reducible refine at_alloc ?_); refine nlz hM ?_; clear hM; intro gx wx hM) | ((with_reducible refine at_box ?_); first | (refine nlb hM ?_; clear hM; intro gx wx hM) | (refine nlx hM ?_; clear hM; intro gx wx hM)))
        refine ⟨⟨k + 1, by omega, by go_num, pbl bb, _, Lib.hid ⟨.inr rfl, hz3⟩, ?_⟩, by simp [intOf]; omega⟩
        rw [HTK.out, ← List.append_assoc]
        rw [HNP.out] at hM
        exact hM.subL (List.sublist_cons_self _ _)
      · obtain rfl : k = n := by omega
        have hk0 : 0 < ls.length := by have := HNL.out; have := HN.out; omega
        have hi1 : 0 < k := HN.out.1
        have hi0 : (0 : Int) < (k : Int) := by omega
        have HX := Lib.hid (show ∀ w', Mem [] w0 (⟨bb, 63, 2, #[p, V]⟩ :: L) (bT V (bodyL (ls.take k)) :: R) w' → w'.cell? ⟨ga, off, none⟩ = some (.int .i64 (ls[0].m : Nat)) from fun w' h => by
          obtain ⟨g2, o2, hA2, _, hc⟩ := gT_at cf_ln (h.thing _ (List.Mem.tail _ hR0)) hk0
          injection hA2 with hA2
          injection hA2 with e1 e2
          subst e1 e2
          have := hc 0 hk0 0 (.int .i64 (ls[0].m : Nat)) rfl
          simpa using this)
        have HDG := Lib.hid (fun w hT => digits_any ls[0].m (HLS.out _ (List.getElem_mem hk0)).1 w hT)
        have hdl := digN_len ls[0].m 10 (by decide) (by have := (HLS.out _ (List.getElem_mem hk0)).1; omega)
        obtain ⟨ds, hds⟩ : ∃ ds, bstr (digN ls[0].m) = ds := ⟨_, rfl⟩
        have hds10 : ds.size ≤ 10 := by rw [← hds, bstr_size]; exact hdl
        rw [hds] at HDG
        have HDS := Lib.hid hds
        clear hds hdl
        go_wp2_with fail
        refine wp_region_allHB hM (by kernel_rfl) ?_
        clear hM
        intro wd hM
        have HM0 := Lib.hid hM
        have hS := Below.refl wd.heap.size wd
        refine wpAllH_takes [0, 1, 2, 3, 4, 5, 6, 7, 8, 9, 10, 11, 12] (by kernel_rfl) (fun _ _ _ _ _ h => h) hS (by kernel_rfl) ?_
        simp only [pickOps, List.filterMap_cons, List.filterMap_nil, List.getElem?_cons_zero, List.getElem?_cons_succ]
        repeat ((with_reducible apply wpHeld_step); (· rfl); (· (intro wq hSw; first | (go_simp; rfl) | (have hM' := HM0.out.step hSw; first | exact yields_load (C := fun _ => True) (nqc hM') rfl | exact yields_load (C := fun _ => True) (nql hM') rfl | exact yields_load (C := fun _ => True) (nqp hM') rfl | first | exact ycat | exact yields_load (C := fun _ => True) (nqo (HX.out _ hM')) rfl))); intro K hK; go_simp; (with_reducible refine hK _ ?_); clear hK K)
        refine wpHeld_nil ?_
        refine wpAllH_one 13 rfl (by kernel_rfl) ?_
        go_wp2_with fail
        refine (HDG.out _ (HT.out.keep hM.below)).mono ?_
        rintro e w1 ⟨rfl, hb⟩
        go_wp2_with fail
        replace hM := hM.step hb
        replace hS := Below.step hS hb
        clear hb
        refine then_normal ⟨hS, ?_⟩
        refine wpAllH_takes [14, 15] (by kernel_rfl) (fun _ _ _ _ _ h => h) hS (by kernel_rfl) ?_
        simp only [pickOps, List.filterMap_cons, List.filterMap_nil, List.getElem?_cons_zero, List.getElem?_cons_succ]
        repeat ((with_reducible apply wpHeld_step); (· rfl); (· (intro wq hSw; first | (go_simp; rfl) | (have hM' := HM0.out.step hSw; first | exact yields_load (C := fun _ => True) (nqc hM') rfl | exact yields_load (C := fun _ => True) (nql hM') rfl | exact yields_load (C := fun _ => True) (nqp hM') rfl | exact ycat))); intro K hK; go_simp; (with_reducible refine hK _ ?_); clear hK K)
        refine wpHeld_nil ?_
        clear hS HM0
        refine wpAllH_done (by kernel_rfl) ?_
        go_wp2_with (first | ((with_reducible refine at_slice ?_); refine lsl_lo rt_ln.u rt_ln.sz (Nat.le_refl _) HN.out.2.2 ?_) | ((refine (lclone_any _ 0 _ [] _ (Reads.nil _ _ _) rfl (Nat.zero_le _)).mono ?_); rintro e w1 ⟨A4, c4, rfl, hb⟩; replace hM := hM.newThing hb; clear hb) | ((with_reducible refine at_store ?_); refine nls hM ?_ (hL := UpdL.tail _ hL); clear hM; intro wx hM) | ((first | with_reducible refine at_load ?_ | ((with_reducible refine at_load_g ?_ ?_); (· rfl))); first | refine nll hM ?_ | refine nlc hM ?_ | refine nlp hM ?_) | ((with_reducible refine at_store ?_); first | (refine nlw hM ?_; clear hM; intro wx hM) | (refine nls hM ?_; clear hM; intro wx hM) | (refine nlt hM ?_; clear hM; intro wx hM)) | ((with_reducible refine at_alloc ?_); refine nlz hM ?_; clear hM; intro gx wx hM) | ((with_reducible refine at_box ?_); first | (refine nlb hM ?_; clear hM; intro gx wx hM) | (refine nlx hM ?_; clear hM; intro gx wx hM)))
        have HBY : Bytes (bodyL (ls.take k)) := bodyL_bytes _
        have HB0 : 0 < (bodyL (ls.take k)).length := bodyL_pos (by rw [List.length_take]; omega)
        have hbl := bodyL_len (ls := ls.take k) (fun x hx => HLS.out x (List.mem_of_mem_take hx))
        rw [List.length_take] at hbl
        obtain ⟨Ab, cb, rfl, _⟩ := gT_form (hM.thing _ (List.Mem.tail _ (List.Mem.head _)))
        obtain ⟨gb, ob, rfl, _, _⟩ := gT_at cf_by (hM.thing _ (List.Mem.tail _ (List.Mem.head _))) HB0
        obtain rfl : ob = 0 := hpz.out.2 _ _ _ rfl
        refine (bstring_any bb gb _ _ p _ hM (List.Mem.head _) (UpdR.tail _ (UpdR.head _ _)) HBY HB0 (by omega)).mono ?_
        rintro e w1 ⟨rfl, hM2⟩
        clear hM
        have hM := hM2
        clear hM2
        go_wp2_with fail
        go_ret3
        refine ⟨((⟨#[67, 104, 97, 116, 32]⟩ ++ rm) ++ ⟨#[32]⟩) ++ ds, ls[0].m, A4, c4, (HLS.out _ (List.getElem_mem hk0)).1, ?_, by rw [List.take_of_length_le (by have := HNL.out; omega)]; rfl, (hM.swapR hR).subL (List.sublist_cons_self _ _)⟩
        rw [← HDS.out]
        simp [nums_append, nums_mk]
        exact nums_bstr (fun b hb => by have := digN_digits _ b hb; omega)
  · have h2 : (n : Int) < 50 := by omega
    have h3 : ¬ (now : Int) < (last : Int) + 10 := by omega
    clear hyes h50 hn hn0 hnc hl
    go_enter Tryz.func8, Tryz.ntmps8
    go_wp2_with (first | ((with_reducible refine at_slice ?_); refine lsl_hi rt_ln.u rt_ln.sz HN.out.2.2 HA.out ?_) | ((first | with_reducible refine at_load ?_ | ((with_reducible refine at_load_g ?_ ?_); (· rfl))); first | refine nll hM ?_ | refine nlc hM ?_ | refine nlp hM ?_) | ((with_reducible refine at_store ?_); first | (refine nlw hM ?_; clear hM; intro wx hM) | (refine nls hM ?_; clear hM; intro wx hM) | (refine nlt hM ?_; clear hM; intro wx hM)) | ((with_reducible refine at_alloc ?_); refine nlz hM ?_; clear hM; intro gx wx hM) | ((with_reducible refine at_box ?_); first | (refine nlb hM ?_; clear hM; intro gx wx hM) | (refine nlx hM ?_; clear hM; intro gx wx hM)))
    obtain ⟨bb, rfl⟩ : ∃ bb, bb = gx := ⟨_, rfl⟩
    have M0 := Lib.hid hM
    clear hM
    go_loopw [49] (fun a wr => ∃ k : Nat, k ≤ n ∧ a = .int .i64 (k : Nat) ∧ ∃ p V, Hid (PB bb p ∧ Zf V) ∧ Mem [] w0 (⟨bb, 63, 2, #[p, V]⟩ :: L) (bT V (bodyL (ls.take k)) :: R) wr) (fun a _ => n - (intOf a).toNat)
    case atStart => exact ⟨0, Nat.zero_le _, rfl, _, _, Lib.hid ⟨.inl rfl, Zf.nil⟩, Mem.gNil M0.out _ _ _⟩
    case round =>
      clear M0
      obtain ⟨k, hk, rfl, p, V, hpz, hM⟩ := hrel
      have k0 : (0 : Int) ≤ (k : Int) := Int.natCast_nonneg _
      by_cases hlt : k < n
      · have hlt' : (k : Int) < (n : Int) := by omega
        have hkl : k < ls.length := by have := HNL.out; omega
        have HX := Lib.hid (show ∀ w', Mem [] w0 (⟨bb, 63, 2, #[p, V]⟩ :: L) (bT V (bodyL (ls.take k)) :: R) w' → ∀ j u, (lnA ls[k])[j]? = some u → w'.cell? ⟨ga, off + k * 3 + j, none⟩ = some u from fun w' h j u hu => by
          obtain ⟨g2, o2, hA2, _, hc⟩ := gT_at cf_ln (h.thing _ (List.Mem.tail _ hR0)) (by omega)
          injection hA2 with hA2
          injection hA2 with e1 e2
          subst e1 e2
          exact hc k hkl j u (by rw [← hu]; simp [lnF]))
        have hlk := HLS.out ls[k] (List.getElem_mem hkl)
        have HPR := Lib.hid (fun w hT => print_any ls[k] hlk.1 hlk.2.1 hlk.2.2 w hT)
        have hbl := bodyL_len (ls := ls.take k) (fun x hx => HLS.out x (List.mem_of_mem_take hx))
        rw [List.length_take] at hbl
        have hpl := prL_len ls[k] hlk.1 hlk.2.1 hlk.2.2
        have hsz : (bodyL (ls.take k)).length + (bstr (prL ls[k])).size ≤ 1000000000 := by rw [bstr_size]; omega
        have HNP := Lib.hid (nums_bstr (prL_bytes ls[k]))
        have HTK := Lib.hid (bodyL_take hkl)
        have hsz2 : (bodyL (ls.take k) ++ nums (bstr (prL ls[k]))).length + 1 ≤ 1000000000 := by rw [HNP.out, List.length_append]; omega
        clear hlk hbl hpl
        go_wp2_with (first | ((with_reducible refine at_load ?_); refine nlr (HX.out _ hM) ?_ (hty := row_line)) | ((with_reducible refine (HPR.out _ (HT.out.keep hM.below)).mono ?_); rintro e w1 ⟨rfl, hb⟩; replace hM := hM.step hb; clear hb) | ((with_reducible refine (wstr_any bb p V _ _ hpz.out.1 hpz.out.2 hM (UpdL.tail _ (UpdL.head _ _ _ _ _)) (UpdR.head _ _) hsz).mono ?_); rintro e w1 ⟨⟨v1, rfl⟩, A2, N2, c2, hz2, hM2⟩; clear hM; have hM := hM2; clear hM2) | ((with_reducible refine (wnl_any bb (pbl bb) _ _ (pb_used bb) hz2 hM (UpdL.tail _ (UpdL.head _ _ _ _ _)) (UpdR.head _ _) hsz2).mono ?_); rintro e w1 ⟨⟨v1, rfl⟩, A3, N3, c3, hz3, hM2⟩; clear hM; have hM := hM2; clear hM2) | ((first | with_reducible refine at_load ?_ | ((with_reducible refine at_load_g ?_ ?_); (· rfl))); first | refine nll hM ?_ | refine nlc hM ?_ | refine nlp hM ?_) | ((with_reducible refine at_store ?_); first | (refine nlw hM ?_; clear hM; intro wx hM) | (refine nls hM ?_; clear hM; intro wx hM) | (refine nlt hM ?_; clear hM; intro wx hM)) | ((with_reducible refine at_alloc ?_); refine nlz hM ?_; clear hM; intro gx wx hM) | ((with_reducible refine at_box ?_); first | (refine nlb hM ?_; clear hM; intro gx wx hM) | (refine nlx hM ?_; clear hM; intro gx wx hM)))
        refine ⟨⟨k + 1, by omega, by go_num, pbl bb, _, Lib.hid ⟨.inr rfl, hz3⟩, ?_⟩, by simp [intOf]; omega⟩
        rw [HTK.out, ← List.append_assoc]
        rw [HNP.out] at hM
        exact hM.subL (List.sublist_cons_self _ _)
      · obtain rfl : k = n := by omega
        have hk0 : 0 < ls.length := by have := HNL.out; have := HN.out; omega
        have hi1 : 0 < k := HN.out.1
        have hi0 : (0 : Int) < (k : Int) := by omega
        have HX := Lib.hid (show ∀ w', Mem [] w0 (⟨bb, 63, 2, #[p, V]⟩ :: L) (bT V (bodyL (ls.take k)) :: R) w' → w'.cell? ⟨ga, off, none⟩ = some (.int .i64 (ls[0].m : Nat)) from fun w' h => by
          obtain ⟨g2, o2, hA2, _, hc⟩ := gT_at cf_ln (h.thing _ (List.Mem.tail _ hR0)) hk0
          injection hA2 with hA2
          injection hA2 with e1 e2
          subst e1 e2
          have := hc 0 hk0 0 (.int .i64 (ls[0].m : Nat)) rfl
          simpa using this)
        have HDG := Lib.hid (fun w hT => digits_any ls[0].m (HLS.out _ (List.getElem_mem hk0)).1 w hT)
        have hdl := digN_len ls[0].m 10 (by decide) (by have := (HLS.out _ (List.getElem_mem hk0)).1; omega)
        obtain ⟨ds, hds⟩ : ∃ ds, bstr (digN ls[0].m) = ds := ⟨_, rfl⟩
        have hds10 : ds.size ≤ 10 := by rw [← hds, bstr_size]; exact hdl
        rw [hds] at HDG
        have HDS := Lib.hid hds
        clear hds hdl
        go_wp2_with fail
        refine wp_region_allHB hM (by kernel_rfl) ?_
        clear hM
        intro wd hM
        have HM0 := Lib.hid hM
        have hS := Below.refl wd.heap.size wd
        refine wpAllH_takes [0, 1, 2, 3, 4, 5, 6, 7, 8, 9, 10, 11, 12] (by kernel_rfl) (fun _ _ _ _ _ h => h) hS (by kernel_rfl) ?_
        simp only [pickOps, List.filterMap_cons, List.filterMap_nil, List.getElem?_cons_zero, List.getElem?_cons_succ]
        repeat ((with_reducible apply wpHeld_step); (· rfl); (· (intro wq hSw; first | (go_simp; rfl) | (have hM' := HM0.out.step hSw; first | exact yields_load (C := fun _ => True) (nqc hM') rfl | exact yields_load (C := fun _ => True) (nql hM') rfl | exact yields_load (C := fun _ => True) (nqp hM') rfl | first | exact ycat | exact yields_load (C := fun _ => True) (nqo (HX.out _ hM')) rfl))); intro K hK; go_simp; (with_reducible refine hK _ ?_); clear hK K)
        refine wpHeld_nil ?_
        refine wpAllH_one 13 rfl (by kernel_rfl) ?_
        go_wp2_with fail
        refine (HDG.out _ (HT.out.keep hM.below)).mono ?_
        rintro e w1 ⟨rfl, hb⟩
        go_wp2_with fail
        replace hM := hM.step hb
        replace hS := Below.step hS hb
        clear hb
        refine then_normal ⟨hS, ?_⟩
        refine wpAllH_takes [14, 15] (by kernel_rfl) (fun _ _ _ _ _ h => h) hS (by kernel_rfl) ?_
        simp only [pickOps, List.filterMap_cons, List.filterMap_nil, List.getElem?_cons_zero, List.getElem?_cons_succ]
        repeat ((with_reducible apply wpHeld_step); (· rfl); (· (intro wq hSw; first | (go_simp; rfl) | (have hM' := HM0.out.step hSw; first | exact yields_load (C := fun _ => True) (nqc hM') rfl | exact yields_load (C := fun _ => True) (nql hM') rfl | exact yields_load (C := fun _ => True) (nqp hM') rfl | exact ycat))); intro K hK; go_simp; (with_reducible refine hK _ ?_); clear hK K)
        refine wpHeld_nil ?_
        clear hS HM0
        refine wpAllH_done (by kernel_rfl) ?_
        go_wp2_with (first | ((with_reducible refine at_slice ?_); refine lsl_lo rt_ln.u rt_ln.sz (Nat.le_refl _) HN.out.2.2 ?_) | ((refine (lclone_any _ 0 _ [] _ (Reads.nil _ _ _) rfl (Nat.zero_le _)).mono ?_); rintro e w1 ⟨A4, c4, rfl, hb⟩; replace hM := hM.newThing hb; clear hb) | ((with_reducible refine at_store ?_); refine nls hM ?_ (hL := UpdL.tail _ hL); clear hM; intro wx hM) | ((first | with_reducible refine at_load ?_ | ((with_reducible refine at_load_g ?_ ?_); (· rfl))); first | refine nll hM ?_ | refine nlc hM ?_ | refine nlp hM ?_) | ((with_reducible refine at_store ?_); first | (refine nlw hM ?_; clear hM; intro wx hM) | (refine nls hM ?_; clear hM; intro wx hM) | (refine nlt hM ?_; clear hM; intro wx hM)) | ((with_reducible refine at_alloc ?_); refine nlz hM ?_; clear hM; intro gx wx hM) | ((with_reducible refine at_box ?_); first | (refine nlb hM ?_; clear hM; intro gx wx hM) | (refine nlx hM ?_; clear hM; intro gx wx hM)))
        have HBY : Bytes (bodyL (ls.take k)) := bodyL_bytes _
        have HB0 : 0 < (bodyL (ls.take k)).length := bodyL_pos (by rw [List.length_take]; omega)
        have hbl := bodyL_len (ls := ls.take k) (fun x hx => HLS.out x (List.mem_of_mem_take hx))
        rw [List.length_take] at hbl
        obtain ⟨Ab, cb, rfl, _⟩ := gT_form (hM.thing _ (List.Mem.tail _ (List.Mem.head _)))
        obtain ⟨gb, ob, rfl, _, _⟩ := gT_at cf_by (hM.thing _ (List.Mem.tail _ (List.Mem.head _))) HB0
        obtain rfl : ob = 0 := hpz.out.2 _ _ _ rfl
        refine (bstring_any bb gb _ _ p _ hM (List.Mem.head _) (UpdR.tail _ (UpdR.head _ _)) HBY HB0 (by omega)).mono ?_
        rintro e w1 ⟨rfl, hM2⟩
        clear hM
        have hM := hM2
        clear hM2
        go_wp2_with fail
        go_ret3
        refine ⟨((⟨#[67, 104, 97, 116, 32]⟩ ++ rm) ++ ⟨#[32]⟩) ++ ds, ls[0].m, A4, c4, (HLS.out _ (List.getElem_mem hk0)).1, ?_, by rw [List.take_of_length_le (by have := HNL.out; omega)]; rfl, (hM.swapR hR).subL (List.sublist_cons_self _ _)⟩
        rw [← HDS.out]
        simp [nums_append, nums_mk]
        exact nums_bstr (fun b hb => by have := digN_digits _ b hb; omega)
end
end Go.Proofs.YtlidpdjainmaiaaGreatDoor
