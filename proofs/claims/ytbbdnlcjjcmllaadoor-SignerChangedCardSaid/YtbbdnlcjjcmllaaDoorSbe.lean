/- Base64: encode and Encode. -/
import Derived.Test.YtbbdnlcjjcmllaaDoorWd
namespace Go.Lin
open Go Go.Bul
/-- What encode has after some bytes: the text so far and what is left. -/
def encS (b c : Nat) : List Nat → List Nat × Nat × Nat
  | [] => ([], b, c)
  | x :: xs => (emitL (b * 256 + x) (c + 8) ++ (encS (remB (b * 256 + x) (c + 8)).1 (remB (b * 256 + x) (c + 8)).2 xs).1, (encS (remB (b * 256 + x) (c + 8)).1 (remB (b * 256 + x) (c + 8)).2 xs).2)
theorem encS_append (xs : List Nat) (y : Nat) : ∀ b c, encS b c (xs ++ [y]) = ((encS b c xs).1 ++ emitL ((encS b c xs).2.1 * 256 + y) ((encS b c xs).2.2 + 8), remB ((encS b c xs).2.1 * 256 + y) ((encS b c xs).2.2 + 8)) := by
  induction xs with
  | nil => intro b c; simp [encS]
  | cons x xs ih => intro b c; simp [encS, ih]
theorem encS_ok (xs : List Nat) : ∀ b c, c < 6 → b < 2 ^ c → Bytes xs → c % 2 = 0 → (encS b c xs).2.1 < 2 ^ (encS b c xs).2.2 ∧ (encS b c xs).2.2 < 5 ∧ (encS b c xs).1.length ≤ (c + 8 * xs.length) / 6 ∧ encO b c xs = (encS b c xs).1 ++ (if 0 < (encS b c xs).2.2 then [(encS b c xs).2.1 * 2 ^ (6 - (encS b c xs).2.2)] else []) := by
  induction xs with
  | nil => intro b c hc hb _ h2; exact ⟨hb, show c < 5 by omega, Nat.zero_le _, rfl⟩
  | cons x xs ih =>
    intro b c hc hb hy h2
    have hx : x < 256 := hy x (List.Mem.head _)
    have h3 : b * 256 + x < 2 ^ (c + 8) := by rw [Nat.pow_add]; omega
    have h4 := remB_2 (c + 8) (b * 256 + x)
    have h5 := remB_lt (c + 8) _ h3
    rw [← h4] at h5
    obtain ⟨i1, i2, i3, i4⟩ := ih (remB (b * 256 + x) (c + 8)).1 (remB (b * 256 + x) (c + 8)).2 (by omega) h5 (fun z hz => hy z (List.Mem.tail _ hz)) (by omega)
    refine ⟨i1, i2, ?_, ?_⟩
    · simp only [encS, List.length_append, emitL_length, List.length_cons]
      omega
    · simp only [encS, encO, i4, List.append_assoc]
      rfl
end Go.Lin
namespace Go.Proofs.YtbbdnlcjjcmllaaDoor
open Go Go.RowKit Go.Bul Go.Thg Go.Lin
section
variable {P : Program} {w w0 : World} {G : List Nat} {L : List Ent} {R : List Thing} {ops : Array Oper} {rest : List Oper} {a : Act} {Q : Exit → Act → World → Prop} {dst : Option Tmp} {type : TypeId} {pos : String} {after : Array Edge}
theorem at_conv {t u : TypeId} {x : Operand} (h : wpList P ops Q (⟨dst, .convert t u x, type, pos, after, none⟩ :: rest) a w) : wpList P ops Q (⟨dst, .convert t u x, type, pos, after, none⟩ :: rest) a w := h
theorem lcs {x : Operand} {o : Oper} {A : Option Addr} {n c : Nat} {bs : List Nat} (hr : Reads w 1 A n (vals .u8 bs)) (h : wpList Tryd.prog ops Q rest (a.put o.dst (.string (bstr bs))) w) (hgd : o.guard = none := by rfl) (ho : o.op = .convert 79 9 x := by rfl) (hx : a.eval x = .slice A n c := by rfl) : wpList Tryd.prog ops Q (o :: rest) a w :=
  wpList_plain hgd fun K hK => by
    unfold Oper.wp execOp
    simp only [ho, hx, Sem.run_bind, Sem.run_pure, Result.andThen_ok, reads_str hr c]
    exact hK _ _ h
end
theorem idx_lt {b c : Nat} (hb : b < 2 ^ c) (hc : c < 5) : b * 2 ^ (6 - c) < 64 := by
  have h : 2 ^ c * 2 ^ (6 - c) = 64 := by rw [← Nat.pow_add, show c + (6 - c) = 6 by omega]
  have h2 : b * 2 ^ (6 - c) < 2 ^ c * 2 ^ (6 - c) := Nat.mul_lt_mul_of_pos_right hb (Nat.pow_pos (by decide))
  omega
def cellL (g : Nat) (w : World) : Nat := match w.cell? ⟨g, 0, none⟩ with
  | some (.slice _ m _) => m
  | _ => 0
theorem cellL_of {w w0 : World} {L : List Ent} {R : List Thing} {g : Nat} {t : TypeId} {E : Option Addr} {m e : Nat} (hM : Mem [] w0 L R w) (h : ⟨g, t, 1, #[.slice E m e]⟩ ∈ L) : cellL g w = m := by
  have h1 := (hM.blk h).cell 0
  simp only [List.getElem?_toArray, List.getElem?_cons_zero] at h1
  unfold cellL
  simp only [h1]
theorem perm_rg {α : Type} (c b p o f t : α) : List.Perm [t, b, c, f, o, p] [c, b, p, o, f, t] := by
  have h1 : List.Perm ([c, b, p, o, f] ++ [t]) ([t] ++ [c, b, p, o, f]) := List.perm_append_comm
  have h2 : List.Perm [c, b, p, o, f] [b, c, p, o, f] := List.Perm.swap _ _ _
  have h3 : List.Perm [p, o, f] [f, o, p] := (List.reverse_perm [p, o, f]).symm
  exact (h1.trans ((h2.trans ((h3.cons c).cons b)).cons t)).symm
set_option maxRecDepth 20000 in
set_option maxHeartbeats 4000000 in
theorem encode_any (A : Option Addr) (n c : Nat) (bs : List Nat) (w : World) (hr : Reads w 1 A n (vals .u8 bs)) (hB : Bytes bs) (h0 : 0 < n) (hn : n ≤ 60000) (hA : Alp w) :
    Calls Tryd.prog 63 #[.slice A n c] w fun e w' => e = .returned (.string (bstr (encT bs))) ∧ Below w.heap.size w w' := by
  have hM := Mem.start [] w
  have hlen : bs.length = n := by have := hr.1; simp at this; omega
  obtain ⟨cap, hcap⟩ : ∃ cap, cap = (n + 2) / 3 * 4 := ⟨_, rfl⟩
  have HC : ((n : Int) + 2) / 3 * 4 = (cap : Int) := by omega
  have hc9 : cap ≤ 1000000000 := by omega
  obtain ⟨sg, so, rfl, hsg, hcs⟩ := hr.2 h0
  have HX := Lib.hid (fun (k : Nat) (hk : k < n) w' (hb : Below w.heap.size w w') => (hb.cell (p := ⟨sg, so + k, none⟩) hsg).trans (hcs k (.int .u8 (bs.getD k 0 : Nat)) (by simp [vals, List.getD, List.getElem?_eq_getElem (by omega : k < bs.length)])))
  have HBY := Lib.hid (fun (k : Nat) (hk : k < n) => show bs.getD k 0 < 256 by rw [List.getD_eq_getElem?_getD, List.getElem?_eq_getElem (by omega)]; exact hB _ (List.getElem_mem _))
  have HTK := Lib.hid (fun (k : Nat) (hk : k < n) => show bs.take (k + 1) = bs.take k ++ [bs.getD k 0] by rw [List.take_add_one, List.getD_eq_getElem?_getD, List.getElem?_eq_getElem (by omega)]; rfl)
  have HOK := Lib.hid (fun (k : Nat) (hk : k ≤ n) => encS_ok (bs.take k) 0 0 (by decide) (by decide) (fun x hx => hB x (List.take_subset _ _ hx)) rfl)
  have HTL := Lib.hid (fun (k : Nat) (hk : k ≤ n) => show (bs.take k).length = k by rw [List.length_take]; omega)
  have HALL := Lib.hid (show bs.take n = bs by rw [← hlen, List.take_length])
  have HAD := Lib.hid (fun (w1 : World) (L : List Ent) (R : List Thing) (gt gb gc gf go gp : Nat) (E : Option Addr) (m e2 : Nat) (out : List Nat) (b c x : Nat) (hM : Mem [] w (rgL gt gb gc gf go gp (.slice E m e2) b c ++ L) (bT (.slice E m e2) out :: R) w1) (hx : x < 256) (hc : c < 5) (hb : b < 2 ^ c) (hl : out.length ≤ 90000) => radd_any E m e2 out b c x hM hx hc hb hl hA)
  have HALP := Lib.hid (fun (i : Nat) (hi : i < 64) (w' : World) (hb : Below w.heap.size w w') => hA.keep hb i hi)
  clear hcap hr hB hcs hA hsg
  obtain ⟨E, W, h1, h2⟩ := made_bytes w cap hc9
  have hM1 := Lib.hid ((hM.newThing h2).alloc #[.slice E 0 cap] 79 (n := 1) rfl)
  have HRG := Lib.hid (fun (w : World) (gt : Nat) => regroup_any w gt)
  replace h1 := Lib.hid h1
  clear h2 hM
  go_enter Tryd.func63, Tryd.ntmps63
  go_wp2_with fail
  rw [h1.out]
  have hM := hM1.out
  clear hM1 h1
  go_wp2_with fail
  refine (HRG.out _ _).mono ?_
  rintro e w1 ⟨gb, gc, gf, go, gp, rfl, hF⟩
  replace hM := hM.frame hF
  clear hF HRG
  replace hM := hM.permL (perm_rg _ _ _ _ _ _)
  obtain ⟨gt, hgt⟩ : ∃ gt, gt = W.heap.size := ⟨_, rfl⟩
  simp only [← hgt] at hM ⊢
  clear hgt
  go_wp2_with fail
  have M0 := Lib.hid hM
  clear hM
  go_loopw [23] (fun i wr => ∃ (k : Nat) (E : Option Addr) (m e2 : Nat), k ≤ n ∧ i = .int .i64 (k : Nat) ∧ Mem [] w (rgL gt gb gc gf go gp (.slice E m e2) (encS 0 0 (bs.take k)).2.1 (encS 0 0 (bs.take k)).2.2 ++ []) [bT (.slice E m e2) ((encS 0 0 (bs.take k)).1.map alf)] wr) (fun i _ => n - (intOf i).toNat)
  case atStart => exact ⟨0, E, 0, cap, by omega, rfl, M0.out⟩
  case round =>
    clear M0
    obtain ⟨k, E1, m1, e1, hk, rfl, hM⟩ := hrel
    by_cases hlt : k < n
    · have HXK := HX.out k hlt
      have hx1 := HBY.out k hlt
      have HTK1 := HTK.out k hlt
      obtain ⟨i1, i2, i3, _⟩ := HOK.out k hk
      rw [HTL.out k hk] at i3
      generalize bs.getD k 0 = xk at HXK hx1 HTK1
      have HEA := encS_append (bs.take k) xk 0 0
      rw [← HTK1] at HEA
      obtain ⟨T2, hT2⟩ : ∃ T2, T2 = bs.take (k + 1) := ⟨_, rfl⟩
      rw [← hT2] at HEA
      replace hT2 := Lib.hid hT2
      generalize encS 0 0 (bs.take k) = S1 at HEA i1 i2 i3 hM
      replace HEA := Lib.hid HEA
      have hl9 := Lib.hid (show (S1.1.map alf).length ≤ 90000 by rw [List.length_map]; omega)
      have hx2 : (0 : Int) ≤ (xk : Int) := Int.natCast_nonneg _
      have hx3 : (xk : Int) < 256 := by omega
      replace HXK := Lib.hid HXK
      clear i3 HTK1
      go_wp2_with (first | ((with_reducible refine at_load ?_); refine lo (HXK.out _ hM.below) ?_ (hty := one_u8)) | ((first | with_reducible refine at_load ?_ | ((with_reducible refine at_load_g ?_ ?_); (· rfl))); first | refine sll hM ?_ | refine slc hM ?_ | refine slp hM ?_) | ((with_reducible refine at_store ?_); first | (refine slw hM ?_; clear hM; intro wx hM) | (refine sls hM ?_; clear hM; intro wx hM) | (refine slt hM ?_; clear hM; intro wx hM)) | ((with_reducible refine at_alloc ?_); refine slz hM ?_; clear hM; intro gx wx hM) | ((with_reducible refine at_box ?_); refine slb hM ?_; clear hM; intro gx wx hM))
      refine (HAD.out _ _ _ _ _ _ _ _ _ _ _ _ _ _ _ _ hM hx1 i2 i1 hl9.out).mono ?_
      clear hM
      rintro e w1 ⟨E2, m2, e3, rfl, hM⟩
      go_wp2_with fail
      exact ⟨⟨k + 1, E2, m2, e3, by omega, by go_num, by rw [← hT2.out, HEA.out]; simpa only [List.map_append] using hM⟩, by simp [intOf]; omega⟩
    · obtain rfl : n = k := by omega
      rw [HALL.out] at hM
      obtain ⟨i1, i2, i3, i4⟩ := HOK.out n hk
      rw [HALL.out] at i1 i2 i3 i4
      generalize encS 0 0 bs = S1 at i1 i2 i3 i4 hM
      obtain ⟨o1, b1, c1⟩ := S1
      simp only at i1 i2 i3 i4 hM
      have hl1 : (o1.map alf).length ≤ 90000 := by rw [List.length_map]; omega
      have hee : encT bs = (o1.map alf ++ (if 0 < c1 then [alf (b1 * 2 ^ (6 - c1))] else [])) ++ List.replicate (padN (encO 0 0 bs).length) 61 := by
        unfold encT
        rw [i4, List.map_append]
        split <;> simp
      have hep : padN (encO 0 0 bs).length = (4 - (o1.map alf ++ (if 0 < c1 then [alf (b1 * 2 ^ (6 - c1))] else [])).length % 4) % 4 := by
        unfold padN
        rw [i4, List.length_append, List.length_append, List.length_map]
        split <;> rfl
      generalize padN (encO 0 0 bs).length = p at hee hep
      by_cases hc0 : 0 < c1
      · rw [if_pos hc0] at hee hep
        have hix : b1 * 2 ^ (6 - c1) < 64 := idx_lt i1 i2
        have HAL := Lib.hid (HALP.out _ hix)
        obtain ⟨ix, hixe⟩ : ∃ ix, ix = b1 * 2 ^ (6 - c1) := ⟨_, rfl⟩
        rw [← hixe] at HAL hix hee hep
        generalize alf ix = z at HAL hee hep
        replace hee := Lib.hid hee
        have H6 : IntKind.i64.wrap (6 - (c1 : Int)) = ((6 - c1 : Nat) : Int) := by rw [IntWalk.i64_in _ ⟨by omega, by omega⟩]; omega
        have H7 : IntKind.i64.wrap ((b1 : Int) * 2 ^ (6 - c1)) = (ix : Int) := by
          rw [show (b1 : Int) * 2 ^ (6 - c1) = ((b1 * 2 ^ (6 - c1) : Nat) : Int) by simp, ← hixe, IntWalk.i64_in _ ⟨by omega, by omega⟩]
        have h63 : (o1.map alf).length + [z].length ≤ 1000000000 := by rw [List.length_singleton]; omega
        have ix0 : (0 : Int) ≤ (ix : Int) := Int.natCast_nonneg _
        have ix1 : (ix : Int) < 64 := by omega
        replace hixe := Lib.hid hixe
        clear i1 i3 i4
        go_wp2_with (first | ((with_reducible refine (rleft_any b1 c1 hM (List.Mem.tail _ (List.Mem.head _)) (List.Mem.tail _ (List.Mem.tail _ (List.Mem.head _)))).mono ?_); clear hM; rintro e w1 ⟨rfl, hM⟩))
        refine wp_region_allTM hM 9 (fun w' => HeldM [⟨gt, 79, 1, #[.slice E1 m1 e1]⟩] w' ∧ w'.cell? ⟨0, ix, none⟩ = some (.int .u8 (z : Nat))) (by kernel_rfl) ?_
        clear hM
        intro wd hM
        simp only [rgL, List.cons_append, List.nil_append] at hM
        have hS := And.intro (HeldM.of (hM.subL (L' := [_]) (List.Sublist.cons_cons _ (List.nil_sublist _)))) (HAL.out _ hM.below)
        refine wpAllT_takes [1, 2, 3, 4, 5, 0, 6] (by kernel_rfl) (fun _ _ _ _ _ h => h) hS (by kernel_rfl) ?_
        simp only [pickOps, List.filterMap_cons, List.filterMap_nil, List.getElem?_cons_zero, List.getElem?_cons_succ]
        repeat ((with_reducible apply wpHeld_step); (· rfl); (· (intro wq hSw; first | (go_simp; rfl) | ((obtain ⟨⟨_, _, _, hM'⟩, hA'⟩ := hSw; first | exact yields_load (C := fun _ => True) (sqc hM') rfl | exact yields_load (C := fun _ => True) (qo hA' (hty := one_u8)) rfl)))); intro K hK; go_simp; (with_reducible refine hK _ ?_); clear hK K)
        refine wpHeld_nil ?_
        refine wpAllT_one 7 rfl (by kernel_rfl) ?_
        refine lbb1 hM ?_
        clear hM hS
        intro g1 wz hM
        have hS := And.intro (HeldM.of (hM.subL (L' := [⟨gt, 79, 1, #[.slice E1 m1 e1]⟩]) (List.Sublist.cons _ (List.Sublist.cons_cons _ (List.nil_sublist _))))) (HAL.out _ hM.below)
        refine wpList_then ⟨.inr hS, ?_⟩
        go_simp
        refine wpAllT_one 8 rfl (by kernel_rfl) ?_
        refine la (src_byte1 hM (List.Mem.head _)) hM h63 ?_
        clear hM hS
        intro A2 N2 c2 wy hN hM
        have hS := And.intro (HeldM.of (hM.subL (L' := [⟨gt, 79, 1, #[.slice E1 m1 e1]⟩]) (List.Sublist.cons _ (List.Sublist.cons_cons _ (List.nil_sublist _))))) (HAL.out _ hM.below)
        refine wpList_then ⟨.inr hS, ?_⟩
        go_simp
        refine wpAllT_one 9 rfl (by kernel_rfl) ?_
        refine sls hM ?_
        clear hM hS
        intro wx hM
        refine wpList_then ⟨.inl (by kernel_rfl), wpAllT_drop (by kernel_rfl) ?_⟩
        refine wpAll_done (by kernel_rfl) ?_
        go_wp2_with fail
        replace hM := hM.subL (L' := [⟨gt, 79, 1, #[.slice A2 N2 c2]⟩]) (List.Sublist.cons _ (List.Sublist.cons_cons _ (List.nil_sublist _)))
        have hl3 : (o1.map alf ++ [z]).length ≤ 90001 := by rw [List.length_append]; simp only [List.length_cons, List.length_nil]; omega
        clear hN hl1
        generalize o1.map alf ++ [z] = o2 at hM hee hep hl3
        have M0 := Lib.hid hM
        clear hM
        go_loopw [] (fun wr => ∃ (j : Nat) (E : Option Addr) (m e2 : Nat), j ≤ p ∧ Mem [] w [⟨gt, 79, 1, #[.slice E m e2]⟩] [bT (.slice E m e2) (o2 ++ List.replicate j 61)] wr) (fun wr => 100000 - cellL gt wr)
        case atStart => exact ⟨0, _, _, _, by omega, by rw [List.replicate_zero, List.append_nil]; exact M0.out⟩
        case round =>
          clear M0
          obtain ⟨j, E3, m3, e4, hj, hM⟩ := hrel
          obtain ⟨_, hm3, _⟩ := bT_reads (hM.thing _ (List.Mem.head _))
          rw [List.length_append, List.length_replicate] at hm3
          have HL3 := Lib.hid (cellL_of hM (List.Mem.head _))
          have m0 : (0 : Int) ≤ (m3 : Int) := Int.natCast_nonneg _
          have m9 : (m3 : Int) ≤ 99999 := by omega
          by_cases hjp : j < p
          · have hm4 : ¬ ((m3 : Int) % 4 = 0) := by omega
            have h64 := Lib.hid (show (o2 ++ List.replicate j 61).length + [61].length ≤ 1000000000 by simp; omega)
            have hrr := Lib.hid (show (o2 ++ List.replicate j 61) ++ [61] = o2 ++ List.replicate (j + 1) 61 by rw [List.append_assoc, List.replicate_succ'])
            go_wp2_with (first | ((with_reducible refine at_append ?_); refine la (src_byte1 hM (List.Mem.head _)) hM h64.out ?_; clear hM; intro A4 N4 c4 wv hN4 hM) | ((first | with_reducible refine at_load ?_ | ((with_reducible refine at_load_g ?_ ?_); (· rfl))); first | refine sll hM ?_ | refine slc hM ?_ | refine slp hM ?_) | ((with_reducible refine at_store ?_); first | (refine slw hM ?_; clear hM; intro wx hM) | (refine sls hM ?_; clear hM; intro wx hM) | (refine slt hM ?_; clear hM; intro wx hM)) | ((with_reducible refine at_alloc ?_); refine slz hM ?_; clear hM; intro gx wx hM) | ((with_reducible refine at_box ?_); refine slb hM ?_; clear hM; intro gx wx hM) | (refine lbb1 hM ?_; clear hM; intro g4 wu hM))
            have HL4 := cellL_of hM (List.Mem.tail _ (List.Mem.head _))
            have hN5 := hN4.out
            rw [hrr.out] at hM hN5
            rw [List.length_append, List.length_replicate] at hN5
            refine ⟨⟨j + 1, by omega, A4, N4, c4, hM.subL (List.sublist_cons_self _ _)⟩, ?_⟩
            rw [HL4, HL3.out]
            omega
          · obtain rfl : j = p := by omega
            have hm4 : (m3 : Int) % 4 = 0 := by omega
            replace hep := Lib.hid hep
            have hst := Lib.hid (bT_reads (hM.thing _ (List.Mem.head _))).1
            go_wp2_with (first | ((with_reducible refine at_conv ?_); refine lcs hst.out ?_) | ((first | with_reducible refine at_load ?_ | ((with_reducible refine at_load_g ?_ ?_); (· rfl))); first | refine sll hM ?_ | refine slc hM ?_ | refine slp hM ?_) | ((with_reducible refine at_store ?_); first | (refine slw hM ?_; clear hM; intro wx hM) | (refine sls hM ?_; clear hM; intro wx hM) | (refine slt hM ?_; clear hM; intro wx hM)) | ((with_reducible refine at_alloc ?_); refine slz hM ?_; clear hM; intro gx wx hM) | ((with_reducible refine at_box ?_); refine slb hM ?_; clear hM; intro gx wx hM))
            go_ret
            exact ⟨by rw [hee.out]; rfl, hM.below⟩
      · rw [if_neg hc0] at hee hep
        have hl3 : (o1.map alf ++ []).length ≤ 90001 := by rw [List.append_nil]; omega
        generalize hX : o1.map alf ++ [] = o2 at hee hep hl3
        rw [List.append_nil] at hX
        rw [hX] at hM
        replace hee := Lib.hid hee
        clear hX hl1 i1 i3 i4
        go_wp2_with (first | ((with_reducible refine (rleft_any b1 c1 hM (List.Mem.tail _ (List.Mem.head _)) (List.Mem.tail _ (List.Mem.tail _ (List.Mem.head _)))).mono ?_); clear hM; rintro e w1 ⟨rfl, hM⟩))
        simp only [rgL, List.cons_append, List.nil_append] at hM
        replace hM := hM.subL (L' := [⟨gt, 79, 1, #[.slice E1 m1 e1]⟩]) (List.Sublist.cons_cons _ (List.nil_sublist _))
        have M0 := Lib.hid hM
        clear hM
        go_loopw [] (fun wr => ∃ (j : Nat) (E : Option Addr) (m e2 : Nat), j ≤ p ∧ Mem [] w [⟨gt, 79, 1, #[.slice E m e2]⟩] [bT (.slice E m e2) (o2 ++ List.replicate j 61)] wr) (fun wr => 100000 - cellL gt wr)
        case atStart => exact ⟨0, _, _, _, by omega, by rw [List.replicate_zero, List.append_nil]; exact M0.out⟩
        case round =>
          clear M0
          obtain ⟨j, E3, m3, e4, hj, hM⟩ := hrel
          obtain ⟨_, hm3, _⟩ := bT_reads (hM.thing _ (List.Mem.head _))
          rw [List.length_append, List.length_replicate] at hm3
          have HL3 := Lib.hid (cellL_of hM (List.Mem.head _))
          have m0 : (0 : Int) ≤ (m3 : Int) := Int.natCast_nonneg _
          have m9 : (m3 : Int) ≤ 99999 := by omega
          by_cases hjp : j < p
          · have hm4 : ¬ ((m3 : Int) % 4 = 0) := by omega
            have h64 := Lib.hid (show (o2 ++ List.replicate j 61).length + [61].length ≤ 1000000000 by simp; omega)
            have hrr := Lib.hid (show (o2 ++ List.replicate j 61) ++ [61] = o2 ++ List.replicate (j + 1) 61 by rw [List.append_assoc, List.replicate_succ'])
            go_wp2_with (first | ((with_reducible refine at_append ?_); refine la (src_byte1 hM (List.Mem.head _)) hM h64.out ?_; clear hM; intro A4 N4 c4 wv hN4 hM) | ((first | with_reducible refine at_load ?_ | ((with_reducible refine at_load_g ?_ ?_); (· rfl))); first | refine sll hM ?_ | refine slc hM ?_ | refine slp hM ?_) | ((with_reducible refine at_store ?_); first | (refine slw hM ?_; clear hM; intro wx hM) | (refine sls hM ?_; clear hM; intro wx hM) | (refine slt hM ?_; clear hM; intro wx hM)) | ((with_reducible refine at_alloc ?_); refine slz hM ?_; clear hM; intro gx wx hM) | ((with_reducible refine at_box ?_); refine slb hM ?_; clear hM; intro gx wx hM) | (refine lbb1 hM ?_; clear hM; intro g4 wu hM))
            have HL4 := cellL_of hM (List.Mem.tail _ (List.Mem.head _))
            have hN5 := hN4.out
            rw [hrr.out] at hM hN5
            rw [List.length_append, List.length_replicate] at hN5
            refine ⟨⟨j + 1, by omega, A4, N4, c4, hM.subL (List.sublist_cons_self _ _)⟩, ?_⟩
            rw [HL4, HL3.out]
            omega
          · obtain rfl : j = p := by omega
            have hm4 : (m3 : Int) % 4 = 0 := by omega
            replace hep := Lib.hid hep
            have hst := Lib.hid (bT_reads (hM.thing _ (List.Mem.head _))).1
            go_wp2_with (first | ((with_reducible refine at_conv ?_); refine lcs hst.out ?_) | ((first | with_reducible refine at_load ?_ | ((with_reducible refine at_load_g ?_ ?_); (· rfl))); first | refine sll hM ?_ | refine slc hM ?_ | refine slp hM ?_) | ((with_reducible refine at_store ?_); first | (refine slw hM ?_; clear hM; intro wx hM) | (refine sls hM ?_; clear hM; intro wx hM) | (refine slt hM ?_; clear hM; intro wx hM)) | ((with_reducible refine at_alloc ?_); refine slz hM ?_; clear hM; intro gx wx hM) | ((with_reducible refine at_box ?_); refine slb hM ?_; clear hM; intro gx wx hM))
            go_ret
            exact ⟨by rw [hee.out]; rfl, hM.below⟩
set_option maxRecDepth 20000 in
theorem Encode_any (A : Option Addr) (n c : Nat) (bs : List Nat) (w : World) (hr : Reads w 1 A n (vals .u8 bs)) (hB : Bytes bs) (h0 : 0 < n) (hn : n ≤ 60000) (hA : Alp w) :
    Calls Tryd.prog 41 #[.slice A n c] w fun e w' => e = .returned (.tuple #[.string (bstr (encT bs)), .int .i64 0]) ∧ Below w.heap.size w w' := by
  have HE := Lib.hid (encode_any A n c bs w hr hB h0 hn hA)
  generalize bstr (encT bs) = Z at HE ⊢
  have n0 : (n : Int) ≤ 60000 := by omega
  clear hr hB h0 hn hA
  go_enter Tryd.func41, Tryd.ntmps41
  go_wp2_with (((with_reducible refine (HE.out).mono ?_); rintro e w1 ⟨rfl, hb⟩))
  refine bodyPost_ret (results_tmp2 rfl _ _ _) rfl ?_
  exact ⟨rfl, hb⟩
end Go.Proofs.YtbbdnlcjjcmllaaDoor
