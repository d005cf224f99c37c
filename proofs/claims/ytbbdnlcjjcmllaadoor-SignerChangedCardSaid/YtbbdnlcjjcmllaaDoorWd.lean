/- Base64, plain: groups of six bits, their letters. Base64: the closures of encode. Base64: the closure that regroups bits, for bytes to groups of six. Base64: the functions that regroup makes; a new row of bytes with room; a text out of bytes. -/
import Derived.Test.YtbbdnlcjjcmllaaDoorWm
import Derived.Laws.MakeOwn
namespace Go.Lin
open Go Go.Bul
/-- The groups of six that c bits give; what is left. -/
def emitL (b c : Nat) : List Nat := if _h : 6 ≤ c then b / 2 ^ (c - 6) :: emitL (b % 2 ^ (c - 6)) (c - 6) else []
termination_by c
def remB (b c : Nat) : Nat × Nat := if _h : 6 ≤ c then remB (b % 2 ^ (c - 6)) (c - 6) else (b, c)
termination_by c
theorem emitL_yes {b c : Nat} (h : 6 ≤ c) : emitL b c = b / 2 ^ (c - 6) :: emitL (b % 2 ^ (c - 6)) (c - 6) := by rw [emitL, dif_pos h]
theorem emitL_no {b c : Nat} (h : ¬ 6 ≤ c) : emitL b c = [] := by rw [emitL, dif_neg h]
theorem remB_yes {b c : Nat} (h : 6 ≤ c) : remB b c = remB (b % 2 ^ (c - 6)) (c - 6) := by rw [remB, dif_pos h]
theorem remB_no {b c : Nat} (h : ¬ 6 ≤ c) : remB b c = (b, c) := by rw [remB, dif_neg h]
theorem emitL_length (c : Nat) : ∀ b : Nat, (emitL b c).length = c / 6 := by
  induction c using Nat.strongRecOn with
  | ind c ih =>
    intro b
    by_cases h : 6 ≤ c
    · rw [emitL_yes h, List.length_cons, ih (c - 6) (by omega)]
      omega
    · rw [emitL_no h]
      simp
      omega
theorem remB_2 (c : Nat) : ∀ b : Nat, (remB b c).2 = c % 6 := by
  induction c using Nat.strongRecOn with
  | ind c ih =>
    intro b
    by_cases h : 6 ≤ c
    · rw [remB_yes h, ih (c - 6) (by omega)]
      omega
    · rw [remB_no h]
      simp
      omega
theorem remB_lt (c : Nat) : ∀ b : Nat, b < 2 ^ c → (remB b c).1 < 2 ^ (c % 6) := by
  induction c using Nat.strongRecOn with
  | ind c ih =>
    intro b hb
    by_cases h : 6 ≤ c
    · rw [remB_yes h]
      have := ih (c - 6) (by omega) (b % 2 ^ (c - 6)) (Nat.mod_lt _ (Nat.pow_pos (by decide)))
      rwa [show (c - 6) % 6 = c % 6 by omega] at this
    · rw [remB_no h, Nat.mod_eq_of_lt (by omega)]
      exact hb
def encO : Nat → Nat → List Nat → List Nat
  | b, c, [] => if 0 < c then [b * 2 ^ (6 - c)] else []
  | b, c, x :: xs => emitL (b * 256 + x) (c + 8) ++ encO (remB (b * 256 + x) (c + 8)).1 (remB (b * 256 + x) (c + 8)).2 xs
theorem encO_length : ∀ (xs : List Nat) (b c : Nat), c < 6 → (encO b c xs).length = (c + 8 * xs.length + 5) / 6
  | [], b, c, hc => by
    unfold encO
    split
    · simp; omega
    · simp; omega
  | x :: xs, b, c, hc => by
    rw [encO, List.length_append, emitL_length, encO_length xs _ _ (by rw [remB_2]; omega), remB_2, List.length_cons]
    omega
def alL : List Nat := [65, 66, 67, 68, 69, 70, 71, 72, 73, 74, 75, 76, 77, 78, 79, 80, 81, 82, 83, 84, 85, 86, 87, 88, 89, 90, 97, 98, 99, 100, 101, 102, 103, 104, 105, 106, 107, 108, 109, 110, 111, 112, 113, 114, 115, 116, 117, 118, 119, 120, 121, 122, 48, 49, 50, 51, 52, 53, 54, 55, 56, 57, 43, 47]
def alf (i : Nat) : Nat := alL.getD i 0
def padN (k : Nat) : Nat := (4 - k % 4) % 4
def encT (bs : List Nat) : List Nat := (encO 0 0 bs).map alf ++ List.replicate (padN (encO 0 0 bs).length) 61
theorem encT_length (bs : List Nat) : (encT bs).length = (bs.length + 2) / 3 * 4 := by
  unfold encT padN
  rw [List.length_append, List.length_map, List.length_replicate, encO_length bs 0 0 (by decide)]
  omega
theorem or_bits : ∀ (b : Fin 16) (x : Fin 256), bits BinOp.or IntKind.i64 ((b.val * 256 : Nat) : Int) (x.val : Int) = ((b.val * 256 + x.val : Nat) : Int) := by decide +kernel
theorem and_bits' : ∀ (c : Fin 7) (i : Fin 64) (j : Fin 64), bits BinOp.and IntKind.i64 ((i.val * 64 + j.val : Nat) : Int) ((2 ^ c.val - 1 : Nat) : Int) = (((i.val * 64 + j.val) % 2 ^ c.val : Nat) : Int) := by decide +kernel
theorem and_bits (c b : Nat) (hc : c < 7) (hb : b < 4096) : bits BinOp.and IntKind.i64 (b : Int) ((2 ^ c - 1 : Nat) : Int) = ((b % 2 ^ c : Nat) : Int) := by
  have h := and_bits' ⟨c, hc⟩ ⟨b / 64, by omega⟩ ⟨b % 64, by omega⟩
  simp only [show b / 64 * 64 + b % 64 = b by omega] at h
  exact h
end Go.Lin
namespace Go.Proofs.YtbbdnlcjjcmllaaDoor
open Go Go.RowKit Go.Bul Go.Thg Go.Lin
/-- The alphabet as it was laid. -/
def Alp (w : World) : Prop := ∀ i, i < 64 → w.cell? ⟨0, i, none⟩ = some (.int .u8 (alf i : Nat))
theorem Alp.keep {w w' : World} (h : Alp w) (hb : Below w.heap.size w w') : Alp w' := fun i hi => by
  have h0 := h i hi
  have hlt : 0 < w.heap.size := block_lt_of_cell (h 0 (by omega))
  rw [hb.cell (p := ⟨_, i, none⟩) hlt]
  exact h0
theorem one_fn : OneTy Tryd.prog 119 := ⟨⟨_, Tryd.underlying119, rfl, by kernel_rfl⟩⟩
theorem src_byte1 {w w0 : World} {G : List Nat} {L : List Ent} {R : List Thing} {g x : Nat} {t : TypeId} (hM : Mem G w0 L R w) (hL : ⟨g, t, 1, #[.int .u8 (x : Nat)]⟩ ∈ L) : Src Tryd.prog 1 79 (.slice (some ⟨g, 0, none⟩) 1 1) 1 (vals .u8 [x]) w :=
  (show Reads w 1 (some ⟨g, 0, none⟩) 1 (vals .u8 [x]) from reads_ent hM hL).src (c := 1) Tryd.underlying79 (vals_one _ _)
set_option maxRecDepth 20000 in
set_option maxHeartbeats 1000000 in
theorem pass_any {w0 w : World} {L : List Ent} {R : List Thing} {gt : Nat} (E : Option Addr) (m e2 : Nat) (out : List Nat) (grp : Nat) (hM : Mem [] w0 (⟨gt, 79, 1, #[.slice E m e2]⟩ :: L) (bT (.slice E m e2) out :: R) w) (hg : grp < 64) (hl : out.length ≤ 100000) (hA : Alp w0) :
    Calls Tryd.prog 72 #[.int .i64 (grp : Nat), .pointer (some ⟨gt, 0, none⟩)] w fun e w' => ∃ E' m' e2', e = .returned (.tuple #[]) ∧ Mem [] w0 (⟨gt, 79, 1, #[.slice E' m' e2']⟩ :: L) (bT (.slice E' m' e2') (out ++ [alf grp]) :: R) w' := by
  have HA := Lib.hid (fun w' (hb : Below w0.heap.size w0 w') => hA.keep hb grp hg)
  have h63 : out.length + [alf grp].length ≤ 1000000000 := by simp; omega
  generalize alf grp = z at HA h63 ⊢
  have g0 : (0 : Int) ≤ (grp : Int) := Int.natCast_nonneg _
  have g1 : (grp : Int) < 64 := by omega
  clear hg hl hA
  go_enter Tryd.func72, Tryd.ntmps72
  go_upto_region 0 with fail
  refine wp_region_allTM hM 6 (fun w' => HeldM [⟨gt, 79, 1, #[.slice E m e2]⟩] w' ∧ w'.cell? ⟨0, grp, none⟩ = some (.int .u8 (z : Nat))) (by kernel_rfl) ?_
  clear hM
  intro wd hM
  have hS := And.intro (HeldM.of (hM.subL (L' := [_]) (List.Sublist.cons_cons _ (List.nil_sublist _)))) (HA.out _ hM.below)
  refine wpAllT_takes [1, 2, 0, 3] (by kernel_rfl) (fun _ _ _ _ _ h => h) hS (by kernel_rfl) ?_
  simp only [pickOps, List.filterMap_cons, List.filterMap_nil, List.getElem?_cons_zero, List.getElem?_cons_succ]
  repeat ((with_reducible apply wpHeld_step); (· rfl); (· (intro wq hSw; first | (go_simp; rfl) | ((obtain ⟨⟨_, _, _, hM'⟩, hA'⟩ := hSw; first | exact yields_load (C := fun _ => True) (sqc hM') rfl | exact yields_load (C := fun _ => True) (qo hA' (hty := one_u8)) rfl)))); intro K hK; go_simp; (with_reducible refine hK _ ?_); clear hK K)
  refine wpHeld_nil ?_
  refine wpAllT_one 4 rfl (by kernel_rfl) ?_
  refine lbb1 hM ?_
  clear hM hS
  intro g1 wz hM
  have hS := And.intro (HeldM.of (hM.subL (L' := [⟨gt, 79, 1, #[.slice E m e2]⟩]) (List.Sublist.cons _ (List.Sublist.cons_cons _ (List.nil_sublist _))))) (HA.out _ hM.below)
  refine wpList_then ⟨.inr hS, ?_⟩
  go_simp
  refine wpAllT_one 5 rfl (by kernel_rfl) ?_
  refine la (src_byte1 hM (List.Mem.head _)) hM h63 ?_
  clear hM hS
  intro A2 N2 c2 wy hN hM
  have hS := And.intro (HeldM.of (hM.subL (L' := [⟨gt, 79, 1, #[.slice E m e2]⟩]) (List.Sublist.cons _ (List.Sublist.cons_cons _ (List.nil_sublist _))))) (HA.out _ hM.below)
  refine wpList_then ⟨.inr hS, ?_⟩
  go_simp
  refine wpAllT_one 6 rfl (by kernel_rfl) ?_
  refine sls hM ?_
  clear hM hS
  intro wx hM
  refine wpList_then ⟨.inl (by kernel_rfl), wpAllT_drop (by kernel_rfl) ?_⟩
  refine wpAll_done (by kernel_rfl) ?_
  go_wp2_with fail
  exact bodyPost_end (results_none rfl _ _ _) rfl ⟨rfl, A2, N2, c2, hM.subL (List.sublist_cons_self _ _)⟩
end Go.Proofs.YtbbdnlcjjcmllaaDoor
namespace Go.Proofs.YtbbdnlcjjcmllaaDoor
open Go Go.RowKit Go.Bul Go.Thg Go.Lin
/-- What the closure holds: the text, the two counters, the two widths, the function that takes a group. -/
def rgL (gt gb gc gf go gp : Nat) (S : Value) (b c : Nat) : List Ent := [⟨gt, 79, 1, #[S]⟩, ⟨gb, 3, 1, #[.int .i64 (b : Nat)]⟩, ⟨gc, 3, 1, #[.int .i64 (c : Nat)]⟩, ⟨gf, 3, 1, #[.int .i64 8]⟩, ⟨go, 3, 1, #[.int .i64 6]⟩, ⟨gp, 119, 1, #[.func (.func 72) #[] #[.pointer (some ⟨gt, 0, none⟩)]]⟩]
theorem emit_lt {b c : Nat} (h : 6 ≤ c) (hb : b < 2 ^ c) : b / 2 ^ (c - 6) < 64 := by
  have : 2 ^ c = 2 ^ (c - 6) * 64 := by rw [show (64 : Nat) = 2 ^ 6 by rfl, ← Nat.pow_add, Nat.sub_add_cancel h]
  exact Nat.div_lt_of_lt_mul (by omega)
theorem add_lt {b c x : Nat} (hb : b < 2 ^ c) (hx : x < 256) : b * 256 + x < 2 ^ (c + 8) := by
  rw [Nat.pow_add]
  omega
def cellN (g : Nat) (w : World) : Nat := match w.cell? ⟨g, 0, none⟩ with
  | some v => (intOf v).toNat
  | none => 0
theorem cellN_of {w w0 : World} {L : List Ent} {R : List Thing} {g : Nat} {t : TypeId} {c : Nat} (hM : Mem [] w0 L R w) (h : ⟨g, t, 1, #[.int .i64 (c : Nat)]⟩ ∈ L) : cellN g w = c := by
  have h1 := (hM.blk h).cell 0
  simp only [List.getElem?_toArray, List.getElem?_cons_zero] at h1
  unfold cellN
  simp only [h1]
  simp [intOf]
theorem pow_wrap (c : Nat) (h : c < 7) : IntKind.i64.wrap (IntKind.i64.wrap (2 ^ c) - 1) = ((2 ^ c - 1 : Nat) : Int) := by
  have h1 : 2 ^ c ≤ 2 ^ 6 := Nat.pow_le_pow_right (by decide) (by omega)
  have h2 : 0 < 2 ^ c := Nat.pow_pos (by decide)
  have h3 : (2 : Int) ^ c = ((2 ^ c : Nat) : Int) := by simp
  rw [h3]
  generalize 2 ^ c = n at h1 h2
  rw [IntWalk.i64_in (n : Int) ⟨by omega, by omega⟩, IntWalk.i64_in _ ⟨by omega, by omega⟩]
  omega
set_option maxRecDepth 20000 in
set_option maxHeartbeats 2000000 in
theorem radd_any {w0 w : World} {L : List Ent} {R : List Thing} {gt gb gc gf go gp : Nat} (E : Option Addr) (m e2 : Nat) (out : List Nat) (b c x : Nat) (hM : Mem [] w0 (rgL gt gb gc gf go gp (.slice E m e2) b c ++ L) (bT (.slice E m e2) out :: R) w) (hx : x < 256) (hc : c < 5) (hb : b < 2 ^ c) (hl : out.length ≤ 90000) (hA : Alp w0) :
    Calls Tryd.prog 77 #[.int .i64 (x : Nat), .pointer (some ⟨gb, 0, none⟩), .pointer (some ⟨gf, 0, none⟩), .pointer (some ⟨gc, 0, none⟩), .pointer (some ⟨go, 0, none⟩), .pointer (some ⟨gp, 0, none⟩)] w fun e w' => ∃ E' m' e2', e = .returned (.tuple #[]) ∧ Mem [] w0 (rgL gt gb gc gf go gp (.slice E' m' e2') (remB (b * 256 + x) (c + 8)).1 (remB (b * 256 + x) (c + 8)).2 ++ L) (bT (.slice E' m' e2') (out ++ (emitL (b * 256 + x) (c + 8)).map alf) :: R) w' := by
  have hb16 : b < 16 := Nat.lt_of_lt_of_le hb (by rw [show (16 : Nat) = 2 ^ 4 by rfl]; exact Nat.pow_le_pow_right (by decide) (by omega))
  have HOR := or_bits ⟨b, hb16⟩ ⟨x, hx⟩
  simp only at HOR
  have hb2 := add_lt hb hx
  have hc2 : c + 8 ≤ 12 := by omega
  have HC8 : IntKind.i64.wrap ((c : Int) + 8) = ((c + 8 : Nat) : Int) := by rw [IntWalk.i64_in _ ⟨by omega, by omega⟩]; omega
  rw [show ((b * 256 : Nat) : Int) = IntKind.i64.wrap ((b : Int) * 256) by rw [IntWalk.i64_in _ ⟨by omega, by omega⟩]; omega] at HOR
  generalize b * 256 + x = b0 at HOR hb2 ⊢
  generalize c + 8 = c0 at HC8 hb2 hc2 ⊢
  replace HOR := Lib.hid HOR
  replace HC8 := Lib.hid HC8
  have HPS := Lib.hid (fun (w : World) (L : List Ent) (R : List Thing) (E : Option Addr) (m e2 : Nat) (out : List Nat) (grp : Nat) (hM : Mem [] w0 (⟨gt, 79, 1, #[.slice E m e2]⟩ :: L) (bT (.slice E m e2) out :: R) w) (hg : grp < 64) (hl : out.length ≤ 100000) => pass_any E m e2 out grp hM hg hl hA)
  clear hA
  simp only [rgL, List.cons_append, List.nil_append] at hM ⊢
  go_enter Tryd.func77, Tryd.ntmps77
  go_upto_region 0 with fail
  refine wp_region_allTM hM 9 (HeldM [⟨gc, 3, 1, #[.int .i64 (c : Nat)]⟩, ⟨gf, 3, 1, #[.int .i64 8]⟩]) (by kernel_rfl) ?_
  clear hM
  intro wd hM
  have hS := HeldM.of (hM.subL (L' := [⟨gc, 3, 1, #[.int .i64 (c : Nat)]⟩, ⟨gf, 3, 1, #[.int .i64 8]⟩]) (List.Sublist.cons _ (List.Sublist.cons _ (List.Sublist.cons_cons _ (List.Sublist.cons_cons _ (List.nil_sublist _))))))
  refine wpAllT_takes [3, 1, 5, 6, 7] (by kernel_rfl) (fun _ _ _ _ _ h => h) hS (by kernel_rfl) ?_
  simp only [pickOps, List.filterMap_cons, List.filterMap_nil, List.getElem?_cons_zero, List.getElem?_cons_succ]
  repeat ((with_reducible apply wpHeld_step); (· rfl); (· (intro wq hSw; first | (go_simp; rfl) | ((obtain ⟨_, _, _, hM'⟩ := hSw; exact yields_load (C := fun _ => True) (sqc hM') rfl)))); intro K hK; go_simp; (with_reducible refine hK _ ?_); clear hK K)
  refine wpHeld_nil ?_
  refine wpAllT_one 0 rfl (by kernel_rfl) ?_
  refine slc hM ?_
  refine wpList_then ⟨.inr hS, ?_⟩
  go_simp
  refine wpAllT_takes [2, 4] (by kernel_rfl) (fun _ _ _ _ _ h => h) hS (by kernel_rfl) ?_
  simp only [pickOps, List.filterMap_cons, List.filterMap_nil, List.getElem?_cons_zero, List.getElem?_cons_succ]
  repeat ((with_reducible apply wpHeld_step); (· rfl); (· (intro wq hSw; first | (go_simp; rfl) | (fail))); intro K hK; go_simp; (with_reducible refine hK _ ?_); clear hK K)
  refine wpHeld_nil ?_
  refine wpAllT_one 8 rfl (by kernel_rfl) ?_
  go_simp
  simp only [HOR.out]
  refine sls hM ?_
  clear hM hS
  intro wy hM
  have hS := HeldM.of (hM.subL (L' := [⟨gc, 3, 1, #[.int .i64 (c : Nat)]⟩, ⟨gf, 3, 1, #[.int .i64 8]⟩]) (List.Sublist.cons _ (List.Sublist.cons _ (List.Sublist.cons_cons _ (List.Sublist.cons_cons _ (List.nil_sublist _))))))
  refine wpList_then ⟨.inr hS, ?_⟩
  go_simp
  refine wpAllT_one 9 rfl (by kernel_rfl) ?_
  go_simp
  simp only [HC8.out]
  refine sls hM ?_
  clear hM hS
  intro wx hM
  refine wpList_then ⟨.inl (by decide), wpAllT_drop (by kernel_rfl) ?_⟩
  refine wpAll_done (by kernel_rfl) ?_
  go_wp2_with fail
  have M0 := Lib.hid hM
  clear hM HOR HC8
  generalize IntKind.i64.wrap ((b : Int) * 256) = z9
  go_loopw [] (fun wr => ∃ (b c : Nat) (E : Option Addr) (m e2 : Nat) (o2 : List Nat), b < 2 ^ c ∧ c ≤ c0 ∧ remB b0 c0 = remB b c ∧ out ++ (emitL b0 c0).map alf = o2 ++ (emitL b c).map alf ∧ o2.length + c ≤ 90013 ∧ Mem [] w0 (rgL gt gb gc gf go gp (.slice E m e2) b c ++ L) (bT (.slice E m e2) o2 :: R) wr) (fun wr => cellN gc wr)
  case atStart => exact ⟨b0, c0, E, m, e2, out, hb2, by omega, rfl, rfl, by omega, M0.out⟩
  case round =>
    clear M0
    clear hb hx hc hb16
    obtain ⟨b1, c1, E1, m1, e1, o1, hb1, hcc, hr1, ho1, hl1, hM⟩ := hrel
    simp only [rgL, List.cons_append, List.nil_append] at hM
    have N0 := Lib.hid (cellN_of (g := gc) (c := c1) hM (List.Mem.tail _ (List.Mem.tail _ (List.Mem.head _))))
    by_cases h6 : 6 ≤ c1
    · obtain ⟨c2, rfl⟩ : ∃ c2, c1 = c2 + 6 := ⟨c1 - 6, by omega⟩
      obtain ⟨grp, hgr⟩ : ∃ grp, grp = b1 / 2 ^ c2 := ⟨_, rfl⟩
      obtain ⟨rm, hrm⟩ : ∃ rm, rm = b1 % 2 ^ c2 := ⟨_, rfl⟩
      have HR := Lib.hid (show remB b0 c0 = remB rm c2 by rw [hr1, remB_yes h6, Nat.add_sub_cancel, hrm])
      have HO := Lib.hid (show out ++ (emitL b0 c0).map alf = (o1 ++ [alf grp]) ++ (emitL rm c2).map alf by rw [ho1, emitL_yes h6, Nat.add_sub_cancel, hrm, hgr]; simp)
      have hlt := emit_lt h6 hb1
      rw [Nat.add_sub_cancel, ← hgr] at hlt
      have HSH := Lib.hid (show ((b1 : Int)) / 2 ^ c2 = (grp : Int) by rw [hgr, show (2 : Int) ^ c2 = ((2 ^ c2 : Nat) : Int) by simp]; omega)
      have hrl : rm < 2 ^ c2 := by rw [hrm]; exact Nat.mod_lt _ (Nat.pow_pos (by decide))
      have hb4 : b1 < 4096 := Nat.lt_of_lt_of_le hb1 (by rw [show (4096 : Nat) = 2 ^ 12 by rfl]; exact Nat.pow_le_pow_right (by decide) (by omega))
      have HAND := and_bits c2 b1 (by omega) hb4
      rw [← hrm, ← pow_wrap c2 (by omega)] at HAND
      replace HAND := Lib.hid HAND
      have hl2 : (o1 ++ [alf grp]).length + c2 ≤ 90013 := by simp; omega
      have hcd : c2 + 6 ≤ 12 := by omega
      clear hr1 ho1 h6 hgr hrm hb4 hb1
      replace hrl := Lib.hid hrl
      replace hl2 := Lib.hid hl2
      replace hlt := Lib.hid hlt
      have hl3 := Lib.hid (show o1.length ≤ 100000 by omega)
      go_wp2_with (first | ((first | with_reducible refine at_load ?_ | ((with_reducible refine at_load_g ?_ ?_); (· rfl))); first | refine sll hM ?_ | refine slc hM ?_ | refine slp hM ?_) | ((with_reducible refine at_store ?_); first | (refine slw hM ?_; clear hM; intro wx hM) | (refine sls hM ?_; clear hM; intro wx hM) | (refine slt hM ?_; clear hM; intro wx hM)) | ((with_reducible refine at_alloc ?_); refine slz hM ?_; clear hM; intro gx wx hM) | ((with_reducible refine at_box ?_); refine slb hM ?_; clear hM; intro gx wx hM))
      refine wp_region_allTM hM 4 (HeldM [⟨gb, 3, 1, #[.int .i64 (b1 : Nat)]⟩, ⟨gc, 3, 1, #[.int .i64 (c2 : Nat)]⟩, ⟨gf, 3, 1, #[.int .i64 8]⟩, ⟨go, 3, 1, #[.int .i64 6]⟩, ⟨gp, 119, 1, #[.func (.func 72) #[] #[.pointer (some ⟨gt, 0, none⟩)]]⟩]) (by kernel_rfl) ?_
      clear hM
      intro wd hM
      have hS := HeldM.of (hM.subL (L' := [⟨gb, 3, 1, #[.int .i64 (b1 : Nat)]⟩, ⟨gc, 3, 1, #[.int .i64 (c2 : Nat)]⟩, ⟨gf, 3, 1, #[.int .i64 8]⟩, ⟨go, 3, 1, #[.int .i64 6]⟩, ⟨gp, 119, 1, #[.func (.func 72) #[] #[.pointer (some ⟨gt, 0, none⟩)]]⟩]) (List.Sublist.cons _ (List.Sublist.cons_cons _ (List.Sublist.cons_cons _ (List.Sublist.cons_cons _ (List.Sublist.cons_cons _ (List.Sublist.cons_cons _ (List.nil_sublist _))))))))
      refine wpAllT_takes [0, 1, 2, 3] (by kernel_rfl) (fun _ _ _ _ _ h => h) hS (by kernel_rfl) ?_
      simp only [pickOps, List.filterMap_cons, List.filterMap_nil, List.getElem?_cons_zero, List.getElem?_cons_succ]
      repeat ((with_reducible apply wpHeld_step); (· rfl); (· (intro wq hSw; first | (go_simp; rfl) | ((obtain ⟨_, _, _, hM'⟩ := hSw; first | exact yields_load (C := fun _ => True) (sqc hM' (hty := one_fn)) rfl | exact yields_load (C := fun _ => True) (sqc hM') rfl)))); intro K hK; go_simp; (with_reducible refine hK _ ?_); clear hK K)
      refine wpHeld_nil ?_
      refine wpAllT_one 4 rfl (by kernel_rfl) ?_
      go_wp2_with fail
      simp only [HSH.out]
      refine (HPS.out _ _ _ _ _ _ _ grp hM hlt.out hl3.out).mono ?_
      clear hM hS
      rintro e w1 ⟨E2, m2, e3, rfl, hM⟩
      go_wp2_with fail
      refine then_normal ⟨.inl (by kernel_rfl), wpAllT_drop (by kernel_rfl) ?_⟩
      refine wpAll_done (by kernel_rfl) ?_
      go_wp2_with fail
      refine wp_region_allTM hM 5 (HeldM [⟨gb, 3, 1, #[.int .i64 (b1 : Nat)]⟩, ⟨gc, 3, 1, #[.int .i64 (c2 : Nat)]⟩]) (by kernel_rfl) ?_
      clear hM
      intro wd hM
      have hS := HeldM.of (hM.subL (L' := [⟨gb, 3, 1, #[.int .i64 (b1 : Nat)]⟩, ⟨gc, 3, 1, #[.int .i64 (c2 : Nat)]⟩]) (List.Sublist.cons _ (List.Sublist.cons_cons _ (List.Sublist.cons_cons _ (List.nil_sublist _)))))
      refine wpAllT_takes [0, 1, 2, 3, 4] (by kernel_rfl) (fun _ _ _ _ _ h => h) hS (by kernel_rfl) ?_
      simp only [pickOps, List.filterMap_cons, List.filterMap_nil, List.getElem?_cons_zero, List.getElem?_cons_succ]
      repeat ((with_reducible apply wpHeld_step); (· rfl); (· (intro wq hSw; first | (go_simp; rfl) | ((obtain ⟨_, _, _, hM'⟩ := hSw; exact yields_load (C := fun _ => True) (sqc hM') rfl)))); intro K hK; go_simp; (with_reducible refine hK _ ?_); clear hK K)
      refine wpHeld_nil ?_
      refine wpAllT_one 5 rfl (by kernel_rfl) ?_
      go_simp
      simp only [HAND.out]
      refine sls hM ?_
      clear hM hS
      intro wy hM
      refine wpList_then ⟨.inl (by decide), wpAllT_drop (by kernel_rfl) ?_⟩
      refine wpAll_done (by kernel_rfl) ?_
      go_wp2_with fail
      have n1 : cellN gc wy = c2 := cellN_of hM (List.Mem.tail _ (List.Mem.tail _ (List.Mem.head _)))
      refine ⟨⟨rm, c2, E2, m2, e3, _, hrl.out, by omega, HR.out, HO.out, hl2.out, hM⟩, ?_⟩
      rw [n1, N0.out]
      omega
    · go_wp2_with (first | ((first | with_reducible refine at_load ?_ | ((with_reducible refine at_load_g ?_ ?_); (· rfl))); first | refine sll hM ?_ | refine slc hM ?_ | refine slp hM ?_) | ((with_reducible refine at_store ?_); first | (refine slw hM ?_; clear hM; intro wx hM) | (refine sls hM ?_; clear hM; intro wx hM) | (refine slt hM ?_; clear hM; intro wx hM)) | ((with_reducible refine at_alloc ?_); refine slz hM ?_; clear hM; intro gx wx hM) | ((with_reducible refine at_box ?_); refine slb hM ?_; clear hM; intro gx wx hM))
      exact bodyPost_end (results_none rfl _ _ _) rfl ⟨E1, m1, e1, rfl, by rw [hr1, remB_no h6, ho1, emitL_no h6, List.map_nil, List.append_nil]; exact hM⟩
end Go.Proofs.YtbbdnlcjjcmllaaDoor
namespace Go.Proofs.YtbbdnlcjjcmllaaDoor
open Go Go.RowKit Go.Bul Go.Thg Go.Lin
/-- A string out of bytes. -/
theorem reads_str {w : World} {A : Option Addr} {n : Nat} {bs : List Nat} (h : Reads w 1 A n (vals .u8 bs)) (c : Nat) : (convert 79 9 (.slice A n c)).run Tryd.prog w = .ok (.string (bstr bs)) w := by
  have hlen : n = bs.length := by have := h.1; simp at this; omega
  have hz : ∀ (ad : Addr), (∀ j v, (vals .u8 bs)[j]? = some v → w.cell? (ad.add j) = some v) → (convert 79 9 (.slice (some ad) n c)).run Tryd.prog w = .ok (.string (bstr bs)) w := fun ad hc => by
    have hl := run_loadCells_list (P := Tryd.prog) w ad (vals .u8 bs) hc
    rw [vals_length, ← hlen] at hl
    have hv : vals .u8 bs = (bs.map fun (n : Nat) => (n : Int)).map (Value.int .u8) := by simp [vals]
    rw [hv] at hl
    rw [run_convert_bytes_string w _ _ 5 (some ad) n c Tryd.underlying79 Tryd.underlying5 Tryd.underlying9, run_bytesToString w ad n c _ hl, foldl_push_bytes, ← bstr_nums]
    simp [strOfNums, ByteArray.empty, ByteArray.emptyWithCapacity]
    rfl
  rcases Nat.eq_zero_or_pos n with h0 | h0
  · subst h0
    obtain rfl : bs = [] := List.eq_nil_of_length_eq_zero hlen.symm
    cases A with
    | none =>
      rw [run_convert_bytes_string w _ _ 5 none 0 c Tryd.underlying79 Tryd.underlying5 Tryd.underlying9]
      simp [Conv.bytesToString, bstr]
      rfl
    | some ad => exact hz ad (by simp [vals])
  · obtain ⟨g, off, rfl, _, h2⟩ := h.2 h0
    exact hz _ fun j v hv => by rw [addr_at]; exact h2 j v hv
/-- A new row of bytes, without bytes, with room. -/
theorem made_bytes (w : World) (c : Nat) (hc : c ≤ 1000000000) : ∃ A W, (Instr.makeSlice 79 (.int .i64 0) (.int .i64 (c : Nat))).run Tryd.prog w = .ok (.slice A 0 c) W ∧ Becomes [] w (bT (.slice A 0 c) []) W := by
  obtain ⟨i, hi', hz', hs', hb'⟩ := info_parts info_byte
  have h := run_make (P := Tryd.prog) w 79 5 i (.int .u8 0) Tryd.underlying79 hi' hz' .i64 .i64 0 (c : Nat) (by omega) (by omega) (by rw [hb']; omega) (by omega)
  simp only [Int.toNat_zero, Int.toNat_natCast] at h
  refine ⟨_, _, h, ⟨rfl, _, _, rfl, by simp, by unfold maxLen; omega, fun _ => ⟨w.heap.size, 0, _, rfl, heap_alloc_new w _, ?_, fun j hj => absurd hj (by simp)⟩⟩, ⟨rfl, rfl, rfl, by simp, fun k hk _ => Below.heap_alloc w _ k hk⟩, fun k hk => .inr ?_⟩
  · rw [hs']
    simp [madeCells, Value.cells]
  · rcases Nat.eq_zero_or_pos c with h0 | h0
    · subst h0
      have hk' : k ∈ sFp (.slice (some ⟨w.heap.size, 0, none⟩) 0 0) := hk
      rw [sFp_zero] at hk'
      cases hk'
    · have hk' : k ∈ sFp (.slice (some ⟨w.heap.size, 0, none⟩) 0 c) := hk
      rw [sFp_pos h0] at hk'
      rw [List.mem_singleton.1 hk']
      exact Nat.le_refl _
set_option maxRecDepth 20000 in
theorem rleft_any {w0 w : World} {L : List Ent} {R : List Thing} {gb gc : Nat} (b c : Nat) (hM : Mem [] w0 L R w) (hb : ⟨gb, 3, 1, #[.int .i64 (b : Nat)]⟩ ∈ L) (hc : ⟨gc, 3, 1, #[.int .i64 (c : Nat)]⟩ ∈ L) :
    Calls Tryd.prog 78 #[.pointer (some ⟨gb, 0, none⟩), .pointer (some ⟨gc, 0, none⟩)] w fun e w' => e = .returned (.tuple #[.int .i64 (b : Nat), .int .i64 (c : Nat)]) ∧ Mem [] w0 L R w' := by
  have HB := Lib.hid hb
  have HC := Lib.hid hc
  clear hb hc
  go_enter Tryd.func78, Tryd.ntmps78
  go_upto_region 1 with fail
  refine Go.Bul.wp_region_class (Mem _ w0 _ _) (by kernel_rfl) (by kernel_rfl) hM.drew ?_
  repeat ((with_reducible refine wpQuiet_step (fun K hK => ?_)); (first | ((first | ((with_reducible refine quiet_some ?_ ?_); (· rfl)) | ((with_reducible refine quiet_wanted ?_ ?_); (· rfl))); apply Exists.intro; refine ⟨fun w' hM' => ?_, ?_⟩; (· first | exact qc hM' | exact ql hM' | exact qp hM' | exact sqc hM' (hL := HB.out) | exact sqc hM' (hL := HC.out) | (go_simp; rfl))) | ((with_reducible refine quiet_unwanted ?_ ?_); (· rfl))); go_simp; (with_reducible refine hK _ ?_); clear hK K)
  refine wpQuiet_nil ?_
  intro wx hM
  go_wp2_with fail
  refine bodyPost_ret (results_tmp2 rfl _ _ _) rfl ?_
  exact ⟨rfl, hM⟩
theorem hp_alloc (w : World) (o : Obj) : (w.alloc o).heap.size = w.heap.size + 1 := Array.size_push ..
set_option maxRecDepth 20000 in
theorem regroup_any (w : World) (gt : Nat) :
    Calls Tryd.prog 71 #[.int .i64 8, .int .i64 6, .func (.func 72) #[] #[.pointer (some ⟨gt, 0, none⟩)]] w fun e w' => ∃ gb gc gf go gp, e = .returned (.tuple #[.func (.func 77) #[] #[.pointer (some ⟨gb, 0, none⟩), .pointer (some ⟨gf, 0, none⟩), .pointer (some ⟨gc, 0, none⟩), .pointer (some ⟨go, 0, none⟩), .pointer (some ⟨gp, 0, none⟩)], .func (.func 78) #[] #[.pointer (some ⟨gb, 0, none⟩), .pointer (some ⟨gc, 0, none⟩)]]) ∧
      Mem [] w [⟨gc, 3, 1, #[.int .i64 0]⟩, ⟨gb, 3, 1, #[.int .i64 0]⟩, ⟨gp, 119, 1, #[.func (.func 72) #[] #[.pointer (some ⟨gt, 0, none⟩)]]⟩, ⟨go, 3, 1, #[.int .i64 6]⟩, ⟨gf, 3, 1, #[.int .i64 8]⟩] [] w' := by
  have hM := Mem.start [] w
  go_enter Tryd.func71, Tryd.ntmps71
  go_wp2_with fail
  refine bodyPost_ret (results_tmp2 rfl _ _ _) rfl ?_
  have h5 := ((((hM.alloc #[.int .i64 8] 3 (n := 1) rfl).alloc #[.int .i64 6] 3 (n := 1) rfl).alloc #[.func (.func 72) #[] #[.pointer (some ⟨gt, 0, none⟩)]] 119 (n := 1) rfl).alloc #[.int .i64 0] 3 (n := 1) rfl).alloc #[.int .i64 0] 3 (n := 1) rfl
  exact ⟨_, _, _, _, _, rfl, by simpa only [hp_alloc] using h5⟩
end Go.Proofs.YtbbdnlcjjcmllaaDoor
