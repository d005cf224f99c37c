/- Seat n: wildmat: spread, Match of the pattern that is a star. -/
import Derived.Test.YtpjphjokhccdaaaGreatNja
import Derived.Lib.ConvBytes
import Derived.Laws.MakeOwn
namespace Go.Thg
open Go Go.RowKit Go.Bul
/-- The bytes of a string, in memory, only read. -/
def strT (g : Nat) (s : ByteArray) : Thing where
  fp := [g]
  P := fun w => g < w.heap.size ∧ ∀ j, j < s.size → w.cell? ⟨g, j, none⟩ = some (.int .u8 ((s.data.toList.getD j 0).toNat : Nat))
  keep := fun w w' h hp => by
    have hg := h g (List.mem_singleton.2 rfl)
    refine ⟨?_, fun j hj => (World.cell?_of_block (a := ⟨g, j, none⟩) hg).trans (hp.2 j hj)⟩
    have h1 := hp.1
    rw [Array.getElem?_eq_getElem h1] at hg
    exact (Array.getElem?_eq_some_iff.1 hg).1
  lt := fun w hp k hk => by
    obtain rfl := List.mem_singleton.1 hk
    exact hp.1
  nd := fun _ _ => by simp
theorem str_new (w : World) (e : TypeId) (s : ByteArray) : Becomes [] w (strT w.heap.size s) (Lib.bytesWorld w e s) := by
  refine ⟨⟨by rw [Lib.bytesWorld_size]; omega, fun j hj => ?_⟩, ⟨?_, ?_, ?_, by rw [Lib.bytesWorld_size]; omega, fun k hk _ => Lib.bytesWorld_at_old w e s k hk⟩, fun g hg => .inr ?_⟩
  · have := Lib.bytesWorld_cell w e s j hj
    exact this
  · simp [Lib.bytesWorld, World.freeze, World.alloc, World.drew, -World.alloc_eq, -World.drew_eq]
  · simp [Lib.bytesWorld, World.freeze, World.alloc, World.drew, -World.alloc_eq, -World.drew_eq]
  · simp [Lib.bytesWorld, World.freeze, World.alloc, World.drew, -World.alloc_eq, -World.drew_eq]
  · obtain rfl := List.mem_singleton.1 hg
    exact Nat.le_refl _
end Go.Thg
namespace Go.Proofs.YtpjphjokhccdaaaGreat
open Go Go.RowKit Go.Bul Go.Thg Go.Lin Go.Maps
section
variable {w w0 : World} {G : List Nat} {L : List Ent} {R : List Thing} {ops : Array Oper} {rest : List Oper} {o : Oper} {a : Act} {Q : Exit → Act → World → Prop} {dst : Option Tmp} {type : TypeId} {pos : String} {after : Array Edge} {x y : Operand} {FL : Array Value → List Ent}
theorem at_mslice {t : TypeId} (h : wpList Tryz.prog ops Q (⟨dst, .makeSlice t x y, type, pos, after, none⟩ :: rest) a w) : wpList Tryz.prog ops Q (⟨dst, .makeSlice t x y, type, pos, after, none⟩ :: rest) a w := h
theorem at_conv {t u : TypeId} (h : wpList Tryz.prog ops Q (⟨dst, .convert t u x, type, pos, after, none⟩ :: rest) a w) : wpList Tryz.prog ops Q (⟨dst, .convert t u x, type, pos, after, none⟩ :: rest) a w := h
theorem run_mk2 (w : World) : (Instr.makeSlice 42 (.int .i64 2) (.int .i64 2)).run Tryz.prog w = .ok (.slice (some ⟨w.heap.size, 0, none⟩) 2 2) (w.alloc (.cells #[.bool false, .bool false] 4)) := by kernel_rfl
theorem nmk2 (hM : Mem G w0 L R w) (h : ∀ g w', Mem G w0 (⟨g, 4, 2, #[.bool false, .bool false]⟩ :: L) R w' → wpList Tryz.prog ops Q rest (a.put o.dst (.slice (some ⟨g, 0, none⟩) 2 2)) w') (hgd : o.guard = none := by rfl) (ho : o.op = .makeSlice 42 x y := by rfl) (hx : a.eval x = .int .i64 2 := by rfl) (hy : a.eval y = .int .i64 2 := by rfl) : wpList Tryz.prog ops Q (o :: rest) a w := by
  refine wpList_plain hgd fun K hK => ?_
  unfold Oper.wp execOp
  simp only [ho, hx, hy, Sem.run_bind, run_mk2, Result.andThen_ok, Sem.run_pure]
  exact hK _ _ (h _ _ (hM.alloc _ _ rfl))
theorem ncv {s : ByteArray} (hM : Mem G w0 L R w) (h : ∀ g c w', Mem G w0 L (strT g s :: R) w' → wpList Tryz.prog ops Q rest (a.put o.dst (.slice (some ⟨g, 0, none⟩) s.size c)) w') (hgd : o.guard = none := by rfl) (ho : o.op = .convert 9 117 x := by rfl) (hx : a.eval x = .string s := by rfl) : wpList Tryz.prog ops Q (o :: rest) a w := by
  refine wpList_plain hgd fun K hK => ?_
  unfold Oper.wp execOp
  simp only [ho, hx, Sem.run_bind, Lib.run_convert_string_bytes w 9 117 5 s Tryz.underlying9 Tryz.underlying117 Tryz.underlying5, Result.andThen_ok, Sem.run_pure]
  exact hK _ _ (h _ _ _ (hM.newThing (str_new w _ s)))
abbrev eleT (A : Option Addr) (c : Nat) : Thing := rowT 182 1 (.slice A 1 c) 1 [starV]
theorem ele_at {ge off c : Nat} {w : World} (h : (eleT (some ⟨ge, off, none⟩) c).P w) : w.cell? ⟨ge, off, none⟩ = some starV := by
  obtain ⟨g, o, hA, _, h1, _⟩ := OffRow.cells h (by omega)
  injection hA with hA
  injection hA with h2 h3
  subst h2 h3
  exact h1 0 _ rfl
abbrev patC (s : ByteArray) (ge off c : Nat) : Array Value := #[.string s, .slice (some ⟨ge, off, none⟩) 1 c]
set_option maxRecDepth 20000 in
set_option maxHeartbeats 2000000 in
theorem spread_any (gp gm ge off c : Nat) (s : ByteArray) (hM : Mem G w0 L R w) (hp : ⟨gp, 128, 2, patC s ge off c⟩ ∈ L) (hE : eleT (some ⟨ge, off, none⟩) c ∈ R) (hU : UpdL gm 4 2 #[.bool true, .bool false] L FL) :
    Calls Tryz.prog 109 #[.pointer (some ⟨gp, 0, none⟩), .slice (some ⟨gm, 0, none⟩) 2 2] w fun e w' => (∃ v, e = .returned v) ∧ Mem G w0 (FL #[.bool true, .bool true]) R w' := by
  have HS := Lib.hid (fun w => isStar_any w)
  have HE := Lib.hid hE
  have HU := Lib.hid hU
  have hm := mem_of_updL hU
  clear hE
  go_enter Tryz.func109, Tryz.ntmps109
  go_wp2_with (first | ((first | with_reducible refine at_load ?_ | ((with_reducible refine at_load_g ?_ ?_); (· rfl))); first | refine nll hM ?_ | refine nlc hM ?_ | refine nlp hM ?_) | ((with_reducible refine at_store ?_); first | (refine nlw hM ?_; clear hM; intro wx hM) | (refine nls hM ?_; clear hM; intro wx hM) | (refine nlt hM ?_; clear hM; intro wx hM)) | ((with_reducible refine at_alloc ?_); refine nlz hM ?_; clear hM; intro gx wx hM) | ((with_reducible refine at_box ?_); first | (refine nlb hM ?_; clear hM; intro gx wx hM) | (refine nlx hM ?_; clear hM; intro gx wx hM)))
  have M0 := Lib.hid hM
  clear hM
  go_loopw [11] (fun i wr => ∃ k : Nat, k ≤ 1 ∧ i = .int .i64 (k : Nat) ∧ ((k = 0 ∧ Mem G w0 L R wr) ∨ (k = 1 ∧ Mem G w0 (FL #[.bool true, .bool true]) R wr))) (fun i _ => 1 - (intOf i).toNat)
  case atStart => exact ⟨0, by omega, rfl, .inl ⟨rfl, M0.out⟩⟩
  case round =>
    clear M0
    obtain ⟨k, hk, rfl, ⟨rfl, hM⟩ | ⟨rfl, hM⟩⟩ := hrel
    · have hc := Lib.hid (fun w (hM : Mem G w0 L R w) => ele_at (hM.thing _ HE.out))
      go_wp2_with (first | ((with_reducible refine at_load ?_); refine nlo (hc.out _ hM) ?_) | ((with_reducible refine (HS.out _).mono ?_); rintro e w1 ⟨rfl, hb⟩; replace hM := hM.step hb; clear hb) | ((first | with_reducible refine at_load ?_ | ((with_reducible refine at_load_g ?_ ?_); (· rfl))); first | refine nll hM ?_ | refine nlc hM ?_ | refine nlp hM ?_) | ((with_reducible refine at_store ?_); first | (refine nlw hM ?_; clear hM; intro wx hM) | (refine nls hM ?_; clear hM; intro wx hM) | (refine nlt hM ?_; clear hM; intro wx hM)) | ((with_reducible refine at_alloc ?_); refine nlz hM ?_; clear hM; intro gx wx hM) | ((with_reducible refine at_box ?_); first | (refine nlb hM ?_; clear hM; intro gx wx hM) | (refine nlx hM ?_; clear hM; intro gx wx hM)))
      exact ⟨⟨1, by omega, by go_num, .inr ⟨rfl, hM⟩⟩, by simp [intOf]⟩
    · go_wp2_with fail
      exact bodyPost_end (results_none rfl _ _ _) rfl ⟨⟨_, rfl⟩, hM⟩
abbrev abB : ByteArray := { data := #[97, 46, 98] }
theorem ab_at : ∀ k, k < 3 → (abB.data.toList.getD k 0).toNat = 97 ∨ (abB.data.toList.getD k 0).toNat = 46 ∨ (abB.data.toList.getD k 0).toNat = 98
  | 0, _ => .inl rfl
  | 1, _ => .inr (.inl rfl)
  | 2, _ => .inr (.inr rfl)
  | k + 3, h => by omega
set_option maxRecDepth 20000 in
set_option maxHeartbeats 4000000 in
theorem match_any (gp ge off c : Nat) (s : ByteArray) (hM : Mem G w0 L R w) (hp : ⟨gp, 128, 2, patC s ge off c⟩ ∈ L) (hE : eleT (some ⟨ge, off, none⟩) c ∈ R) :
    Calls Tryz.prog 80 #[.pointer (some ⟨gp, 0, none⟩), .string abB] w fun e w' => e = .returned (.bool true) ∧ Mem G w0 L R w' := by
  have HS := Lib.hid (fun w => isStar_any w)
  have HT := Lib.hid (fun w c hc => stands_any w c hc)
  have HE := Lib.hid hE
  have HSP := Lib.hid (fun (L : List Ent) (R : List Thing) (FL : Array Value → List Ent) (gm : Nat) (w : World) (hM : Mem G w0 L R w) (hp : (⟨gp, 128, 2, patC s ge off c⟩ : Ent) ∈ L) (hE : eleT (some ⟨ge, off, none⟩) c ∈ R) (hU : UpdL gm 4 2 #[.bool true, .bool false] L FL) => spread_any gp gm ge off c s hM hp hE hU)
  have HP := Lib.hid hp
  clear hE
  go_enter Tryz.func80, Tryz.ntmps80
  go_wp2_with (first | ((with_reducible refine at_mslice ?_); refine nmk2 hM ?_; clear hM; intro gm wm hM) | ((with_reducible refine (HSP.out _ _ _ _ _ hM (List.Mem.tail _ HP.out) HE.out (UpdL.head _ _ _ _ _)).mono ?_); rintro e w1 ⟨⟨v, rfl⟩, hM1⟩; clear hM; have hM := hM1; clear hM1) | ((with_reducible refine at_conv ?_); refine ncv hM ?_; clear hM; intro gs cs wc hM) | ((first | with_reducible refine at_load ?_ | ((with_reducible refine at_load_g ?_ ?_); (· rfl))); first | refine nll hM ?_ | refine nlc hM ?_ | refine nlp hM ?_) | ((with_reducible refine at_store ?_); first | (refine nlw hM ?_; clear hM; intro wx hM) | (refine nls hM ?_; clear hM; intro wx hM) | (refine nlt hM ?_; clear hM; intro wx hM)) | ((with_reducible refine at_alloc ?_); refine nlz hM ?_; clear hM; intro gx wx hM) | ((with_reducible refine at_box ?_); first | (refine nlb hM ?_; clear hM; intro gx wx hM) | (refine nlx hM ?_; clear hM; intro gx wx hM)))
  have M0 := Lib.hid hM
  clear hM
  go_loopw [5, 28] (fun re i wr => ∃ (k gr : Nat), k ≤ 3 ∧ i = .int .i64 (k : Nat) ∧ re = .slice (some ⟨gr, 0, none⟩) 2 2 ∧ Mem G w0 (⟨gr, 4, 2, #[.bool true, .bool true]⟩ :: L) (strT gs abB :: R) wr) (fun _ i _ => 3 - (intOf i).toNat)
  case atStart => exact ⟨0, gm, by omega, rfl, rfl, M0.out⟩
  case round =>
    clear M0
    obtain ⟨k, gr, hk, rfl, rfl, hM⟩ := hrel
    have k0 : (0 : Int) ≤ (k : Int) := Int.natCast_nonneg _
    have k3 : (k : Int) ≤ 3 := by omega
    by_cases hlt : k < 3
    · have hlt' : (k : Int) < 3 := by omega
      obtain ⟨cn, hcn⟩ : ∃ cn, (abB.data.toList.getD k 0).toNat = cn := ⟨_, rfl⟩
      have hT := fun w => HT.out w cn (by rw [← hcn]; exact ab_at k hlt)
      have HT2 := Lib.hid hT
      have HB := Lib.hid (fun w1 (h : (strT gs abB).P w1) => show w1.cell? ⟨gs, k, none⟩ = some (.int .u8 (cn : Nat)) from by rw [← hcn]; exact h.2 k hlt)
      clear hT hcn
      go_upto_region 11 with (first | ((with_reducible refine at_load ?_); refine nlo (HB.out _ (hM.thing _ (List.Mem.head _))) ?_) | ((with_reducible refine at_mslice ?_); refine nmk2 hM ?_; clear hM; intro gn wn hM) | ((first | with_reducible refine at_load ?_ | ((with_reducible refine at_load_g ?_ ?_); (· rfl))); first | refine nll hM ?_ | refine nlc hM ?_ | refine nlp hM ?_) | ((with_reducible refine at_store ?_); first | (refine nlw hM ?_; clear hM; intro wx hM) | (refine nls hM ?_; clear hM; intro wx hM) | (refine nlt hM ?_; clear hM; intro wx hM)) | ((with_reducible refine at_alloc ?_); refine nlz hM ?_; clear hM; intro gx wx hM) | ((with_reducible refine at_box ?_); first | (refine nlb hM ?_; clear hM; intro gx wx hM) | (refine nlx hM ?_; clear hM; intro gx wx hM)))
      have M1 := Lib.hid hM
      clear hM
      go_loopw [40] (fun i wr => ∃ q : Nat, q ≤ 1 ∧ i = .int .i64 (q : Nat) ∧ ((q = 0 ∧ Mem G w0 (⟨gn, 4, 2, #[.bool false, .bool false]⟩ :: ⟨gr, 4, 2, #[.bool true, .bool true]⟩ :: L) (strT gs abB :: R) wr) ∨ (q = 1 ∧ Mem G w0 (⟨gn, 4, 2, #[.bool true, .bool false]⟩ :: ⟨gr, 4, 2, #[.bool true, .bool true]⟩ :: L) (strT gs abB :: R) wr))) (fun i _ => 1 - (intOf i).toNat)
      case atStart => exact ⟨0, by omega, rfl, .inl ⟨rfl, M1.out⟩⟩
      case round =>
        clear M1
        obtain ⟨q, hq, rfl, ⟨rfl, hM⟩ | ⟨rfl, hM⟩⟩ := hrel
        · have hc := Lib.hid (fun w (hM : Mem G w0 (⟨gn, 4, 2, #[.bool false, .bool false]⟩ :: ⟨gr, 4, 2, #[.bool true, .bool true]⟩ :: L) (strT gs abB :: R) w) => ele_at (hM.thing _ (List.Mem.tail _ HE.out)))
          go_wp2_with (first | ((with_reducible refine at_load ?_); refine nlo (hc.out _ hM) ?_) | ((with_reducible refine (HT2.out _).mono ?_); rintro e w1 ⟨rfl, hb⟩; replace hM := hM.step hb; clear hb) | ((with_reducible refine (HS.out _).mono ?_); rintro e w1 ⟨rfl, hb⟩; replace hM := hM.step hb; clear hb) | ((first | with_reducible refine at_load ?_ | ((with_reducible refine at_load_g ?_ ?_); (· rfl))); first | refine nll hM ?_ | refine nlc hM ?_ | refine nlp hM ?_) | ((with_reducible refine at_store ?_); first | (refine nlw hM ?_; clear hM; intro wx hM) | (refine nls hM ?_; clear hM; intro wx hM) | (refine nlt hM ?_; clear hM; intro wx hM)) | ((with_reducible refine at_alloc ?_); refine nlz hM ?_; clear hM; intro gx wx hM) | ((with_reducible refine at_box ?_); first | (refine nlb hM ?_; clear hM; intro gx wx hM) | (refine nlx hM ?_; clear hM; intro gx wx hM)))
          exact ⟨⟨1, by omega, by go_num, .inr ⟨rfl, hM⟩⟩, by simp [intOf]⟩
        · go_wp2_with (first | ((with_reducible refine (HSP.out _ _ _ _ _ hM (List.Mem.tail _ (List.Mem.tail _ HP.out)) (List.Mem.tail _ HE.out) (UpdL.head _ _ _ _ _)).mono ?_); rintro e w1 ⟨⟨v, rfl⟩, hM1⟩; clear hM; have hM := hM1; clear hM1) | ((first | with_reducible refine at_load ?_ | ((with_reducible refine at_load_g ?_ ?_); (· rfl))); first | refine nll hM ?_ | refine nlc hM ?_ | refine nlp hM ?_) | ((with_reducible refine at_store ?_); first | (refine nlw hM ?_; clear hM; intro wx hM) | (refine nls hM ?_; clear hM; intro wx hM) | (refine nlt hM ?_; clear hM; intro wx hM)) | ((with_reducible refine at_alloc ?_); refine nlz hM ?_; clear hM; intro gx wx hM) | ((with_reducible refine at_box ?_); first | (refine nlb hM ?_; clear hM; intro gx wx hM) | (refine nlx hM ?_; clear hM; intro gx wx hM)))
          exact ⟨⟨k + 1, gn, by omega, by go_num, rfl, hM.subL (by exact List.Sublist.cons_cons _ (List.Sublist.cons _ (List.Sublist.refl _)))⟩, by simp [intOf]; omega⟩
    · obtain rfl : k = 3 := by omega
      go_wp2_with (first | ((first | with_reducible refine at_load ?_ | ((with_reducible refine at_load_g ?_ ?_); (· rfl))); first | refine nll hM ?_ | refine nlc hM ?_ | refine nlp hM ?_) | ((with_reducible refine at_store ?_); first | (refine nlw hM ?_; clear hM; intro wx hM) | (refine nls hM ?_; clear hM; intro wx hM) | (refine nlt hM ?_; clear hM; intro wx hM)) | ((with_reducible refine at_alloc ?_); refine nlz hM ?_; clear hM; intro gx wx hM) | ((with_reducible refine at_box ?_); first | (refine nlb hM ?_; clear hM; intro gx wx hM) | (refine nlx hM ?_; clear hM; intro gx wx hM)))
      go_ret
      exact ⟨rfl, (hM.subL (List.sublist_cons_self _ _)).subR (List.sublist_cons_self _ _)⟩
end
end Go.Proofs.YtpjphjokhccdaaaGreat
