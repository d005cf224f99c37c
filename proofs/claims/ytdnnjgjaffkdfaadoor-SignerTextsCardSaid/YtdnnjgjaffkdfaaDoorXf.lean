/- Base64: regroup for Decode; the table of the letters' values. Base64: data, Size. Base64: Decode. -/
import Derived.Test.YtdnnjgjaffkdfaaDoorXe
import Derived.Maps.OwnSet
import Derived.Maps.OwnOps
namespace Go.Proofs.YtdnnjgjaffkdfaaDoor
open Go Go.RowKit Go.Bul Go.Thg Go.Lin Go.Maps
set_option maxRecDepth 20000 in
theorem regroupD_any (w : World) (gt : Nat) :
    Calls Tryd.prog 120 #[.int .i64 6, .int .i64 8, .func (.func 124) #[] #[.pointer (some ⟨gt, 0, none⟩)]] w fun e w' => ∃ gb gc gf go gp, e = .returned (.tuple #[.func (.func 134) #[] #[.pointer (some ⟨gb, 0, none⟩), .pointer (some ⟨gf, 0, none⟩), .pointer (some ⟨gc, 0, none⟩), .pointer (some ⟨go, 0, none⟩), .pointer (some ⟨gp, 0, none⟩)], .func (.func 135) #[] #[.pointer (some ⟨gb, 0, none⟩), .pointer (some ⟨gc, 0, none⟩)]]) ∧
      Mem [] w [⟨gc, 3, 1, #[.int .i64 0]⟩, ⟨gb, 3, 1, #[.int .i64 0]⟩, ⟨gp, 185, 1, #[.func (.func 124) #[] #[.pointer (some ⟨gt, 0, none⟩)]]⟩, ⟨go, 3, 1, #[.int .i64 8]⟩, ⟨gf, 3, 1, #[.int .i64 6]⟩] [] w' := by
  have hM := Mem.start [] w
  go_enter Tryd.func120, Tryd.ntmps120
  go_wp2_with fail
  refine bodyPost_ret (results_tmp2 rfl _ _ _) rfl ?_
  have h5 := ((((hM.alloc #[.int .i64 6] 3 (n := 1) rfl).alloc #[.int .i64 8] 3 (n := 1) rfl).alloc #[.func (.func 124) #[] #[.pointer (some ⟨gt, 0, none⟩)]] 185 (n := 1) rfl).alloc #[.int .i64 0] 3 (n := 1) rfl).alloc #[.int .i64 0] 3 (n := 1) rfl
  exact ⟨_, _, _, _, _, rfl, by simpa only [hp_alloc] using h5⟩

/-- The table after some letters. -/
def mapC : Nat → DataW Unit
  | 0 => .map []
  | k + 1 => (mapC k).put (.int .u8 (alf k : Nat)) (.lit (.int .i64 (k : Nat)))
def litI : DataW Unit → Option Int
  | .lit (.int .i64 z) => some z
  | _ => none
theorem has_all : ∀ c : Fin 256, Maps.has (mapC 64) (.int .u8 (c.val : Nat)) = (valN c.val).isSome := by decide +kernel
theorem at_all : ∀ c : Fin 256, litI ((mapC 64).atKey (.int .u8 (c.val : Nat)) (.lit (.int .i64 0))) = some (((valN c.val).getD 0 : Nat) : Int) := by decide +kernel
theorem keyed_u8 : Keyed Tryd.prog 5 := int_keyed Tryd.underlying5
theorem zeroE (w : World) : (zeroValue 3).run Tryd.prog w = .ok (.int .i64 0) w := by kernel_rfl
def mapT (b n : Nat) (D : DataW Unit) : Thing where
  fp := [b]
  P := fun w => w.ownsMap Tryd.prog 5 (plainElem Tryd.prog 3) b n D
  keep := fun w w' h hp => by
    obtain ⟨es, clock, hb, F, hs, hD⟩ := hp
    exact ⟨es, clock, (h b (List.mem_singleton.2 rfl)).trans hb, F, hs, hD⟩
  lt := fun w hp g hg => by
    obtain rfl := List.mem_singleton.1 hg
    exact hp.lt
  nd := fun _ _ => by simp
theorem key_u8 {c : Nat} (h : c < 256) : keyOf Tryd.prog 5 (.int .u8 (c : Nat)) = some (.int .u8 (c : Nat)) :=
  keyOf_int_mk Tryd.underlying5 (WalkArith.wf_u8 (by omega))
theorem map_new (w : World) : Becomes [] w (mapT w.heap.size 0 (mapC 0)) (w.alloc (.map #[] 0)) := by
  refine ⟨World.ownsMap_made _ _ _ _, KeptBut.of_below ((Below.refl _ w).alloc (Nat.le_refl _) _), fun g hg => .inr ?_⟩
  obtain rfl := List.mem_singleton.1 hg
  exact Nat.le_refl _
theorem map_turn {w w' : World} {b n : Nat} {D : DataW Unit} (h : w'.ownsMap Tryd.prog 5 (plainElem Tryd.prog 3) b n D) (hg : w.grownBy w' (some b)) : Becomes [b] w (mapT b n D) w' :=
  ⟨h, ⟨hg.os, hg.tape, hg.output, hg.size, fun k hk hn => hg.block k hk (fun e => hn (by injection e with e; rw [e]; exact List.mem_singleton.2 rfl))⟩, fun _ hg => .inl hg⟩
section
variable {w w0 : World} {G : List Nat} {L : List Ent} {R : List Thing} {ops : Array Oper} {rest : List Oper} {o : Oper} {a : Act} {Q : Exit → Act → World → Prop} {dst : Option Tmp} {type : TypeId} {pos : String} {after : Array Edge} {x y z : Operand} {b n c : Nat} {D : DataW Unit}
theorem at_mmake {t : TypeId} {r : Option Operand} (h : wpList Tryd.prog ops Q (⟨dst, .makeMap t r, type, pos, after, none⟩ :: rest) a w) : wpList Tryd.prog ops Q (⟨dst, .makeMap t r, type, pos, after, none⟩ :: rest) a w := h
theorem at_mput {t : TypeId} (h : wpList Tryd.prog ops Q (⟨dst, .mapUpdate t x y z, type, pos, after, none⟩ :: rest) a w) : wpList Tryd.prog ops Q (⟨dst, .mapUpdate t x y z, type, pos, after, none⟩ :: rest) a w := h
theorem at_mlook {t : TypeId} {k : Bool} (h : wpList Tryd.prog ops Q (⟨dst, .lookup t x y k, type, pos, after, none⟩ :: rest) a w) : wpList Tryd.prog ops Q (⟨dst, .lookup t x y k, type, pos, after, none⟩ :: rest) a w := h
theorem at_ix {t : TypeId} (h : wpList Tryd.prog ops Q (⟨dst, .index t x y, type, pos, after, none⟩ :: rest) a w) : wpList Tryd.prog ops Q (⟨dst, .index t x y, type, pos, after, none⟩ :: rest) a w := h
theorem run_mmake (w : World) : (Instr.makeMap 191 (some (.int .i64 64))).run Tryd.prog w = .ok (.map (some w.heap.size)) (w.alloc (.map #[] 0)) := by
  unfold Instr.makeMap
  simp [run_underlying Tryd.underlying191, Result.andThen, asInt]
  rfl
theorem lmm (hM : Mem G w0 L R w) (h : ∀ b w', Mem G w0 L (mapT b 0 (mapC 0) :: R) w' → wpList Tryd.prog ops Q rest (a.put o.dst (.map (some b))) w') (hgd : o.guard = none := by rfl) (ho : o.op = .makeMap 191 (some x) := by rfl) (hx : a.eval x = .int .i64 64 := by rfl) : wpList Tryd.prog ops Q (o :: rest) a w := by
  refine wpList_plain hgd fun K hK => ?_
  unfold Oper.wp execOp
  simp only [ho, Option.map_some, hx, Sem.run_bind, Sem.run_pure, Result.andThen_ok, run_mmake]
  exact hK _ _ (h _ _ (hM.newThing (map_new w)))
theorem lmu (hM : Mem G w0 L (mapT b n D :: R) w) (hn : n < 1000) (k v : Nat) (hk : k < 256) (hv : v < 256) (h : ∀ w', Mem G w0 L (mapT b (n + 1) (D.put (.int .u8 (k : Nat)) (.lit (.int .i64 (v : Nat)))) :: R) w' → wpList Tryd.prog ops Q rest (a.put o.dst undef) w') (hgd : o.guard = none := by rfl) (ho : o.op = .mapUpdate 191 x y z := by rfl) (hx : a.eval x = .map (some b) := by rfl) (hy : a.eval y = .int .u8 (k : Nat) := by rfl) (hz : a.eval z = .int .i64 (v : Nat) := by rfl) : wpList Tryd.prog ops Q (o :: rest) a w :=
  wpList_mapUpdate_own w hgd x y z 191 ho 5 3 keyed_u8 Tryd.underlying191 _ b n D hx (hM.thing _ (List.Mem.head _)) (by unfold maxLen; omega) _ _ _ hy hz (key_u8 hk) _ [] (plainElem_int Tryd.underlying3 (WalkArith.wf_i64 (by omega)))
    fun w' h1 h2 => h w' (hM.turn (UpdR.head _ _) (map_turn h1 h2))
theorem lmy (v : Nat) (hR : mapT b 64 (mapC 64) ∈ R) (hM : Mem G w0 L R w) (hc : c < 256) (hv : valN c = some v) (h : wpList Tryd.prog ops Q rest (a.put o.dst (.tuple #[.int .i64 (v : Nat), .bool true])) w) (hgd : o.guard = none := by rfl) (ho : o.op = .lookup 191 x y true := by rfl) (hx : a.eval x = .map (some b) := by rfl) (hy : a.eval y = .int .u8 (c : Nat) := by rfl) : wpList Tryd.prog ops Q (o :: rest) a w :=
  wpList_lookup_own_ok_int w hgd x y 191 ho 5 3 .i64 keyed_u8 Tryd.underlying191 Tryd.underlying3 (zeroE w) b 64 (mapC 64) hx (hM.thing _ hR) _ _ hy (key_u8 hc) fun z hz _ => by
    have h1 := at_all ⟨c, hc⟩
    simp only [hz, litI, Option.some.injEq, hv, Option.getD_some] at h1
    rw [has_all ⟨c, hc⟩, h1]
    simp only [hv, Option.isSome_some]
    exact h
theorem lmn (hR : mapT b 64 (mapC 64) ∈ R) (hM : Mem G w0 L R w) (hc : c < 256) (hv : valN c = none) (h : wpList Tryd.prog ops Q rest (a.put o.dst (.tuple #[.int .i64 0, .bool false])) w) (hgd : o.guard = none := by rfl) (ho : o.op = .lookup 191 x y true := by rfl) (hx : a.eval x = .map (some b) := by rfl) (hy : a.eval y = .int .u8 (c : Nat) := by rfl) : wpList Tryd.prog ops Q (o :: rest) a w :=
  wpList_lookup_own_ok_int w hgd x y 191 ho 5 3 .i64 keyed_u8 Tryd.underlying191 Tryd.underlying3 (zeroE w) b 64 (mapC 64) hx (hM.thing _ hR) _ _ hy (key_u8 hc) fun z hz _ => by
    have h1 := at_all ⟨c, hc⟩
    simp only [hz, litI, Option.some.injEq, hv, Option.getD_none, Int.natCast_zero] at h1
    rw [has_all ⟨c, hc⟩, h1]
    simp only [hv, Option.isSome_none]
    exact h
end
def alC : Array Value := (vals .u8 alL).toArray
theorem row_a64 : RowTy Tryd.prog 189 64 := ⟨⟨_, Tryd.underlying189, rfl, by kernel_rfl⟩⟩
theorem alC_at {k : Nat} (h : k < 64) : alC[k]? = some (.int .u8 (alf k : Nat)) := by
  have e : alL.length = 64 := rfl
  simp only [alC, vals, List.getElem?_toArray, List.getElem?_map, alf, List.getD_eq_getElem?_getD, List.getElem?_eq_getElem (by omega : k < alL.length), Option.map_some, Option.getD_some]
theorem run_alix {k : Nat} (h : k < 64) (w : World) : (Instr.index 189 (.agg alC) (.int .i64 (k : Nat))).run Tryd.prog w = .ok (.int .u8 (alf k : Nat)) w := by
  unfold Instr.index
  simp only [asIntOf, Sem.run_bind, Sem.run_pure, Result.andThen_ok, run_underlying Tryd.underlying189]
  rw [if_pos (by omega)]
  simp only [Sem.run_bind, Go.Bul.run_sizeOf (n := 1) (show (Tryd.prog.info? 5).map (·.size) = some 1 by kernel_rfl), Result.andThen_ok, Int.toNat_natCast, Nat.mul_one]
  have hc := alC_at h
  generalize alC = X at hc
  exact run_part_one one_u8 hc w
theorem lix (k : Nat) (hk : k < 64) {x y : Operand} {w : World} {ops : Array Oper} {rest : List Oper} {o : Oper} {a : Act} {Q : Exit → Act → World → Prop} (h : wpList Tryd.prog ops Q rest (a.put o.dst (.int .u8 (alf k : Nat))) w) (hgd : o.guard = none := by rfl) (ho : o.op = .index 189 x y := by rfl) (hx : a.eval x = .agg alC := by rfl) (hy : a.eval y = .int .i64 (k : Nat) := by rfl) : wpList Tryd.prog ops Q (o :: rest) a w :=
  wpList_plain hgd fun K hK => by
    unfold Oper.wp execOp
    simp only [ho, hx, hy, Sem.run_bind, Sem.run_pure, Result.andThen_ok, run_alix hk]
    exact hK _ _ h
theorem alC_row {w : World} (hA : Alp w) : ∀ (j : Nat) (u : Value), alC[j]? = some u → w.cell? ⟨0, 0 + j, none⟩ = some u := fun j u hu => by
  have hj : j < 64 := (Array.getElem?_eq_some_iff.1 hu).1
  rw [alC_at hj] at hu
  rw [Nat.zero_add, hA j hj, hu]
theorem alC_size : alC.size = 64 := rfl
set_option maxRecDepth 20000 in
set_option maxHeartbeats 1000000 in
theorem values_any (w : World) (hA : Alp w) : Calls Tryd.prog 125 #[] w fun e w' => ∃ b, e = .returned (.map (some b)) ∧ Becomes [] w (mapT b 64 (mapC 64)) w' := by
  have hM := Mem.start [] w
  have HA := Lib.hid (fun w' (hb : Below w.heap.size w w') => alC_row (hA.keep hb))
  clear hA
  go_enter Tryd.func125, Tryd.ntmps125
  go_wp2_with (first | ((with_reducible refine at_mmake ?_); refine lmm hM ?_; clear hM; intro b w1 hM) | ((with_reducible refine at_load ?_); refine lr (HA.out _ hM.below) ?_ (hty := row_a64) (hs := alC_size)))
  have M0 := Lib.hid hM
  clear hM
  go_loopw [6] (fun i wr => ∃ k : Nat, k ≤ 64 ∧ i = .int .i64 (k : Nat) ∧ Mem [] w [] [mapT b k (mapC k)] wr) (fun i _ => 64 - (intOf i).toNat)
  case atStart => exact ⟨0, by omega, rfl, M0.out⟩
  case round =>
    clear M0
    obtain ⟨k, hk, rfl, hM⟩ := hrel
    have k0 : (0 : Int) ≤ (k : Int) := Int.natCast_nonneg _
    by_cases hlt : k < 64
    · have k1 : (k : Int) < 64 := by omega
      have hal := Lib.hid (alf_lt hlt)
      go_wp2_with (first | ((with_reducible refine at_ix ?_); refine lix k hlt ?_) | ((with_reducible refine at_mput ?_); refine lmu hM (by omega) (alf k) k hal.out (by omega) ?_; clear hM; intro w2 hM))
      exact ⟨⟨k + 1, by omega, by go_num, hM⟩, by simp [intOf]; omega⟩
    · obtain rfl : k = 64 := by omega
      go_wp2_with fail
      go_ret
      exact ⟨b, rfl, hM.becomes (List.Mem.head _)⟩
end Go.Proofs.YtdnnjgjaffkdfaaDoor
namespace Go.Lin
open Go Go.Bul
theorem num_at (s : ByteArray) (k : Nat) (h : k < s.size) : (nums s).getD k 0 = s[k].toNat := by
  have : k < s.data.size := h
  simp only [nums, List.getD_eq_getElem?_getD, List.getElem?_map, Array.getElem?_toList]
  rw [Array.getElem?_eq_getElem this]
  rfl
end Go.Lin
namespace Go.Proofs.YtdnnjgjaffkdfaaDoor
open Go Go.RowKit Go.Bul Go.Thg Go.Lin
section
variable {w : World} {ops : Array Oper} {rest : List Oper} {o : Oper} {a : Act} {Q : Exit → Act → World → Prop} {dst : Option Tmp} {type : TypeId} {pos : String} {after : Array Edge} {x y : Operand}
theorem at_ix_g {t : TypeId} {g : Nat × Bool} (hw : Region.wanted ⟨dst, .index t x y, type, pos, after, some g⟩ (yielded ops a.tmps) = true) (h : wpList Tryd.prog ops Q (⟨dst, .index t x y, type, pos, after, none⟩ :: rest) a w) : wpList Tryd.prog ops Q (⟨dst, .index t x y, type, pos, after, some g⟩ :: rest) a w := wpList_wanted hw h
theorem run_six {s : ByteArray} {i : Int} {k c : Nat} (hi : i = (k : Nat)) (hk : k < s.size) (hc : (nums s).getD k 0 = c) (w : World) : (Instr.index 9 (.string s) (.int .i64 i)).run Tryd.prog w = .ok (.int .u8 (c : Nat)) w := by
  subst hi
  rw [run_index_string w _ s .i64 _ Tryd.underlying9, dif_pos ⟨by omega, by omega⟩, ← hc, num_at s k hk]
  rfl
theorem lis {s : ByteArray} {i : Int} (k c : Nat) (hi : i = (k : Nat)) (hk : k < s.size) (hc : (nums s).getD k 0 = c) (h : wpList Tryd.prog ops Q rest (a.put o.dst (.int .u8 (c : Nat))) w) (hgd : o.guard = none := by rfl) (ho : o.op = .index 9 x y := by rfl) (hx : a.eval x = .string s := by rfl) (hy : a.eval y = .int .i64 i := by rfl) : wpList Tryd.prog ops Q (o :: rest) a w :=
  wpList_plain hgd fun K hK => by
    unfold Oper.wp execOp
    simp only [ho, hx, hy, Sem.run_bind, Sem.run_pure, Result.andThen_ok, run_six hi hk hc]
    exact hK _ _ h
end
theorem size_max (w : World) : Calls Tryd.prog 122 #[.int .i64 131072] w fun e w' => e = .returned (.int .i64 174764) ∧ w = w' := by
  go_enter Tryd.func122, Tryd.ntmps122
  go_wp2_with fail
  go_ret
  exact ⟨rfl, rfl⟩
set_option maxRecDepth 20000 in
set_option maxHeartbeats 1000000 in
theorem data_any (s : ByteArray) (w : World) (hs : s.size ≤ 100000) : Calls Tryd.prog 123 #[.string s] w fun e w' => e = .returned (.int .i64 (dataN (nums s) : Nat)) ∧ w = w' := by
  have hl := nums_length s
  have hd : dataN (nums s) = if s.size = 0 ∨ s.size % 4 ≠ 0 ∨ (nums s).getD (s.size - 1) 0 ≠ 61 then s.size else if (nums s).getD (s.size - 2) 0 = 61 then s.size - 2 else s.size - 1 := by unfold dataN; rw [hl]
  rw [hd]
  clear hd hl
  by_cases h0 : s.size = 0
  · rw [if_pos (.inl h0), h0]
    have q0 : ((s.size : Int) == 0) = true := by rw [h0]; rfl
    have q1 : ((s.size : Int)) = 0 := by rw [h0]; rfl
    clear hs h0
    go_enter Tryd.func123, Tryd.ntmps123
    go_wp2_with fail
    go_ret
    exact ⟨rfl, rfl⟩
  · have q0 : ((s.size : Int) == 0) = false := beq_false_of_ne (by omega)
    by_cases h4 : s.size % 4 = 0
    · obtain ⟨k1, hk1⟩ : ∃ k1, k1 = s.size - 1 := ⟨_, rfl⟩
      obtain ⟨k2, hk2⟩ : ∃ k2, k2 = s.size - 2 := ⟨_, rfl⟩
      have HW1 := Lib.hid (show wrap64 ((s.size : Int) - 1) = (k1 : Nat) by unfold wrap64; omega)
      have HW2 := Lib.hid (show wrap64 ((s.size : Int) - 2) = (k2 : Nat) by unfold wrap64; omega)
      have HK1 := Lib.hid (show k1 < s.size by omega)
      have HK2 := Lib.hid (show k2 < s.size by omega)
      have q4 : (s.size : Int) % 4 = 0 := by omega
      have hz : s.size ≠ 0 ∧ s.size % 4 = 0 := ⟨h0, h4⟩
      rw [← hk1, ← hk2]
      obtain ⟨c1, hc1⟩ : ∃ c, (nums s).getD k1 0 = c := ⟨_, rfl⟩
      obtain ⟨c2, hc2⟩ : ∃ c, (nums s).getD k2 0 = c := ⟨_, rfl⟩
      rw [hc1, hc2]
      have HC1 := Lib.hid hc1
      have HC2 := Lib.hid hc2
      clear hc1 hc2 hk1 hk2 hs h4 h0
      by_cases e1 : c1 = 61
      · have t1 : ((c1 : Int) != 61) = false := by rw [e1]; rfl
        by_cases e2 : c2 = 61
        · have t2 : ((c2 : Int) == 61) = true := by rw [e2]; rfl
          rw [if_neg (fun h => h.elim hz.1 fun h => h.elim (fun h => h hz.2) fun h => h e1), if_pos e2]
          clear e1 e2 hz
          go_enter Tryd.func123, Tryd.ntmps123
          go_wp2_with (first | ((first | with_reducible refine at_ix ?_ | ((with_reducible refine at_ix_g ?_ ?_); (· rfl))); first | refine lis k1 c1 HW1.out HK1.out HC1.out ?_ | refine lis k2 c2 HW2.out HK2.out HC2.out ?_))
          go_ret
          exact ⟨(by first | rfl | (show Ending.returned (Value.int .i64 (wrap64 ((s.size : Int) - 2))) = _; rw [HW2.out]) | (show Ending.returned (Value.int .i64 (wrap64 ((s.size : Int) - 1))) = _; rw [HW1.out])), rfl⟩
        · have t2 : ((c2 : Int) == 61) = false := beq_false_of_ne (by omega)
          rw [if_neg (fun h => h.elim hz.1 fun h => h.elim (fun h => h hz.2) fun h => h e1), if_neg e2]
          clear e1 e2 hz
          go_enter Tryd.func123, Tryd.ntmps123
          go_wp2_with (first | ((first | with_reducible refine at_ix ?_ | ((with_reducible refine at_ix_g ?_ ?_); (· rfl))); first | refine lis k1 c1 HW1.out HK1.out HC1.out ?_ | refine lis k2 c2 HW2.out HK2.out HC2.out ?_))
          go_ret
          exact ⟨(by first | rfl | (show Ending.returned (Value.int .i64 (wrap64 ((s.size : Int) - 2))) = _; rw [HW2.out]) | (show Ending.returned (Value.int .i64 (wrap64 ((s.size : Int) - 1))) = _; rw [HW1.out])), rfl⟩
      · have t1 : ((c1 : Int) != 61) = true := by simp; omega
        rw [if_pos (.inr (.inr e1))]
        clear e1 hz
        go_enter Tryd.func123, Tryd.ntmps123
        go_wp2_with (first | ((first | with_reducible refine at_ix ?_ | ((with_reducible refine at_ix_g ?_ ?_); (· rfl))); first | refine lis k1 c1 HW1.out HK1.out HC1.out ?_ | refine lis k2 c2 HW2.out HK2.out HC2.out ?_))
        go_ret
        exact ⟨(by first | rfl | (show Ending.returned (Value.int .i64 (wrap64 ((s.size : Int) - 2))) = _; rw [HW2.out]) | (show Ending.returned (Value.int .i64 (wrap64 ((s.size : Int) - 1))) = _; rw [HW1.out])), rfl⟩
    · rw [if_pos (.inr (.inl h4))]
      have q4 : ¬ ((s.size : Int) % 4 = 0) := by omega
      clear hs h0 h4
      go_enter Tryd.func123, Tryd.ntmps123
      go_wp2_with fail
      go_ret
      exact ⟨rfl, rfl⟩
end Go.Proofs.YtdnnjgjaffkdfaaDoor
namespace Go.Lin
open Go Go.Bul
/-- What Decode has after k characters. -/
def decK (t : List Nat) (k : Nat) : List Nat × Nat × Nat := decS 0 0 ((t.take k).filterMap valN)
theorem decK_step {t : List Nat} {k c v : Nat} (hk : k < t.length) (hc : t.getD k 0 = c) (hv : valN c = some v) : decK t (k + 1) = ((decK t k).1 ++ emit8 ((decK t k).2.1 * 64 + v) ((decK t k).2.2 + 6), rem8 ((decK t k).2.1 * 64 + v) ((decK t k).2.2 + 6)) := by
  unfold decK
  have h : t.take (k + 1) = t.take k ++ [c] := by
    rw [List.take_add_one, ← hc, List.getD_eq_getElem?_getD, List.getElem?_eq_getElem hk]
    rfl
  rw [h, List.filterMap_append, List.filterMap_cons_some hv, List.filterMap_nil, decS_append, decS_one]
theorem decK_ok {t : List Nat} (hB : Bytes t) (k : Nat) : (decK t k).2.1 < 2 ^ (decK t k).2.2 ∧ (decK t k).2.2 < 7 ∧ (decK t k).1.length ≤ k ∧ Bytes (decK t k).1 := by
  obtain ⟨h1, h2, h3, h4, h5⟩ := decS_ok ((t.take k).filterMap valN) 0 0 (by decide) (by decide) (filterMap_lt fun x hx => hB x (List.take_subset _ _ hx)) rfl
  refine ⟨h1, by unfold decK; omega, ?_, h5⟩
  refine Nat.le_trans h4 (Nat.le_trans (List.length_filterMap_le _ _) ?_)
  rw [List.length_take]
  omega
theorem decE_bad {t : List Nat} {k c : Nat} (hk : k < dataN t) (hc : t.getD k 0 = c) (hv : valN c = none) : decE t = 6 := by
  have h : decBad t = true := by
    unfold decBad
    rw [List.any_eq_true]
    have := dataN_le t
    refine ⟨c, ?_, by rw [hv]; rfl⟩
    rw [List.mem_iff_getElem?]
    refine ⟨k, ?_⟩
    rw [List.getElem?_take, if_pos hk, ← hc, List.getD_eq_getElem?_getD, List.getElem?_eq_getElem (by omega)]
    rfl
  unfold decE
  rw [h]
  rfl
theorem decE_good {t : List Nat} (h : ∀ j, j < dataN t → valN (t.getD j 0) ≠ none) : decE t = if t.length % 4 ≠ 0 then 4 else if (decK t (dataN t)).2.1 ≠ 0 then 3 else 0 := by
  have h2 : decBad t = false := by
    unfold decBad
    rw [List.any_eq_false]
    intro c hc
    obtain ⟨j, hj⟩ := List.mem_iff_getElem?.1 hc
    have h3 := (List.getElem?_eq_some_iff.1 hj).1
    rw [List.length_take] at h3
    rw [List.getElem?_take, if_pos (by omega)] at hj
    have h4 := h j (by omega)
    rw [List.getD_eq_getElem?_getD, hj, Option.getD_some] at h4
    cases hv : valN c with
    | none => exact absurd hv h4
    | some v => simp
  unfold decE
  rw [h2]
  rfl
theorem decB_no {t : List Nat} (h : decE t ≠ 0) : decB t = [] := by unfold decB; rw [if_neg h]
theorem decB_yes {t : List Nat} (h : decE t = 0) : decB t = (decK t (dataN t)).1 := by unfold decB; rw [if_pos h]; rfl
end Go.Lin
namespace Go.Proofs.YtdnnjgjaffkdfaaDoor
open Go Go.RowKit Go.Bul Go.Thg Go.Lin
theorem nil_becomes {w w' : World} (h : Below w.heap.size w w') : Becomes [] w (bT (.slice none 0 0) []) w' :=
  ⟨bT_zero none w', KeptBut.of_below h, fun g hg => by cases hg⟩
set_option maxRecDepth 20000 in
set_option maxHeartbeats 4000000 in
theorem Decode_any (s : ByteArray) (w : World) (hs : s.size ≤ 90000) (hA : Alp w) :
    Calls Tryd.prog 95 #[.string s] w fun e w' => ∃ A n c off, e = .returned (.tuple #[.slice A n c, .int .i64 off, .int .i64 (decE (nums s) : Nat)]) ∧ Becomes [] w (bT (.slice A n c) (decB (nums s))) w' := by
  have hM := Mem.start [] w
  have hB := bytes_of_nums s
  have hl := nums_length s
  have HDA := Lib.hid (fun w => data_any s w (by omega))
  have hdl := dataN_le (nums s)
  have HBY := Lib.hid (fun (k : Nat) (hk : k < s.size) => show (nums s).getD k 0 < 256 by rw [List.getD_eq_getElem?_getD, List.getElem?_eq_getElem (by omega)]; exact hB _ (List.getElem_mem _))
  have HST := Lib.hid (fun (k c v : Nat) (hk : k < s.size) (hc : (nums s).getD k 0 = c) (hv : valN c = some v) => decK_step (t := nums s) (by omega) hc hv)
  have HOK := Lib.hid (fun (k : Nat) => decK_ok hB k)
  have HBAD := Lib.hid (fun (k c : Nat) (hk : k < dataN (nums s)) (hc : (nums s).getD k 0 = c) (hv : valN c = none) => decE_bad hk hc hv)
  have HGOOD := Lib.hid (fun (h : ∀ j, j < dataN (nums s) → valN ((nums s).getD j 0) ≠ none) => decE_good h)
  have HNO := Lib.hid (fun (h : decE (nums s) ≠ 0) => decB_no h)
  have HYES := Lib.hid (fun (h : decE (nums s) = 0) => decB_yes h)
  have HK0 : decK (nums s) 0 = ([], 0, 0) := rfl
  rw [hl] at HGOOD hdl
  have HV := Lib.hid (fun w' (hb : Below w.heap.size w w') => values_any w' (hA.keep hb))
  generalize decE (nums s) = er at HBAD HGOOD HNO HYES ⊢
  generalize decB (nums s) = bs at HNO HYES ⊢
  generalize dataN (nums s) = n at HDA hdl HBAD HGOOD HYES
  generalize decK (nums s) = dk at HST HOK HGOOD HYES HK0
  generalize hts : nums s = ts at HBY HST HBAD HGOOD
  replace hts := Lib.hid hts
  obtain ⟨cap, hcap⟩ : ∃ cap, cap = n * 6 / 8 := ⟨_, rfl⟩
  have HC : (n : Int) * 6 / 8 = (cap : Int) := by omega
  have hc9 : cap ≤ 1000000000 := by omega
  have HCW : wrap64 ((n : Int) * 6) = (n : Int) * 6 := by unfold wrap64; omega
  have hsz : (s.size : Int) ≤ 90000 := by omega
  have q1 : decide ((s.size : Int) > 174764) = false := decide_eq_false (by omega)
  replace hdl := Lib.hid hdl
  replace hs := Lib.hid hs
  replace hcap := Lib.hid hcap
  clear hA hB hl
  obtain ⟨E, W, h1, h2⟩ := made_bytes w cap hc9
  have hM1 := Lib.hid ((hM.newThing h2).alloc #[.slice E 0 cap] 78 (n := 1) rfl)
  have HRG := Lib.hid (fun (w : World) (gt : Nat) => regroupD_any w gt)
  replace h1 := Lib.hid h1
  clear h2 hM
  go_enter Tryd.func95, Tryd.ntmps95
  go_wp2_with (first | ((with_reducible refine (size_max _).mono ?_); rintro e w1 ⟨rfl, rfl⟩) | ((with_reducible refine (HDA.out _).mono ?_); rintro e w1 ⟨rfl, rfl⟩))
  rw [h1.out]
  have hM := hM1.out
  clear hM1 h1
  go_wp2_with fail
  refine (HRG.out _ _).mono ?_
  rintro e w1 ⟨gb, gc, gf, go, gp, rfl, hF⟩
  replace hM := hM.frame hF
  clear hF HRG
  replace hM := hM.permL (perm_rg _ _ _ _ _ _)
  obtain ⟨gt, hgt⟩ : ∃ gt, gt = W.heap.size := ⟨_, rfl⟩
  simp only [← hgt] at hM ⊢
  clear hgt
  go_wp2_with fail
  refine (HV.out _ hM.below).mono ?_
  rintro e w1 ⟨gm, rfl, hb⟩
  replace hM := (hM.newThing hb).perm (List.Perm.swap _ _ _)
  clear hb HV
  go_wp2_with fail
  have M0 := Lib.hid hM
  clear hM
  go_loopw [32] (fun i wr => ∃ (k : Nat) (E : Option Addr) (m e2 : Nat), k ≤ n ∧ i = .int .i64 (k : Nat) ∧ (∀ j, j < k → valN (ts.getD j 0) ≠ none) ∧ Mem [] w (rgD gt gb gc gf go gp (.slice E m e2) (dk k).2.1 (dk k).2.2 ++ []) [bT (.slice E m e2) (dk k).1, mapT gm 64 (mapC 64)] wr) (fun i _ => n - (intOf i).toNat)
  case atStart => exact ⟨0, E, 0, cap, by omega, rfl, fun j hj => by omega, by rw [HK0]; exact M0.out⟩
  case round =>
    clear M0
    obtain ⟨k, E1, m1, e1, hk, rfl, hall, hM⟩ := hrel
    replace hall := Lib.hid hall
    have k0 : (0 : Int) ≤ (k : Int) := Int.natCast_nonneg _
    by_cases hlt : k < n
    · have k1 : (k : Int) < (n : Int) := by omega
      have hks : k < s.size := by have := hdl.out; omega
      obtain ⟨c, hc⟩ : ∃ c, ts.getD k 0 = c := ⟨_, rfl⟩
      have hc9 : c < 256 := by rw [← hc]; exact HBY.out k hks
      replace hc := Lib.hid hc
      cases hv : valN c with
      | none =>
        have he := Lib.hid (HBAD.out k c hlt hc.out hv)
        have hno := Lib.hid (HNO.out (by rw [he.out]; decide))
        replace hv := Lib.hid hv
        clear HNO HYES HGOOD HBAD HST HOK HK0
        go_wp2_with (first | ((with_reducible refine at_ix ?_); refine lis k c rfl hks (by rw [hts.out]; exact hc.out) ?_) | ((with_reducible refine at_mlook ?_); refine lmn (List.Mem.tail _ (List.Mem.head _)) hM hc9 hv.out ?_))
        refine bodyPost_ret (results_tmp3 rfl _ _ _) rfl ?_
        exact ⟨none, 0, 0, _, by rw [he.out]; rfl, by rw [hno.out]; exact nil_becomes hM.below⟩
      | some v =>
        have hv9 := Lib.hid (valN_lt hc9 hv).1
        have hst := Lib.hid (HST.out k c v hks hc.out hv)
        obtain ⟨o1, o2, o3, _⟩ := HOK.out k
        have hne := Lib.hid (show valN (ts.getD k 0) ≠ none by rw [hc.out, hv]; exact fun h => nomatch h)
        replace hv := Lib.hid hv
        generalize dk k = S1 at hst o1 o2 o3 hM
        replace o1 := Lib.hid o1
        replace o3 := Lib.hid (show S1.1.length ≤ 90000 by omega)
        replace o2 := Lib.hid o2
        clear HNO HYES HGOOD HBAD HST HOK HK0
        go_wp2_with (first | ((with_reducible refine at_ix ?_); refine lis k c rfl hks (by rw [hts.out]; exact hc.out) ?_) | ((with_reducible refine at_mlook ?_); refine lmy v (List.Mem.tail _ (List.Mem.head _)) hM hc9 hv.out ?_))
        refine (raddD_any E1 m1 e1 S1.1 S1.2.1 S1.2.2 v hM hv9.out o2.out o1.out o3.out).mono ?_
        clear hM
        rintro e w1 ⟨E2, m2, e3, rfl, hM⟩
        go_wp2_with fail
        refine ⟨⟨k + 1, E2, m2, e3, by omega, by go_num, fun j hj => ?_, by rw [hst.out]; exact hM⟩, by simp [intOf]; omega⟩
        rcases (show j < k ∨ j = k by omega) with h | h
        · exact hall.out j h
        · rw [h]; exact hne.out
    · obtain rfl : n = k := by omega
      have hg := HGOOD.out hall.out
      obtain ⟨o1, o2, o3, _⟩ := HOK.out n
      generalize dk n = S1 at hg o1 o2 o3 hM HYES
      obtain ⟨ob, vb, vc⟩ := S1
      simp only at hg o1 o2 o3 hM HYES
      replace HYES := Lib.hid HYES.out
      by_cases h4 : s.size % 4 ≠ 0
      · rw [if_pos h4] at hg
        have hno := Lib.hid (HNO.out (by rw [hg]; decide))
        have q4 : ¬ ((s.size : Int) % 4 = 0) := by omega
        replace hg := Lib.hid hg
        clear HNO HYES HGOOD HBAD HST HOK HK0 h4
        go_wp2_with fail
        refine bodyPost_ret (results_tmp3 rfl _ _ _) rfl ?_
        exact ⟨none, 0, 0, _, by rw [hg.out]; rfl, by rw [hno.out]; exact nil_becomes hM.below⟩
      · rw [if_neg h4] at hg
        have q4 : ((s.size : Int) % 4 = 0) := by omega
        by_cases hz : vb ≠ 0
        · rw [if_pos hz] at hg
          have hno := Lib.hid (HNO.out (by rw [hg]; decide))
          have q5 : ((vb : Int) != 0) = true := by simp; omega
          have q6 : ¬ ((vb : Int) = 0) := by omega
          replace hg := Lib.hid hg
          clear HNO HYES HGOOD HBAD HST HOK HK0 h4 hz
          go_wp2_with (first | ((with_reducible refine (rleft_any vb vc hM (List.Mem.tail _ (List.Mem.head _)) (List.Mem.tail _ (List.Mem.tail _ (List.Mem.head _)))).mono ?_); clear hM; rintro e w1 ⟨rfl, hM⟩))
          refine bodyPost_ret (results_tmp3 rfl _ _ _) rfl ?_
          exact ⟨none, 0, 0, _, by rw [hg.out]; rfl, by rw [hno.out]; exact nil_becomes hM.below⟩
        · rw [if_neg hz] at hg
          obtain rfl : vb = 0 := by omega
          have hb := Lib.hid (HYES.out hg)
          replace hg := Lib.hid hg
          clear HNO HYES HGOOD HBAD HST HOK HK0 h4 hz
          simp only [rgD, List.cons_append, List.nil_append] at hM
          go_wp2_with (first | ((with_reducible refine (rleft_any 0 vc hM (List.Mem.tail _ (List.Mem.head _)) (List.Mem.tail _ (List.Mem.tail _ (List.Mem.head _)))).mono ?_); clear hM; rintro e w1 ⟨rfl, hM⟩) | ((first | with_reducible refine at_load ?_ | ((with_reducible refine at_load_g ?_ ?_); (· rfl))); first | refine sll hM ?_ | refine slc hM ?_ | refine slp hM ?_) | ((with_reducible refine at_store ?_); first | (refine slw hM ?_; clear hM; intro wx hM) | (refine sls hM ?_; clear hM; intro wx hM) | (refine slt hM ?_; clear hM; intro wx hM)) | ((with_reducible refine at_alloc ?_); refine slz hM ?_; clear hM; intro gx wx hM) | ((with_reducible refine at_box ?_); refine slb hM ?_; clear hM; intro gx wx hM))
          refine bodyPost_ret (results_tmp3 rfl _ _ _) rfl ?_
          exact ⟨E1, m1, e1, _, by rw [hg.out]; rfl, by rw [hb.out]; exact hM.becomes (List.Mem.head _)⟩
end Go.Proofs.YtdnnjgjaffkdfaaDoor
