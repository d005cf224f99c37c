/- Contract of the reference's Half. Condition: fewer than 2^40 bytes. -/
import Derived.Test.YtcdabngkpocnbaaDoorRefd
import Derived.Test.YtcdabngkpocnbaaDoorNilw
namespace Go.Bul
open Go
theorem quiet_wanted {P : Program} {ops : Array Oper} {C : World → Prop} {o : Oper} {a : Act} {K : Act → Prop} (hg : Region.wanted o (yielded ops a.tmps) = true)
    (h : ∃ v, (∀ w, C w → o.quietAt P a C w v) ∧ K (a.put o.dst v)) : if Region.wanted o (yielded ops a.tmps) then o.quiet P a C K else K (a.put o.dst undef) := by
  rw [if_pos hg]
  exact h
/-- A guarded operation that is wanted, taken as one without a guard. -/
theorem wpList_unguard {P : Program} {ops : Array Oper} {Q : Exit → Act → World → Prop} {a : Act} {w : World} {rest : List Oper} {o : Oper} (hw : Region.wanted o (yielded ops a.tmps) = true)
    (h : wpList P ops Q ({ o with guard := none } :: rest) a w) : wpList P ops Q (o :: rest) a w := by
  unfold wpList at h ⊢
  rw [if_pos hw]
  rw [if_pos (by simp [Region.wanted])] at h
  exact h
end Go.Bul
namespace Go.Proofs.YtcdabngkpocnbaaDoor
open Go Go.RowKit Go.Bul
theorem eq_b32 (l m : List Nat) (hl : l.length = 32) (hm : m.length = 32) (W : World) : (Op.equalIn 10000 24 (.agg (cellsOf .u8 l)) (.agg (cellsOf .u8 m))).run Tryd.prog W = .ok (l == m) W :=
  run_equalIn_nums W 9998 l m Tryd.underlying24 Tryd.underlying5 size_u8 hl hm
theorem self_b32 (l : List Nat) (hl : l.length = 32) (W : World) : (Op.equalIn 10000 24 (.agg (cellsOf .u8 l)) (.agg (cellsOf .u8 l))).run Tryd.prog W = .ok true W := by
  rw [eq_b32 l l hl hl]; simp
theorem self_dig (l : List Nat) (hl : l.length = 32) (W : World) : (Op.equalIn 10000 25 (.agg (cellsOf .u8 l)) (.agg (cellsOf .u8 l))).run Tryd.prog W = .ok true W := by
  rw [eq_dig l l hl hl]; simp
theorem eq_b16 (l m : List Nat) (hl : l.length = 16) (hm : m.length = 16) (W : World) : (Op.equalIn 10000 36 (.agg (cellsOf .u8 l)) (.agg (cellsOf .u8 m))).run Tryd.prog W = .ok (l == m) W :=
  run_equalIn_nums W 9998 l m Tryd.underlying36 Tryd.underlying5 size_u8 hl hm
theorem self_b16 (l : List Nat) (hl : l.length = 16) (W : World) : (Op.equalIn 10000 36 (.agg (cellsOf .u8 l)) (.agg (cellsOf .u8 l))).run Tryd.prog W = .ok true W := by
  rw [eq_b16 l l hl hl]; simp
theorem Rd.of_block_take {w : World} {ok : Nat → Prop} {t : TypeId} {g : Nat} {xs : List Nat} (h : Blk w g t (cellsOf .u8 xs)) (hb : Bytes xs) (ho : ok g) (k : Nat) (hk : k ≤ xs.length) : Rd w ok (some ⟨g, 0, none⟩) k (xs.take k) := by
  have := (Rd.of_block h hb ho).take k
  rwa [show min xs.length k = k by omega] at this
theorem cellsOf_whole (k : IntKind) (xs : List Nat) (n : Nat) (h : xs.length = n) : (cellsOf k xs).extract 0 (0 + n) = cellsOf k xs := by simp [← h]
theorem two_blocks (w : World) (t t' : TypeId) (cs cs' X : Array Value) : Blk (((w.alloc (.cells cs t)).alloc (.cells cs' t')).setRow w.heap.size X) (w.heap.size + 1) t' cs' :=
  (Blk.new' _ _ _ _ (by simp)).rowFar (by omega) _
theorem HashAt.only {w w' : World} {g k : Nat} {l : List Nat} (h : HashAt w k l) (ho : Only g w w') (hne : k ≠ g) : HashAt w' k l := by
  obtain ⟨st, blk, hB, h2⟩ := h.ex
  exact ⟨h.bytes, h.size, st, blk, hB.only ho hne, h2⟩
theorem HashAt.lt {w : World} {g : Nat} {l : List Nat} (h : HashAt w g l) : g < w.heap.size := by
  obtain ⟨_, _, hB, _⟩ := h.ex
  exact hB.lt
theorem Rd.only {w w' : World} {ok : Nat → Prop} {g n : Nat} {A : Option Addr} {bs : List Nat} (h : Rd w ok A n bs) (ho : Only g w w') (hne : ∀ b, ok b → b ≠ g) : Rd w' ok A n bs :=
  h.keep ho.size fun b hb hlt => ho.block b hlt (by rintro ⟨⟩; exact hne _ hb rfl)
theorem OwnB.only {w w' : World} {base g : Nat} {v : Value} {xs : List Nat} (h : OwnB w base v xs) (ho : Only g w w') (hg : g < base) : OwnB w' base v xs :=
  World.ownsRow.kept h ho (.inr (fun he => by have := (h.block_ge he).1; omega))
/-- A Hash is left alone by an append onto a row of the call's own. -/
theorem HashAt.grown {w w' : World} {base g : Nat} {v : Value} {xs l : List Nat} (h : HashAt w g l) (hv : OwnB w base v xs) (hg : w.grownBy w' v.ownBlock) (hlt : g < base) : HashAt w' g l :=
  h.of_block (hg.block g h.lt (fun he => by have := (hv.block_ge he.symm).1; omega))
theorem zero_b16 : (Tryd.prog.info? 36).map (·.zero) = some (some (.agg (cellsOf .u8 (List.replicate 16 0)))) := by kernel_rfl
theorem size_b16 : (Tryd.prog.info? 36).map (·.size) = some 16 := by kernel_rfl
set_option maxHeartbeats 400000 in
theorem ref_half (bs : List Nat) (A : Option Addr) (n c : Nat) (ok : Nat → Prop) (w : World) (hr : Rd w ok A n bs) (hn : n ≤ 1099511627776) :
    Calls Tryd.prog 19 #[.slice A n c] w fun e w' => e = .returned (.agg (cellsOf .u8 (half bs))) ∧ Below w.heap.size w w' := by
  have HR := Lib.hid hr
  clear hr
  have hz := zero_b32
  obtain ⟨z, hzz⟩ : ∃ z, z = List.replicate 32 0 := ⟨_, rfl⟩
  rw [← hzz] at hz
  have hzl : z.length = 32 := by rw [hzz]; simp
  clear hzz
  have hz16 := zero_b16
  obtain ⟨z16, hzz⟩ : ∃ z, z = List.replicate 16 0 := ⟨_, rfl⟩
  rw [← hzz] at hz16
  have hz16l : z16.length = 16 := by rw [hzz]; simp
  clear hzz
  go_enter Tryd.func19, Tryd.ntmps19
  go_wp2_with (with_reducible refine wpList_alloc_zero rfl 36 rfl _ hz16 ?_)
  (with_reducible refine (ref_sum bs A n c ok _ (HR.out.kept ((Below.refl _ _).alloc (Nat.le_refl _) _)) hn).mono ?_)
  rintro e w1 ⟨rfl, hb1⟩
  have hsz1 := hb1.size
  rw [World.size_alloc] at hsz1
  have k1 : Below w.heap.size w w1 := Below.trans ((Below.refl _ _).alloc (Nat.le_refl _) _) (hb1.mono (by simp))
  have r1 : Blk w1 w.heap.size 36 (cellsOf .u8 z16) := (Blk.new w _ _).kept hb1
  clear hb1
  obtain ⟨d, hd⟩ : ∃ d, d = sha bs := ⟨_, rfl⟩
  have hdl : d.length = 32 := by rw [hd, sha_length]
  have hdb : Bytes d := by rw [hd]; exact bytes_sha _
  rw [← hd]
  have HD := Lib.hid (show d.take 16 = half bs by rw [hd]; rfl)
  clear hd
  go_wp2_with (first
    | (with_reducible refine wpList_alloc_zero rfl 24 rfl _ hz ?_)
    | (with_reducible refine wpList_alloc_zero rfl 36 rfl _ hz16 ?_)
    | (refine wpList_store_blk rfl 24 (.tmp 3) (.tmp 6) rfl w1.heap.size rfl (cellsOf .u8 d) rfl 24 (cellsOf .u8 z) 32 (Blk.new w1 _ _) size_b32 (by simp [hdl]) (by simp [hzl]) (vals_one _ _) rfl ?_; intro w2 hw2; have HW2 := Lib.hid hw2; clear hw2))
  refine wp_named (fun w3 hw3 => ?_)
  have d2 : Blk w2 w1.heap.size 24 (cellsOf .u8 d) := by rw [HW2.out]; exact (Blk.new w1 _ _).row _
  have r2 : Blk w2 w.heap.size 36 (cellsOf .u8 z16) := by rw [HW2.out]; exact (r1.alloc _).rowFar (by omega) _
  have k2 : Below w.heap.size w w2 := by rw [HW2.out]; exact below_setRow (k1.alloc (by omega) _) (by omega) _
  have o3 : Blk w3 w2.heap.size 36 (cellsOf .u8 z16) := by rw [hw3]; exact Blk.new w2 _ _
  have d3 : Blk w3 w1.heap.size 24 (cellsOf .u8 d) := by rw [hw3]; exact d2.alloc _
  have r3 : Blk w3 w.heap.size 36 (cellsOf .u8 z16) := by rw [hw3]; exact r2.alloc _
  have k3 : Below w.heap.size w w3 := by rw [hw3]; exact k2.alloc k2.size _
  have hlt2 := d2.lt
  clear hw3
  refine Go.Bul.wp_region_class_tail (fun w' => w' = Go.World.drew _) 2 (by kernel_rfl) (by kernel_rfl) rfl ?_
  simp only [List.take_succ_cons, List.take_zero, List.drop_succ_cons, List.drop_zero]
  repeat (quiet_step (fail))
  refine wpQuiet_nil ?_
  rintro w' rfl
  refine wpList_copy_named rfl (.tmp 7) (.tmp 8) 22 22 rfl 5 Tryd.underlying22 size_u8 w2.heap.size 0 16 16 ⟨w1.heap.size, 0, none⟩ 16 32 rfl rfl _ _ o3.drew (vals .u8 (d.take 16)) 16 (by simp [hdl]) (by decide) ((Rd.of_block (ok := fun _ => True) d3.drew hdb trivial).cells 16 rfl) (by simp [hz16l]) (vals_one _ _) ?_
  intro w4 hw4
  have o4 : Blk w4 w2.heap.size 36 (cellsOf .u8 (d.take 16)) := by
    rw [hw4]
    have := o3.drew.row (cellsOf .u8 (d.take 16))
    have e : (vals .u8 z16).drop 16 = [] := List.drop_of_length_le (by simp [hz16l])
    simpa [cellsOf, hdl, hz16l, e] using this
  have r4 : Blk w4 w.heap.size 36 (cellsOf .u8 z16) := by rw [hw4]; exact r3.drew.rowFar (by omega) _
  have k4 : Below w.heap.size w w4 := by rw [hw4]; exact below_setRow k3.drew (by omega) _
  clear hw4
  obtain ⟨h, hh⟩ : ∃ h, h = d.take 16 := ⟨_, rfl⟩
  have hhl : h.length = 16 := by rw [hh]; simp [hdl]
  rw [← hh] at o4 HD
  clear hh
  go_wp2_with (first
    | (refine wpList_load_blk rfl 36 (.tmp 4) rfl w2.heap.size rfl 36 (cellsOf .u8 h) 16 _ o4 Tryd.underlying36 rfl size_b16 (by simp [hhl]) ?_)
    | (refine wpList_store_blk rfl 36 (.tmp 2) (.tmp 10) rfl w.heap.size rfl (cellsOf .u8 h) rfl 36 (cellsOf .u8 z16) 16 r4 size_b16 (by simp [hhl]) (by simp [hz16l]) (vals_one _ _) rfl ?_; intro w5 hw5; have HW5 := Lib.hid hw5; clear hw5))
  exact bodyPost_ret (results_cell_row rfl _ _ w.heap.size _ _ _ _ rfl (by rw [HW5.out]; exact r4.row _) Tryd.underlying36 rfl (by rw [size_b16]; simp [hhl])) rfl ⟨by rw [HD.out], by rw [HW5.out]; exact below_setRow k4 (Nat.le_refl _) _⟩
end Go.Proofs.YtcdabngkpocnbaaDoor
