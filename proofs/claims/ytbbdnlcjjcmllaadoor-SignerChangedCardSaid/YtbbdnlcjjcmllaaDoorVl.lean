/- Contracts of merkle's check, grow, Root. Contract of merkle.Root. Contracts of merkle.climb, of what it returns. -/
import Derived.Test.YtbbdnlcjjcmllaaDoorVk
namespace Go.Thg
open Go Go.RowKit Go.Bul
theorem Mem.toFront {G : List Nat} {w0 w : World} {L : List Ent} (l1 : List Thing) {a : Thing} {l2 : List Thing} (h : Mem G w0 L (l1 ++ a :: l2) w) : Mem G w0 L (a :: (l1 ++ l2)) w := h.perm List.perm_middle.symm
theorem wp_region_allTM {P : Go.Program} {w w0 : Go.World} {G : List Nat} {L : List Ent} {R : List Thing} {Q : Go.Exit → Go.Act → Go.World → Prop} (hM : Mem G w0 L R w) {id : Nat} {a : Go.Act} {l : List Go.Oper} (k : Nat) (S : Go.World → Prop) (hm : P.follows .mixedOrders = true)
    (h : ∀ wd, Mem G w0 L R wd → Go.Bul.wpAllT P l.toArray Q S k (Array.replicate l.toArray.size false) a wd) : (Go.Code.region id l.toArray true).wp P Q a w :=
  Go.Bul.wp_region_allT S k hm (h _ hM.drew)
end Go.Thg
namespace Go.Lin
open Go
def pow2 (n : Nat) : Bool := (List.range 11).any fun k => 2 ^ k == n
def chkE (n : Nat) : Int := if n = 0 then 1 else if 1024 < n then 9 else if pow2 n then 0 else 2
theorem bits_pow2 : ∀ n : Fin 1025, 0 < n.val → (bits BinOp.and IntKind.i64 (n.val : Int) ((n.val : Int) - 1) != 0) = !pow2 n.val := by decide +kernel
theorem pow2_height {n : Nat} (h : pow2 n = true) : ∃ k, k ≤ 10 ∧ n = 2 ^ k := by
  unfold pow2 at h
  obtain ⟨k, hk, he⟩ := List.any_eq_true.1 h
  exact ⟨k, by have := List.mem_range.1 hk; omega, (by simpa using he : 2 ^ k = n).symm⟩
end Go.Lin
namespace Go.Proofs.YtbbdnlcjjcmllaaDoor
open Go Go.RowKit Go.Bul Go.Thg Go.Lin
set_option maxRecDepth 20000 in
theorem check_any (A : Option Addr) (n c : Nat) (w : World) (hn : n ≤ 1000000) :
    Calls Tryd.prog 64 #[.slice A n c] w fun e w' => e = .returned (.int .i64 (chkE n)) ∧ w = w' := by
  unfold chkE
  by_cases h1 : n = 0
  · subst h1
    rw [if_pos rfl]
    go_enter Tryd.func64, Tryd.ntmps64
    go_wp2_with fail
    go_ret
    exact ⟨rfl, rfl⟩
  · rw [if_neg h1]
    have q1 : ((n : Int) == 0) = false := by simp; omega
    by_cases h2 : 1024 < n
    · rw [if_pos h2]
      have q2 : decide ((1024 : Int) < (n : Int)) = true := decide_eq_true (by omega)
      have q3 : decide (1024 < n) = true := decide_eq_true h2
      clear h2 hn
      go_enter Tryd.func64, Tryd.ntmps64
      go_wp2_with fail
      go_ret
      exact ⟨rfl, rfl⟩
    · rw [if_neg h2]
      have q2 : decide ((1024 : Int) < (n : Int)) = false := decide_eq_false (by omega)
      have q3 : decide (1024 < n) = false := decide_eq_false h2
      have w1 : IntKind.i64.wrap ((n : Int) - 1) = (n : Int) - 1 := IntWalk.i64_in _ ⟨by omega, by omega⟩
      have hb := bits_pow2 ⟨n, by omega⟩ (by show 0 < n; omega)
      simp only at hb
      clear h2 hn h1
      cases hp : pow2 n with
      | true =>
        rw [hp] at hb
        simp only [Bool.not_true] at hb
        rw [if_pos rfl]
        clear hp
        go_enter Tryd.func64, Tryd.ntmps64
        go_wp2_with fail
        go_ret
        exact ⟨rfl, rfl⟩
      | false =>
        rw [hp] at hb
        simp only [Bool.not_false] at hb
        rw [if_neg (by decide)]
        clear hp
        go_enter Tryd.func64, Tryd.ntmps64
        go_wp2_with fail
        go_ret
        exact ⟨rfl, rfl⟩
theorem NIn.cell {w : World} {g off n : Nat} {l : List Nd} (h : NIn w (some ⟨g, off, none⟩) n l) (i : Nat) (hi : i < l.length) : ∀ j u, (ndC l[i])[j]? = some u → w.cell? ⟨g, off + i * 16 + j, none⟩ = some u := by
  obtain ⟨g', off', he, _, hc⟩ := h.row i hi
  injection he with he
  injection he with e1 e2
  subst e1 e2
  exact hc
theorem held_row {w : World} {o : Oper} {a : Act} {ty : TypeId} {x : Operand} {g i m : Nat} {X : Array Value} (hX : ∀ j u, X[j]? = some u → w.cell? ⟨g, i + j, none⟩ = some u) (ho : o.op = .load ty x := by rfl) (hx : a.eval x = .pointer (some ⟨g, i, none⟩) := by rfl) (hty : RowTy Tryd.prog ty m := by first | exact row_nd | exact row_n | exact row_half | exact row_a32 | exact row_nd2 | exact row_n2 | exact row_two | exact row_claim | exact row_bld | exact row_bnds) (hm : X.size = m := by first | with_reducible exact ndC_size _ | with_reducible exact ndC2_size _ _ | exact ndC_size _ | rfl | (simp; done)) : (execOp a.eval o).run Tryd.prog w = .ok (.value (.agg X)) w := by
  obtain ⟨d, hu, hd, hi⟩ := hty.ex
  have hl : (loadCells ⟨g, i, none⟩ X.toList.length).run Tryd.prog w = .ok X.toList.toArray w :=
    run_loadCells_list (P := Tryd.prog) w ⟨g, i, none⟩ X.toList (fun j u hu => by rw [addr_at]; exact hX j u (by simpa using hu))
  rw [Array.length_toList, hm] at hl
  simp only [Array.toArray_toList] at hl
  have hrun : (loadVar ty ⟨g, i, none⟩).run Tryd.prog w = .ok (.agg X) w := by simp [loadVar, Sem.run_bind, run_isAgg hu hd, Go.Bul.run_sizeOf hi, hl]
  unfold execOp
  simp only [ho, hx, Instr.loadAt, Instr.sureAddr, Sem.run_bind, Sem.run_pure, Result.andThen_ok, hrun]
theorem slT_cell {w : World} {B : Option Addr} {n d : Nat} {vs : List Value} (h : (slT (.slice B n d) vs).P w) (i : Nat) (hi : i < vs.length) : ∃ g off, B = some ⟨g, off, none⟩ ∧ w.cell? ⟨g, off + i, none⟩ = some vs[i] := by
  have h' : OffRow w 69 1 (.slice B n d) vs.length vs := h
  obtain ⟨A', c', he, _⟩ := OffRow.form h'
  have e1 : n = vs.length := by injection he
  subst e1
  obtain ⟨g, off, rfl, _, hc, _⟩ := OffRow.cells h' (by omega)
  exact ⟨g, off, rfl, hc i _ (List.getElem?_eq_getElem hi)⟩
theorem slT_at {w : World} {g off n d : Nat} {vs : List Value} (h : (slT (.slice (some ⟨g, off, none⟩) n d) vs).P w) (i : Nat) (hi : i < vs.length) : w.cell? ⟨g, off + i, none⟩ = some vs[i] := by
  obtain ⟨g', off', he, hc⟩ := slT_cell h i hi
  injection he with he
  injection he with e1 e2
  subst e1 e2
  exact hc
theorem run_sl1 (A : Option Addr) (n c : Nat) (w : World) : (Instr.buildSlice 124 1 #[(0, .slice A n c)]).run Tryd.prog w = .ok (.slice (some ⟨w.heap.size, 0, none⟩) 1 1) (w.alloc (.cells #[.slice A n c] 69)) := by
  have h := info_sl
  cases hq : Tryd.prog.info? 69 with
  | none => rw [hq] at h; simp at h
  | some i =>
    rw [hq] at h
    simp only [Option.map_some, Option.some.injEq, Prod.mk.injEq] at h
    refine run_buildSlice w _ _ 1 _ _ i _ Tryd.underlying124 hq h.1 (by rw [h.2.1]; decide) (by rw [h.2.1]; decide) ?_
    rw [h.2.1]
    have hz : Array.map (fun x => (Value.slice none 0 0).cells[x % (Value.slice none 0 0).cells.size]!) (Array.range (1 * 1)) = #[Value.slice none 0 0] := by kernel_rfl
    rw [hz]
    simp [Instr.fill, Value.cells]
section
variable {w w0 : World} {G : List Nat} {L : List Ent} {R : List Thing} {ops : Array Oper} {rest : List Oper} {o : Oper} {a : Act} {Q : Exit → Act → World → Prop} {x : Operand} {A : Option Addr} {n c : Nat}
theorem lbsl (hM : Mem G w0 L R w) (h : ∀ g w', Mem G w0 (⟨g, 69, 1, #[.slice A n c]⟩ :: L) R w' → wpList Tryd.prog ops Q rest (a.put o.dst (.slice (some ⟨g, 0, none⟩) 1 1)) w')
    (hgd : o.guard = none := by rfl) (ho : o.op = .buildSlice 124 1 #[(0, x)] := by rfl) (hx : a.eval x = .slice A n c := by rfl) : wpList Tryd.prog ops Q (o :: rest) a w := by
  refine wpList_plain hgd fun K hK => ?_
  unfold Oper.wp execOp
  simp only [ho, List.map_toArray, List.map_cons, List.map_nil, hx, Sem.run_bind, run_sl1, Result.andThen_ok]
  exact hK _ _ (h _ _ (hM.alloc _ _ rfl))
end
def lenV : Value → Nat
  | .slice _ n _ => n
  | _ => 0
theorem src_nd1 {w w0 : World} {G : List Nat} {L : List Ent} {R : List Thing} {g : Nat} {x : Nd} (hM : Mem G w0 L R w) (hL : ⟨g, 41, 16, ndC x⟩ ∈ L) : Src Tryd.prog 16 69 (.slice (some ⟨g, 0, none⟩) 1 1) 1 (ndCells [x]) w := by
  have hB := hM.blk hL
  refine Src.ofSlice w Tryd.underlying69 _ 1 1 _ (by rw [ndCells_length]; rfl) (fun j u hu => ?_) (ndCells_one _)
  rw [addr_at]
  refine (hB.cell _).trans ?_
  rw [Nat.zero_add]
  have e : ndCells [x] = vals .u8 x.val := by simp [ndCells]
  rw [e] at hu
  simpa [ndC, cellsOf] using hu
set_option maxRecDepth 20000 in
set_option maxHeartbeats 8000000 in
theorem grow_any (A : Option Addr) (n c h : Nat) (leaves : List Nd) (w : World) (hr : NIn w A n leaves) (hn : leaves.length = 2 ^ h) (hh : h ≤ 10) (hT : Tab w) :
    Calls Tryd.prog 65 #[.slice A n c] w fun e w' => ∃ B d vs C e', e = .returned (.slice B (h + 1) d) ∧ vs.length = h ∧ Mem [] w [] (slT (.slice B (h + 1) d) (vs ++ [.slice C 1 e']) :: ndT (.slice C 1 e') (lvl leaves h) :: ndRows vs (lvls leaves h)) w' := by
  have hM := Mem.start [] w
  have HT := Lib.hid hT
  have hnl := hr.len
  have hpw : 2 ^ h ≤ 1024 := by
    have : 2 ^ h ≤ 2 ^ 10 := Nat.pow_le_pow_right (by decide) hh
    omega
  have HCL := Lib.hid (fun w' (hb : Below w.heap.size w w') => nclone_any A n c leaves w' (hr.keep hb) (by omega))
  have HLEN : Hid (∀ k, k ≤ h → (lvl leaves k).length = 2 ^ (h - k) ∧ (lvl leaves k).length ≤ 1024) := Lib.hid fun k hk => by
    have e : (lvl leaves k).length = 2 ^ (h - k) := by
      rw [lvl_length, hn]
      exact Nat.pow_div hk (by decide)
    have : 2 ^ (h - k) ≤ 2 ^ h := Nat.pow_le_pow_right (by decide) (by omega)
    exact ⟨e, by omega⟩
  have HNL := Lib.hid hnl
  clear hr hT hpw hnl
  go_enter Tryd.func65, Tryd.ntmps65
  go_wp2_with (first | ((with_reducible refine (HCL.out _ hM.below).mono ?_); rintro e w1 ⟨C, e0, rfl, hb⟩; replace hM := hM.newThing hb; clear hb) | (refine lbsl hM ?_; clear hM; intro g1 w2 hM; have hM2 : Mem [] w [] (slT (.slice (some ⟨g1, 0, none⟩) 1 1) [Value.slice C n e0] :: _) w2 := ent_row (k := 1) (size := 1) hM (by decide) (by decide) rfl; clear hM; have hM := hM2; clear hM2) | ((with_reducible refine at_load ?_); refine lo (slT_at (hM.thing _ (List.Mem.head _)) 0 (by simp)) ?_) | ((first | with_reducible refine at_load ?_ | ((with_reducible refine at_load_g ?_ ?_); (· rfl))); first | refine lc hM ?_ | refine ll hM ?_ | refine lp hM ?_) | ((with_reducible refine at_store ?_); first | (refine ls hM ?_; clear hM; intro wx hM) | (refine lw hM ?_; clear hM; intro wx hM) | (refine lt hM ?_; clear hM; intro wx hM)) | ((with_reducible refine at_alloc ?_); refine lz hM ?_; clear hM; intro gx wx hM) | ((with_reducible refine at_box ?_); refine lb hM ?_; clear hM; intro gx wx hM))
  have M0 := Lib.hid hM
  clear hM HCL
  go_loopw [3, 4] (fun tr la wr => ∃ (k : Nat) (B : Option Addr) (d : Nat) (vs : List Value) (C : Option Addr) (e' : Nat), k ≤ h ∧ tr = .slice B (k + 1) d ∧ la = .slice C (lvl leaves k).length e' ∧ vs.length = k ∧ Mem [] w [] (slT (.slice B (k + 1) d) (vs ++ [Value.slice C (lvl leaves k).length e']) :: ndT (.slice C (lvl leaves k).length e') (lvl leaves k) :: ndRows vs (lvls leaves k)) wr) (fun tr _ _ => h + 1 - lenV tr)
  case atStart =>
    have e : (lvl leaves 0).length = n := HNL.out.symm
    refine ⟨0, _, 1, [], C, e0, by omega, rfl, by rw [e], rfl, ?_⟩
    rw [e]
    exact M0.out
  case round =>
    clear M0
    obtain ⟨k, B, d, vs, C', e', hk, rfl, rfl, hvl, hM⟩ := hrel
    obtain ⟨hle, hle2⟩ := HLEN.out k hk
    by_cases hlt : k < h
    · obtain ⟨last, hlast⟩ : ∃ l, lvl leaves k = l := ⟨_, rfl⟩
      have hnext : lvl leaves (k + 1) = up (k + 1) last := by rw [lvl, hlast]
      rw [hlast] at hle hle2 hM ⊢
      obtain ⟨m, hm⟩ : ∃ m, last.length = m := ⟨_, rfl⟩
      have heven : m = 2 * (m / 2) ∧ 1 < m := by
        rw [← hm, hle, show h - k = (h - k - 1) + 1 by omega, Nat.pow_succ]
        have : 0 < 2 ^ (h - k - 1) := Nat.pow_pos (by decide)
        omega
      rw [hm] at hM ⊢
      have t1 : decide ((1 : Int) < (m : Int)) = true := decide_eq_true (by omega)
      have t2 : decide (1 < m) = true := decide_eq_true heven.2
      have HNX := Lib.hid hnext
      have HLS := Lib.hid hlast
      have HM := Lib.hid hm
      have HEV := Lib.hid heven
      have HVL := Lib.hid hvl
      clear hnext hlast hle hle2 hm heven hvl
      obtain ⟨gl, ol, rfl, _⟩ := (ndT_in (hM.thing (ndT (.slice C' m e') last) (List.Mem.tail _ (List.Mem.head _)))).row 0 (by have := HM.out; have := HEV.out; omega)
      go_wp2_with fail
      have M1 := Lib.hid (hM.newThing (nbecomes_zero none (KeptBut.refl _ _)))
      clear hM
      go_loopw [6, 5] (fun i lv wr => ∃ (j : Nat) (E : Option Addr) (e2 : Nat), 2 * j ≤ m ∧ i = .int .i64 ((2 * j : Nat) : Int) ∧ lv = .slice E (up (k + 1) (last.take (2 * j))).length e2 ∧ Mem [] w [] (ndT (.slice E (up (k + 1) (last.take (2 * j))).length e2) (up (k + 1) (last.take (2 * j))) :: slT (.slice B (k + 1) d) (vs ++ [Value.slice (some ⟨gl, ol, none⟩) m e']) :: ndT (.slice (some ⟨gl, ol, none⟩) m e') last :: ndRows vs (lvls leaves k)) wr) (fun i _ _ => m - (intOf i).toNat)
      case atStart => exact ⟨0, none, 0, by omega, rfl, rfl, M1.out⟩
      case round =>
        clear M1
        obtain ⟨j, E, e2, hj, rfl, rfl, hM⟩ := hrel
        obtain ⟨p, hp⟩ : ∃ p, 2 * j = p := ⟨_, rfl⟩
        by_cases h2 : p < m
        · have hp1 : p + 1 < m := by have := HEV.out; omega
          have hl2 : 2 * j + 1 < last.length := by have := HM.out; omega
          have htk := up_take (k + 1) last j hl2
          obtain ⟨x, hx⟩ : ∃ x, last[2 * j] = x := ⟨_, rfl⟩
          obtain ⟨y, hy⟩ : ∃ y, last[2 * j + 1] = y := ⟨_, rfl⟩
          rw [hx, hy] at htk
          have HX := Lib.hid (fun w' (h : NIn w' (some ⟨gl, ol, none⟩) m last) => NIn.cell h (2 * j) (by omega))
          have HY := Lib.hid (fun w' (h : NIn w' (some ⟨gl, ol, none⟩) m last) => NIn.cell h (2 * j + 1) hl2)
          rw [hx] at HX
          rw [hy] at HY
          obtain ⟨cur, hcur⟩ : ∃ c, up (k + 1) (last.take (2 * j)) = c := ⟨_, rfl⟩
          have hcl : cur.length ≤ 1000 := by rw [← hcur, up_length, List.length_take]; have h5 := (HLEN.out k hk).2; rw [HLS.out] at h5; omega
          rw [hcur] at htk hM ⊢
          rw [hp] at HX HY ⊢
          have HTK := Lib.hid htk
          have HP := Lib.hid hp
          have h63 : cur.length + [joinN ((k + 1 : Nat) : Int) x y].length ≤ 1000000000 := by simp; omega
          have q0 : (0 : Int) ≤ (p : Int) := Int.natCast_nonneg _
          have q1 : (p : Int) < (m : Int) := by omega
          have q2 : (p : Int) + 1 < (m : Int) := by omega
          have q3 : (m : Int) ≤ 1024 := by have := HLEN.out k hk; have h4 := HM.out; have h5 := HLS.out; rw [h5, h4] at this; omega
          have q4 : IntKind.i64.wrap ((p : Int) + 1) = (p : Int) + 1 := IntWalk.i64_in _ ⟨by omega, by omega⟩
          have q5 : (0 : Int) ≤ (p : Int) + 1 := by omega
          clear htk hx hy hcur hcl hp hl2 hp1 h2 hj
          go_upto_region 9 with fail
          refine wp_region_allTM hM 14 (fun w' => ∃ L' R', Mem [] w L' (ndT (.slice (some ⟨gl, ol, none⟩) m e') last :: R') w') (by kernel_rfl) ?_
          clear hM
          intro wd hM
          have hS : ∃ L' R', Mem [] w L' (ndT (.slice (some ⟨gl, ol, none⟩) m e') last :: R') wd := ⟨_, _, Mem.toFront [_, _] hM⟩
          refine wpAllT_takes [0, 1, 2, 3, 4, 5, 6, 7, 8, 9, 10, 11] (by kernel_rfl) (fun _ _ _ _ _ h => h) hS (by kernel_rfl) ?_
          simp only [pickOps, List.filterMap_cons, List.filterMap_nil, List.getElem?_cons_zero, List.getElem?_cons_succ]
          repeat ((with_reducible apply wpHeld_step); (· rfl); (· (intro wq hSw; first | (go_simp; rfl) | ((obtain ⟨_, _, hM'⟩ := hSw; first | exact held_row (HX.out _ (ndT_in (hM'.thing _ (List.Mem.head _)))) | exact held_row (HY.out _ (ndT_in (hM'.thing _ (List.Mem.head _)))))))); intro K hK; go_simp; (with_reducible refine hK _ ?_); clear hK K)
          refine wpHeld_nil ?_
          refine wpAllT_one 12 rfl (by kernel_rfl) ?_
          go_wp2_with fail
          refine (join_any _ x y _ (HT.out.keep hM.below)).mono ?_
          rintro e w1 ⟨rfl, hb⟩
          replace hM := hM.step hb
          clear hb hS
          go_wp2_with fail
          have hS : ∃ L' R', Mem [] w L' (ndT (.slice (some ⟨gl, ol, none⟩) m e') last :: R') w1 := ⟨_, _, Mem.toFront [_, _] hM⟩
          refine then_normal ⟨.inr hS, ?_⟩
          refine wpAllT_one 13 rfl (by kernel_rfl) ?_
          refine lbn1 hM ?_
          clear hM hS
          intro g1 wz hM
          have hS : ∃ L' R', Mem [] w L' (ndT (.slice (some ⟨gl, ol, none⟩) m e') last :: R') wz := ⟨_, _, Mem.toFront [_, _] hM⟩
          refine wpList_then ⟨.inr hS, ?_⟩
          go_simp
          refine wpAllT_one 14 rfl (by kernel_rfl) ?_
          refine lan (src_nd1 hM (List.Mem.head _)) hM h63 ?_
          clear hM hS
          intro A2 N2 c2 wy hN hM
          refine wpList_then ⟨.inl (by kernel_rfl), wpAllT_drop (by kernel_rfl) ?_⟩
          go_simp
          refine wpAll_takes [15] (by kernel_rfl) (fun _ _ _ _ _ h => h) (by kernel_rfl) ?_
          simp only [pickOps, List.filterMap_cons, List.filterMap_nil, List.getElem?_cons_zero, List.getElem?_cons_succ]
          repeat ((with_reducible apply wpPure_step); (· rfl); (· (intro w; go_simp; rfl)); intro K hK; go_simp; (with_reducible refine hK _ ?_); clear hK K)
          refine wpPure_nil ?_
          refine wpAll_done (by kernel_rfl) ?_
          go_wp2_with fail
          obtain rfl : N2 = (cur ++ [joinN ((k + 1 : Nat) : Int) x y]).length := hN.out
          exact ⟨⟨j + 1, A2, c2, by have := HP.out; have := HEV.out; omega, by have := HP.out; rw [show ((2 * (j + 1) : Nat) : Int) = (p : Int) + 2 by omega], by rw [HTK.out], by rw [HTK.out]; exact hM.subL (List.sublist_cons_self _ _)⟩, by have := HP.out; simp [intOf]; omega⟩
        · obtain rfl : p = m := by omega
          have htl : last.take (2 * j) = last := List.take_of_length_le (by have := HM.out; omega)
          obtain ⟨nx, hnx⟩ : ∃ l, lvl leaves (k + 1) = l := ⟨_, rfl⟩
          have hup : up (k + 1) (last.take (2 * j)) = nx := by rw [htl, ← HNX.out, hnx]
          rw [hup] at hM ⊢
          rw [hp]
          obtain ⟨q, hq⟩ : ∃ q, k + 1 = q := ⟨_, rfl⟩
          rw [hq] at hM
          have hvl := HVL.out
          have h63 : (vs ++ [Value.slice (some ⟨gl, ol, none⟩) p e']).length ≤ 1000000 := by simp; omega
          have hvq : (vs ++ [Value.slice (some ⟨gl, ol, none⟩) p e']).length = q := by simp; omega
          obtain ⟨us, hus⟩ : ∃ us, vs ++ [Value.slice (some ⟨gl, ol, none⟩) p e'] = us := ⟨_, rfl⟩
          rw [hus] at hM h63 hvq
          have HUS := Lib.hid hus
          have HNX2 := Lib.hid hnx
          have HQ := Lib.hid hq
          have HVQ := Lib.hid hvq
          have HP := Lib.hid hp
          replace hM := Mem.toFront [_] hM
          have hk10 : q ≤ 11 := by omega
          have hk1 : k + 1 ≤ h := by omega
          rw [hq]
          clear htl hup hvl hus hvq hnx hq hp h2 hj hlt
          go_upto_region 4 with (first | (refine lbsl hM ?_; clear hM; intro g2 w3 hM) | ((with_reducible refine at_append ?_); refine lasl hM h63 ?_; clear hM; intro B2 N2 d2 w4 hN hM))
          obtain rfl : N2 = q + 1 := by have h1 := hN.out; have h2 := HVQ.out; simp at h1; omega
          obtain ⟨gt, ot, rfl, hc⟩ := slT_cell (hM.thing (slT (.slice B2 (q + 1) d2) (us ++ [Value.slice E nx.length e2])) (List.Mem.head _)) q (by have := HVQ.out; simp; omega)
          have hce : (us ++ [Value.slice E nx.length e2])[q]'(by have := HVQ.out; simp; omega) = Value.slice E nx.length e2 := by
            rw [List.getElem_append_right (by have := HVQ.out; omega)]
            simp
          rw [hce] at hc
          have HCC := Lib.hid hc
          have q0 : (0 : Int) ≤ (q : Int) := Int.natCast_nonneg _
          have w5 : IntKind.i64.wrap ((q : Int) + 1 - 1) = (q : Int) := by rw [show (q : Int) + 1 - 1 = (q : Int) by omega]; exact IntWalk.i64_in (q : Int) ⟨by omega, by omega⟩
          have w6 : IntKind.i64.wrap (q : Int) = (q : Int) := IntWalk.i64_in (q : Int) ⟨by omega, by omega⟩
          clear hc hce h63
          go_wp2_with (first | ((with_reducible refine at_load ?_); refine lo HCC.out ?_))
          refine ⟨⟨k + 1, some ⟨gt, ot, none⟩, d2, us, E, e2, by omega, by rw [HQ.out], by rw [HNX2.out], by have := HVQ.out; have := HQ.out; omega, ?_⟩, by have := HQ.out; simp [lenV]; omega⟩
          rw [HNX2.out, lvls_succ, HLS.out, ← HUS.out, ndRows_snoc (by rw [lvls_length]; exact HVL.out), HQ.out]
          rw [← HUS.out] at hM
          exact (hM.subL (List.nil_sublist _)).perm (List.Perm.cons _ (List.Perm.cons _ (List.perm_append_singleton _ _)))
    · obtain rfl : k = h := by omega
      have h1 : (lvl leaves k).length = 1 := by rw [hle, Nat.sub_self]
      rw [h1] at hM ⊢
      clear hlt hk hle hle2 h1 HLEN
      have HVL := Lib.hid hvl
      clear hvl
      go_wp2_with fail
      go_ret
      exact ⟨B, d, vs, C', e', rfl, HVL.out, hM⟩
end Go.Proofs.YtbbdnlcjjcmllaaDoor
namespace Go.Lin
open Go
/-- The root of 2^h leaves; the root of any leaves. -/
def rootH (leaves : List Nd) (h : Nat) : Nd := (lvl leaves h).headD nd0
def rootN (leaves : List Nd) : Nd := if chkE leaves.length = 0 then rootH leaves (Nat.log2 leaves.length) else nd0
end Go.Lin
namespace Go.Proofs.YtbbdnlcjjcmllaaDoor
open Go Go.RowKit Go.Bul Go.Thg Go.Lin
set_option maxRecDepth 20000 in
set_option maxHeartbeats 4000000 in
theorem root_yes (A : Option Addr) (n c h : Nat) (leaves : List Nd) (w : World) (hr : NIn w A n leaves) (hn : leaves.length = 2 ^ h) (hh : h ≤ 10) (hT : Tab w) :
    Calls Tryd.prog 44 #[.slice A n c] w fun e w' => e = .returned (.tuple #[.agg (ndC (rootH leaves h)), .int .i64 0]) ∧ Below w.heap.size w w' := by
  obtain ⟨Z, hZ⟩ : ∃ Z, rootH leaves h = Z := ⟨_, rfl⟩
  rw [hZ]
  have HZ := Lib.hid hZ
  clear hZ
  have hM := Mem.start [] w
  have hnl := hr.len
  have hpw : 2 ^ h ≤ 1024 := by
    have : 2 ^ h ≤ 2 ^ 10 := Nat.pow_le_pow_right (by decide) hh
    omega
  have hp2 : pow2 n = true := by
    unfold pow2
    refine List.any_eq_true.2 ⟨h, List.mem_range.2 (by omega), ?_⟩
    rw [hnl, hn]
    simp
  have hp0 : 0 < 2 ^ h := Nat.pow_pos (by decide)
  have hce : chkE n = 0 := by unfold chkE; rw [if_neg (by omega), if_neg (by omega), if_pos hp2]
  have HC := Lib.hid (fun w => check_any A n c w (by omega))
  rw [hce] at HC
  have HG := Lib.hid (fun w' (hb : Below w.heap.size w w') (hT : Tab w') => grow_any A n c h leaves w' (hr.keep hb) hn hh hT)
  have HT := Lib.hid hT
  have hl1 : (lvl leaves h).length = 1 := by rw [lvl_length, hn]; exact Nat.div_self hp0
  have HL1 := Lib.hid hl1
  clear hr hT hnl hpw hp2 hp0 hce hn hl1
  go_enter Tryd.func44, Tryd.ntmps44
  go_upto_region 5 with (first | ((with_reducible refine (HC.out _).mono ?_); rintro e w1 ⟨rfl, rfl⟩) | ((with_reducible refine (HG.out _ hM.below (HT.out.keep hM.below)).mono ?_); rintro e w1 ⟨B, d, vs, C, e', rfl, hvl, hG⟩; replace hM := hM.frame hG; clear hG) | ((first | with_reducible refine at_load ?_ | ((with_reducible refine at_load_g ?_ ?_); (· rfl))); first | refine lc hM ?_ | refine ll hM ?_ | refine lp hM ?_) | ((with_reducible refine at_store ?_); first | (refine ls hM ?_; clear hM; intro wx hM) | (refine lw hM ?_; clear hM; intro wx hM) | (refine lt hM ?_; clear hM; intro wx hM)) | ((with_reducible refine at_alloc ?_); refine lz hM ?_; clear hM; intro gx wx hM) | ((with_reducible refine at_box ?_); refine lb hM ?_; clear hM; intro gx wx hM))
  obtain ⟨gt, ot, rfl, hc⟩ := slT_cell (hM.thing (slT (.slice B (h + 1) d) (vs ++ [Value.slice C 1 e'])) (List.Mem.head _)) h (by simp; omega)
  have hce : (vs ++ [Value.slice C 1 e'])[h]'(by simp; omega) = Value.slice C 1 e' := by
    rw [List.getElem_append_right (by omega)]
    simp
  rw [hce] at hc
  have HCC := Lib.hid hc
  have hni := ndT_in (hM.thing (ndT (.slice C 1 e') (lvl leaves h)) (List.Mem.tail _ (List.Mem.head _)))
  obtain ⟨gl, ol, rfl, _⟩ := hni.row 0 (by have := HL1.out; omega)
  have hcell := NIn.cell hni 0 (by have := HL1.out; omega)
  have hroot : rootH leaves h = (lvl leaves h)[0]'(by have := HL1.out; omega) := by
    unfold rootH
    obtain ⟨x, hx⟩ := List.length_eq_one_iff.1 HL1.out
    simp [hx]
  rw [← hroot, HZ.out] at hcell
  have HN := Lib.hid hcell
  have q0 : (0 : Int) ≤ (h : Int) := Int.natCast_nonneg _
  have w5 : IntKind.i64.wrap ((h : Int) + 1 - 1) = (h : Int) := by rw [show (h : Int) + 1 - 1 = (h : Int) by omega]; exact IntWalk.i64_in (h : Int) ⟨by omega, by omega⟩
  have w6 : IntKind.i64.wrap (h : Int) = (h : Int) := IntWalk.i64_in (h : Int) ⟨by omega, by omega⟩
  clear hc hce hni hcell hroot
  go_wp2_with (first | ((with_reducible refine at_load ?_); first | refine lo HCC.out ?_ | refine lr HN.out ?_) | ((first | with_reducible refine at_load ?_ | ((with_reducible refine at_load_g ?_ ?_); (· rfl))); first | refine lc hM ?_ | refine ll hM ?_ | refine lp hM ?_) | ((with_reducible refine at_store ?_); first | (refine ls hM ?_; clear hM; intro wx hM) | (refine lw hM ?_; clear hM; intro wx hM) | (refine lt hM ?_; clear hM; intro wx hM)) | ((with_reducible refine at_alloc ?_); refine lz hM ?_; clear hM; intro gx wx hM) | ((with_reducible refine at_box ?_); refine lb hM ?_; clear hM; intro gx wx hM))
  exact bodyPost_ret (results_mem_cell_tmp hM rfl (by rfl) (by repeat (first | exact List.Mem.head _ | apply List.Mem.tail)) (by first | exact row_nd | exact row_n | exact row_half | exact row_a32 | exact row_nd2 | exact row_n2 | exact row_two | exact row_claim | exact row_bld | exact row_bnds) (by rfl)) rfl ⟨rfl, hM.below⟩
end Go.Proofs.YtbbdnlcjjcmllaaDoor
namespace Go.Thg
open Go Go.RowKit Go.Bul
theorem wp_region_allHM {P : Program} {w w0 : World} {G : List Nat} {L : List Ent} {R : List Thing} {Q : Exit → Act → World → Prop} (hM : Mem G w0 L R w) {id : Nat} {a : Act} {l : List Oper} (S : World → Prop) (hm : P.follows .mixedOrders = true)
    (h : ∀ wd, Mem G w0 L R wd → wpAllH P l.toArray Q S (Array.replicate l.toArray.size false) a wd) : (Code.region id l.toArray true).wp P Q a w :=
  wp_region_allH S hm (h _ hM.drew)
/-- Some blocks are what they are. -/
def HeldM (L : List Ent) (w : World) : Prop := ∃ G w0 R, Mem G w0 L R w
theorem HeldM.of {w w0 : World} {G : List Nat} {L : List Ent} {R : List Thing} (h : Mem G w0 L R w) : HeldM L w := ⟨_, _, _, h⟩
theorem results_cell2 {fn : Func} {p q : Tmp} {ty ty2 : TypeId} (h : fn.results = #[.cell p ty, .cell q ty2]) (tmps : Array Value) (P : Program) (w : World) :
    (results fn tmps).run P w =
      ((asAddr (tmps.getD p undef)).run P w).andThen fun a w₁ => ((loadVar ty a).run P w₁).andThen fun v w₂ => ((asAddr (tmps.getD q undef)).run P w₂).andThen fun a2 w₃ => ((loadVar ty2 a2).run P w₃).andThen fun v2 w₄ => .ok (.tuple #[v, v2]) w₄ := by
  simp only [results, h]
  simp [Sem.run_bind, Result.andThen]
theorem results_mem_cell2 {P : Program} {w w0 : World} {G : List Nat} {L : List Ent} {R : List Thing} (hM : Mem G w0 L R w) {fn : Func} {p q : Tmp} {ty ty2 : TypeId} (h : fn.results = #[.cell p ty, .cell q ty2]) {tmps : Array Value} {g g2 : Nat} (hp : tmps.getD p undef = .pointer (some ⟨g, 0, none⟩)) (hq : tmps.getD q undef = .pointer (some ⟨g2, 0, none⟩)) {t t2 : TypeId} {n n2 : Nat} {cs cs2 : Array Value}
    (hL : ⟨g, t, n, cs⟩ ∈ L) (hL2 : ⟨g2, t2, n2, cs2⟩ ∈ L) (hty : RowTy P ty n) (hty2 : RowTy P ty2 n2) : (results fn tmps).run P w = .ok (.tuple #[.agg cs, .agg cs2]) w := by
  obtain ⟨d, hu, hd, hi⟩ := hty.ex
  have hl := run_loadVar_row (P := P) w g t ty cs (0, 0) d (hM.blk hL) hu (by cases d <;> simp_all [isRow]) (by rw [hi, hM.size hL])
  obtain ⟨d2, hu2, hd2, hi2⟩ := hty2.ex
  have hl2 := run_loadVar_row (P := P) w g2 t2 ty2 cs2 (0, 0) d2 (hM.blk hL2) hu2 (by cases d2 <;> simp_all [isRow]) (by rw [hi2, hM.size hL2])
  rw [results_cell2 h, hp, hq]
  simp [asAddr, hl, hl2]
end Go.Thg
namespace Go.Lin
open Go
def bitAt (idx lev : Int) : Bool := decide (idx / 2 ^ lev.toNat % 2 = 1)
def pairN (idx lev : Int) (x s : Nd) : Nd × Nd := if bitAt idx lev then (s, x) else (x, s)
def stepN (idx lev : Int) (x s : Nd) : Nd := joinN (lev + 1) (pairN idx lev x s).1 (pairN idx lev x s).2
theorem bits_and1 : ∀ x : Fin 1024, (bits BinOp.and IntKind.i64 (x.val : Int) 1 == 1) = decide ((x.val : Int) % 2 = 1) := by decide +kernel
theorem bits_bit {idx lev : Int} (h0 : 0 ≤ idx) (h1 : idx < 1024) : (bits BinOp.and IntKind.i64 (idx / 2 ^ lev.toNat) 1 == 1) = bitAt idx lev := by
  have hp : (0 : Int) < 2 ^ lev.toNat := Int.pow_pos (by decide)
  have h2 : 0 ≤ idx / 2 ^ lev.toNat := Int.ediv_nonneg h0 (by omega)
  have h3 : idx / 2 ^ lev.toNat ≤ idx := Int.ediv_le_self _ h0
  have h := bits_and1 ⟨(idx / 2 ^ lev.toNat).toNat, by omega⟩
  simp only [Int.toNat_of_nonneg h2] at h
  exact h
end Go.Lin
namespace Go.Proofs.YtbbdnlcjjcmllaaDoor
open Go Go.RowKit Go.Bul Go.Thg Go.Lin
theorem run_build2 (x y : Nd) (w : World) : (Instr.build 42 #[(0, .agg (ndC x)), (1, .agg (ndC y))]).run Tryd.prog w = .ok (.agg (ndC2 x y)) w := by
  obtain ⟨d, hu, hd, hi⟩ := row_nd.ex
  obtain ⟨l0, hl0, _⟩ := x
  obtain ⟨l1, hl1, _⟩ := y
  obtain ⟨p0, p1, p2, p3, p4, p5, p6, p7, p8, p9, p10, p11, p12, p13, p14, p15, rfl⟩ := list16 hl0
  obtain ⟨q0, q1, q2, q3, q4, q5, q6, q7, q8, q9, q10, q11, q12, q13, q14, q15, rfl⟩ := list16 hl1
  have h : (Tryd.prog.info? 42).map (·.zero) = some (some (.agg (ndC2 nd0 nd0))) := by kernel_rfl
  cases hq : Tryd.prog.info? 42 with
  | none => rw [hq] at h; simp at h
  | some i =>
    have hz : i.zero = some (.agg (ndC2 nd0 nd0)) := by simpa [hq] using h
    have hf : ∀ (b0 b1 : Bytes _) , Instr.fill (fun i => some (i * 16, 16)) (Value.agg (ndC2 nd0 nd0)).cells [(0, .agg (ndC ⟨[p0, p1, p2, p3, p4, p5, p6, p7, p8, p9, p10, p11, p12, p13, p14, p15], hl0, b0⟩)), (1, .agg (ndC ⟨[q0, q1, q2, q3, q4, q5, q6, q7, q8, q9, q10, q11, q12, q13, q14, q15], hl1, b1⟩))] = some (ndC2 ⟨[p0, p1, p2, p3, p4, p5, p6, p7, p8, p9, p10, p11, p12, p13, p14, p15], hl0, b0⟩ ⟨[q0, q1, q2, q3, q4, q5, q6, q7, q8, q9, q10, q11, q12, q13, q14, q15], hl1, b1⟩) := by
      intro b0 b1
      kernel_rfl
    have zr : ∀ w, (zeroValue 42).run Tryd.prog w = .ok (.agg (ndC2 nd0 nd0)) w := fun w => by simp [zeroValue, typeInfo, hq, hz]
    unfold Instr.build
    simp only [Sem.run_bind, zr, run_underlying Tryd.underlying42, Result.andThen_ok, Go.Bul.run_sizeOf hi, hf, Sem.run_pure]
section
variable {P : Program} {w : World} {ops : Array Oper} {o : Oper} {rest : List Oper} {a : Act} {Q : Exit → Act → World → Prop} {x0 x1 : Operand} {x y : Nd}
theorem wpList_build_run {P : Program} (hgd : o.guard = none) (ty : TypeId) (ps : Array (Nat × Operand)) (ho : o.op = .build ty ps) (parts : Array (Nat × Value)) (hp : (ps.map fun p => (p.1, a.eval p.2)) = parts) (v : Value)
    (hr : (Instr.build ty parts).run P w = .ok v w) (h : wpList P ops Q rest (a.put o.dst v) w) : wpList P ops Q (o :: rest) a w := by
  refine wpList_plain hgd fun K hK => ?_
  subst hp
  unfold Oper.wp execOp
  simp only [ho]
  have hr' : (Instr.build ty (ps.map fun (x : Nat × Operand) => match x with | (i, x) => (i, a.eval x))).run P w = .ok v w := hr
  simp only [Sem.run_bind, hr', Result.andThen_ok, Sem.run_pure]
  exact hK _ _ h
theorem ext_nd0 (x y : Nd) : (ndC2 x y).extract 0 (0 + 16) = ndC x := by
  obtain ⟨l0, hl0, _⟩ := x
  obtain ⟨l1, hl1, _⟩ := y
  simp [ndC2, ndC, cellsOf, vals, hl0]
theorem ext_nd1 (x y : Nd) : (ndC2 x y).extract 16 (16 + 16) = ndC y := by
  obtain ⟨l0, hl0, _⟩ := x
  obtain ⟨l1, hl1, _⟩ := y
  simp [ndC2, ndC, cellsOf, vals, hl0]
  exact List.take_of_length_le (by simp; omega)
theorem lq0 {w0 : World} {G : List Nat} {L : List Ent} {R : List Thing} {t ty : TypeId} {g : Nat} {xo : Operand} (hM : Mem G w0 L R w) (h : wpList Tryd.prog ops Q rest (a.put o.dst (.agg (ndC x))) w) (hgd : o.guard = none := by rfl) (ho : o.op = .load ty xo := by rfl) (hx : a.eval xo = .pointer (some ⟨g, 0, none⟩) := by rfl) (hL : ⟨g, t, 32, ndC2 x y⟩ ∈ L := by repeat (first | exact List.Mem.head _ | apply List.Mem.tail)) (hty : RowTy Tryd.prog ty 16 := by first | exact row_nd | exact row_n | exact row_half | exact row_a32 | exact row_nd2 | exact row_n2 | exact row_two | exact row_claim | exact row_bld | exact row_bnds) : wpList Tryd.prog ops Q (o :: rest) a w :=
  lp hM h (cs := ndC2 x y) hgd ho hx hL hty (by omega) (ext_nd0 x y)
theorem lq1 {w0 : World} {G : List Nat} {L : List Ent} {R : List Thing} {t ty : TypeId} {g : Nat} {xo : Operand} (hM : Mem G w0 L R w) (h : wpList Tryd.prog ops Q rest (a.put o.dst (.agg (ndC y))) w) (hgd : o.guard = none := by rfl) (ho : o.op = .load ty xo := by rfl) (hx : a.eval xo = .pointer (some ⟨g, 16, none⟩) := by rfl) (hL : ⟨g, t, 32, ndC2 x y⟩ ∈ L := by repeat (first | exact List.Mem.head _ | apply List.Mem.tail)) (hty : RowTy Tryd.prog ty 16 := by first | exact row_nd | exact row_n | exact row_half | exact row_a32 | exact row_nd2 | exact row_n2 | exact row_two | exact row_claim | exact row_bld | exact row_bnds) : wpList Tryd.prog ops Q (o :: rest) a w :=
  lp hM h (cs := ndC2 x y) hgd ho hx hL hty (by omega) (ext_nd1 x y)
theorem lbu2 (h : wpList Tryd.prog ops Q rest (a.put o.dst (.agg (ndC2 x y))) w) (hgd : o.guard = none := by rfl) (ho : o.op = .build 42 #[(0, x0), (1, x1)] := by rfl) (hx : a.eval x0 = .agg (ndC x) := by rfl) (hy : a.eval x1 = .agg (ndC y) := by rfl) : wpList Tryd.prog ops Q (o :: rest) a w :=
  wpList_build_run hgd _ _ ho _ (by simp only [List.map_toArray, List.map_cons, List.map_nil, hx, hy]) _ (run_build2 x y w) h
end
set_option maxRecDepth 20000 in
set_option maxHeartbeats 4000000 in
theorem climb_step {G : List Nat} {w0 w : World} {L : List Ent} {R : List Thing} {g5 g3 g6 : Nat} {x s : Nd} {idx lev : Int} (hM : Mem G w0 (⟨g5, 41, 16, ndC x⟩ :: ⟨g3, 3, 1, #[.int .i64 idx]⟩ :: ⟨g6, 3, 1, #[.int .i64 lev]⟩ :: L) R w) (hT : ∀ L R w', Mem G w0 L R w' → Tab w') (h0 : 0 ≤ idx) (h1 : idx < 1024) (h2 : 0 ≤ lev) (h3 : lev ≤ 10) :
    Calls Tryd.prog 70 #[.agg (ndC s), .pointer (some ⟨g5, 0, none⟩), .pointer (some ⟨g3, 0, none⟩), .pointer (some ⟨g6, 0, none⟩)] w fun e w' => e = .returned (.tuple #[.agg (ndC2 (pairN idx lev x s).1 (pairN idx lev x s).2), .agg (ndC (stepN idx lev x s))]) ∧ Mem G w0 (⟨g5, 41, 16, ndC (stepN idx lev x s)⟩ :: ⟨g3, 3, 1, #[.int .i64 idx]⟩ :: ⟨g6, 3, 1, #[.int .i64 (lev + 1)]⟩ :: L) R w' := by
  have HT := Lib.hid hT
  have hb := bits_bit (lev := lev) h0 h1
  have w1 : IntKind.i64.wrap (lev + 1) = lev + 1 := IntWalk.i64_in _ ⟨by omega, by omega⟩
  clear hT
  unfold stepN pairN
  cases hbit : bitAt idx lev with
  | true =>
    rw [hbit] at hb
    simp only [if_true]
    obtain ⟨Z, hZ⟩ : ∃ Z, joinN (lev + 1) s x = Z := ⟨_, rfl⟩
    obtain ⟨PP, hP⟩ : ∃ P, P = s := ⟨_, rfl⟩
    obtain ⟨QQ, hQ⟩ : ∃ P, P = x := ⟨_, rfl⟩
    rw [hZ]
    have HJ := Lib.hid (fun w' (h : Tab w') => join_any (lev + 1) s x w' h)
    rw [hZ] at HJ
    subst hP hQ
    clear hbit h0 h1 hZ
    go_enter Tryd.func70, Tryd.ntmps70
    go_upto_region 6 with (first | ((with_reducible refine at_load ?_); refine ll hM ?_; go_simp; (with_reducible refine at_build ?_); refine lbu2 ?_; go_simp) | ((with_reducible refine at_load ?_); first | refine ll hM ?_ | refine lc hM ?_ | refine lq0 hM ?_ | refine lq1 hM ?_) | ((with_reducible refine at_store ?_); refine ls hM ?_ (v := .int .i64 (lev + 1)); clear hM; intro wx hM) | ((with_reducible refine (HJ.out _ (HT.out _ _ _ hM)).mono ?_); rintro e w1 ⟨rfl, hb⟩; replace hM := hM.step hb; clear hb) | ((first | with_reducible refine at_load ?_ | ((with_reducible refine at_load_g ?_ ?_); (· rfl))); first | refine ll hM ?_ | refine lc hM ?_ | refine lp hM ?_) | ((with_reducible refine at_store ?_); first | (refine lw hM ?_; clear hM; intro wx hM) | (refine ls hM ?_; clear hM; intro wx hM) | (refine lt hM ?_; clear hM; intro wx hM)) | ((with_reducible refine at_alloc ?_); refine lz hM ?_; clear hM; intro gx wx hM) | ((with_reducible refine at_box ?_); refine lb hM ?_; clear hM; intro gx wx hM))
    obtain ⟨gp, hgp⟩ := hM.name1
    subst hgp
    refine wp_region_allHM hM (HeldM [⟨gp, 42, 32, ndC2 PP QQ⟩, ⟨g5, 41, 16, ndC Z⟩]) (by kernel_rfl) ?_
    clear hM
    intro wd hM
    have hS := HeldM.of (hM.subL (List.Sublist.cons_cons _ (List.Sublist.cons _ (List.Sublist.cons _ (List.Sublist.cons _ (List.Sublist.cons_cons _ (List.nil_sublist _)))))))
    refine wpAllH_takes [0, 1] (by kernel_rfl) (fun _ _ _ _ _ h => h) hS (by kernel_rfl) ?_
    simp only [pickOps, List.filterMap_cons, List.filterMap_nil, List.getElem?_cons_zero, List.getElem?_cons_succ]
    repeat ((with_reducible apply wpHeld_step); (· rfl); (· (intro w hSw; first | (go_simp; rfl) | ((obtain ⟨_, _, _, hM'⟩ := hSw; exact yields_load (C := fun _ => True) (ql hM') rfl)))); intro K hK; go_simp; (with_reducible refine hK _ ?_); clear hK K)
    refine wpHeld_nil ?_
    refine wpAllH_one 2 rfl (by kernel_rfl) ?_
    refine lw hM ?_
    clear hM hS
    intro wx hM
    have hS := HeldM.of (hM.subL (List.Sublist.cons_cons _ (List.Sublist.cons _ (List.Sublist.cons _ (List.Sublist.cons _ (List.Sublist.cons_cons _ (List.nil_sublist _)))))))
    refine wpList_then ⟨hS, ?_⟩
    refine wpAllH_one 3 rfl (by kernel_rfl) ?_
    refine lw hM ?_
    clear hM hS
    intro wy hM
    have hS := HeldM.of (hM.subL (List.Sublist.cons_cons _ (List.Sublist.cons _ (List.Sublist.cons _ (List.Sublist.cons _ (List.Sublist.cons_cons _ (List.nil_sublist _)))))))
    refine wpList_then ⟨hS, ?_⟩
    refine wpAllH_done (by kernel_rfl) ?_
    go_wp2_with fail
    exact bodyPost_ret (results_mem_cell2 hM rfl (by rfl) (by rfl) (by repeat (first | exact List.Mem.head _ | apply List.Mem.tail)) (by repeat (first | exact List.Mem.head _ | apply List.Mem.tail)) (by first | exact row_nd | exact row_n | exact row_half | exact row_a32 | exact row_nd2 | exact row_n2 | exact row_two | exact row_claim | exact row_bld | exact row_bnds) (by first | exact row_nd | exact row_n | exact row_half | exact row_a32 | exact row_nd2 | exact row_n2 | exact row_two | exact row_claim | exact row_bld | exact row_bnds)) rfl ⟨rfl, hM.subL (List.Sublist.cons _ (List.Sublist.cons _ (List.Sublist.cons _ (List.Sublist.cons _ (List.Sublist.refl _)))))⟩
  | false =>
    rw [hbit] at hb
    simp only [Bool.false_eq_true, if_false]
    obtain ⟨Z, hZ⟩ : ∃ Z, joinN (lev + 1) x s = Z := ⟨_, rfl⟩
    obtain ⟨PP, hP⟩ : ∃ P, P = x := ⟨_, rfl⟩
    obtain ⟨QQ, hQ⟩ : ∃ P, P = s := ⟨_, rfl⟩
    rw [hZ]
    have HJ := Lib.hid (fun w' (h : Tab w') => join_any (lev + 1) x s w' h)
    rw [hZ] at HJ
    subst hP hQ
    clear hbit h0 h1 hZ
    go_enter Tryd.func70, Tryd.ntmps70
    go_upto_region 6 with (first | ((with_reducible refine at_load ?_); refine ll hM ?_; go_simp; (with_reducible refine at_build ?_); refine lbu2 ?_; go_simp) | ((with_reducible refine at_load ?_); first | refine ll hM ?_ | refine lc hM ?_ | refine lq0 hM ?_ | refine lq1 hM ?_) | ((with_reducible refine at_store ?_); refine ls hM ?_ (v := .int .i64 (lev + 1)); clear hM; intro wx hM) | ((with_reducible refine (HJ.out _ (HT.out _ _ _ hM)).mono ?_); rintro e w1 ⟨rfl, hb⟩; replace hM := hM.step hb; clear hb) | ((first | with_reducible refine at_load ?_ | ((with_reducible refine at_load_g ?_ ?_); (· rfl))); first | refine ll hM ?_ | refine lc hM ?_ | refine lp hM ?_) | ((with_reducible refine at_store ?_); first | (refine lw hM ?_; clear hM; intro wx hM) | (refine ls hM ?_; clear hM; intro wx hM) | (refine lt hM ?_; clear hM; intro wx hM)) | ((with_reducible refine at_alloc ?_); refine lz hM ?_; clear hM; intro gx wx hM) | ((with_reducible refine at_box ?_); refine lb hM ?_; clear hM; intro gx wx hM))
    obtain ⟨gp, hgp⟩ := hM.name1
    subst hgp
    refine wp_region_allHM hM (HeldM [⟨gp, 42, 32, ndC2 PP QQ⟩, ⟨g5, 41, 16, ndC Z⟩]) (by kernel_rfl) ?_
    clear hM
    intro wd hM
    have hS := HeldM.of (hM.subL (List.Sublist.cons_cons _ (List.Sublist.cons _ (List.Sublist.cons _ (List.Sublist.cons _ (List.Sublist.cons_cons _ (List.nil_sublist _)))))))
    refine wpAllH_takes [0, 1] (by kernel_rfl) (fun _ _ _ _ _ h => h) hS (by kernel_rfl) ?_
    simp only [pickOps, List.filterMap_cons, List.filterMap_nil, List.getElem?_cons_zero, List.getElem?_cons_succ]
    repeat ((with_reducible apply wpHeld_step); (· rfl); (· (intro w hSw; first | (go_simp; rfl) | ((obtain ⟨_, _, _, hM'⟩ := hSw; exact yields_load (C := fun _ => True) (ql hM') rfl)))); intro K hK; go_simp; (with_reducible refine hK _ ?_); clear hK K)
    refine wpHeld_nil ?_
    refine wpAllH_one 2 rfl (by kernel_rfl) ?_
    refine lw hM ?_
    clear hM hS
    intro wx hM
    have hS := HeldM.of (hM.subL (List.Sublist.cons_cons _ (List.Sublist.cons _ (List.Sublist.cons _ (List.Sublist.cons _ (List.Sublist.cons_cons _ (List.nil_sublist _)))))))
    refine wpList_then ⟨hS, ?_⟩
    refine wpAllH_one 3 rfl (by kernel_rfl) ?_
    refine lw hM ?_
    clear hM hS
    intro wy hM
    have hS := HeldM.of (hM.subL (List.Sublist.cons_cons _ (List.Sublist.cons _ (List.Sublist.cons _ (List.Sublist.cons _ (List.Sublist.cons_cons _ (List.nil_sublist _)))))))
    refine wpList_then ⟨hS, ?_⟩
    refine wpAllH_done (by kernel_rfl) ?_
    go_wp2_with fail
    exact bodyPost_ret (results_mem_cell2 hM rfl (by rfl) (by rfl) (by repeat (first | exact List.Mem.head _ | apply List.Mem.tail)) (by repeat (first | exact List.Mem.head _ | apply List.Mem.tail)) (by first | exact row_nd | exact row_n | exact row_half | exact row_a32 | exact row_nd2 | exact row_n2 | exact row_two | exact row_claim | exact row_bld | exact row_bnds) (by first | exact row_nd | exact row_n | exact row_half | exact row_a32 | exact row_nd2 | exact row_n2 | exact row_two | exact row_claim | exact row_bld | exact row_bnds)) rfl ⟨rfl, hM.subL (List.Sublist.cons _ (List.Sublist.cons _ (List.Sublist.cons _ (List.Sublist.cons _ (List.Sublist.refl _)))))⟩
end Go.Proofs.YtbbdnlcjjcmllaaDoor
