/- Seat c: Itoa (the library's, by the shelf), Digits, print. -/
import Derived.Test.YtlidpdjainmaiaaGreatDoorGr
import Derived.Shelf.Strconv.Itoa3
namespace Go.Proofs
open Go.Shelf
def Tryz.laysItoa_ren : Go.Shelf.Ren := ⟨fun | 171 => 42 | 243 => 67 | 246 => 83 | 283 => 97 | 284 => 98 | 285 => 99 | 286 => 100 | 129 => 110 | 317 => 109 | 318 => 111 | 319 => 112 | 320 => 113 | 337 => 115 | 338 => 116 | n => n, fun | 3 => 3 | 9 => 9 | 2 => 2 | 4 => 4 | 171 => 124 | 0 => 0 | 53 => 125 | 37 => 61 | 5 => 5 | 173 => 128 | 212 => 140 | 51 => 130 | 20 => 20 | 213 => 141 | 46 => 117 | 232 => 44 | 233 => 148 | n => n, fun | 17 => 2 | 18 => 5 | 19 => 6 | n => n⟩
theorem Tryz.laysItoa : Go.Proofs.LaysM.n171 Tryz.prog Tryz.laysItoa_ren where
  mixed := by kernel_rfl
  f129 := Tryz.func110.trans (congrArg some (by kernel_rfl))
  f171 := Tryz.func42.trans (congrArg some (by kernel_rfl))
  f243 := Tryz.func67.trans (congrArg some (by kernel_rfl))
  f246 := Tryz.func83.trans (congrArg some (by kernel_rfl))
  f283 := Tryz.func97.trans (congrArg some (by kernel_rfl))
  f284 := Tryz.func98.trans (congrArg some (by kernel_rfl))
  f285 := Tryz.func99.trans (congrArg some (by kernel_rfl))
  f286 := Tryz.func100.trans (congrArg some (by kernel_rfl))
  f317 := Tryz.func109.trans (congrArg some (by kernel_rfl))
  f318 := Tryz.func111.trans (congrArg some (by kernel_rfl))
  f319 := Tryz.func112.trans (congrArg some (by kernel_rfl))
  f320 := Tryz.func113.trans (congrArg some (by kernel_rfl))
  f337 := Tryz.func115.trans (congrArg some (by kernel_rfl))
  f338 := Tryz.func116.trans (congrArg some (by kernel_rfl))
  t0 := Tryz.underlying0
  a0 := Tryz.isAgg0
  z0 := Tryz.sizeOf0
  v0 := Tryz.zeroValue0
  t2 := Tryz.underlying2
  a2 := Tryz.isAgg2
  z2 := Tryz.sizeOf2
  v2 := Tryz.zeroValue2
  t3 := Tryz.underlying3
  a3 := Tryz.isAgg3
  z3 := Tryz.sizeOf3
  v3 := Tryz.zeroValue3
  t4 := Tryz.underlying4
  a4 := Tryz.isAgg4
  z4 := Tryz.sizeOf4
  v4 := Tryz.zeroValue4
  t5 := Tryz.underlying5
  a5 := Tryz.isAgg5
  z5 := Tryz.sizeOf5
  v5 := Tryz.zeroValue5
  t9 := Tryz.underlying9
  a9 := Tryz.isAgg9
  z9 := Tryz.sizeOf9
  v9 := Tryz.zeroValue9
  t20 := Tryz.underlying20
  a20 := Tryz.isAgg20
  z20 := Tryz.sizeOf20
  v20 := Tryz.zeroValue20
  t37 := Tryz.underlying61
  a37 := Tryz.isAgg61
  z37 := Tryz.sizeOf61
  v37 := Tryz.zeroValue61
  t46 := Tryz.underlying117
  a46 := Tryz.isAgg117
  z46 := Tryz.sizeOf117
  v46 := Tryz.zeroValue117
  t51 := Tryz.underlying130
  a51 := Tryz.isAgg130
  z51 := Tryz.sizeOf130
  v51 := Tryz.zeroValue130
  t53 := Tryz.underlying125
  a53 := Tryz.isAgg125
  z53 := Tryz.sizeOf125
  v53 := Tryz.zeroValue125
  t171 := Tryz.underlying124
  a171 := Tryz.isAgg124
  z171 := Tryz.sizeOf124
  v171 := Tryz.zeroValue124
  t173 := Tryz.underlying128
  a173 := Tryz.isAgg128
  z173 := Tryz.sizeOf128
  v173 := Tryz.zeroValue128
  t212 := Tryz.underlying140
  a212 := Tryz.isAgg140
  z212 := Tryz.sizeOf140
  v212 := Tryz.zeroValue140
  t213 := Tryz.underlying141
  a213 := Tryz.isAgg141
  z213 := Tryz.sizeOf141
  t232 := Tryz.underlying44
  a232 := Tryz.isAgg44
  z232 := Tryz.sizeOf44
  v232 := Tryz.zeroValue44
  t233 := Tryz.underlying148
  a233 := Tryz.isAgg148
  z233 := Tryz.sizeOf148
  v233 := Tryz.zeroValue148
  g17 := by kernel_rfl
  g18 := by kernel_rfl
  g19 := by kernel_rfl
  i0 := by kernel_rfl
  i2 := by kernel_rfl
  i3 := by kernel_rfl
  i4 := by kernel_rfl
  i5 := by kernel_rfl
  i9 := by kernel_rfl
  i20 := by kernel_rfl
  i37 := by kernel_rfl
  i46 := by kernel_rfl
  i51 := by kernel_rfl
  i53 := by kernel_rfl
  i171 := by kernel_rfl
  i173 := by kernel_rfl
  i212 := by kernel_rfl
  i232 := by kernel_rfl
  i233 := by kernel_rfl
  m17 := by kernel_rfl
  m18 := by kernel_rfl
  m19 := by kernel_rfl
end Go.Proofs
namespace Go.Proofs.YtlidpdjainmaiaaGreatDoor
open Go Go.RowKit Go.Bul Go.Thg Go.Lin Go.Cht
/-- The table of powers of ten. -/
def Pow (w : World) : Prop := Lib.TabIs Tryz.prog w "internal/strconv.uint64pow10" .u64 Lib.pow10Tab
theorem Pow.keep {w w' : World} (h : Pow w) (hb : Below w.heap.size w w') : Pow w' := by
  unfold Pow Lib.TabIs World.var? at h ⊢
  cases hg : Tryz.prog.globalNamed "internal/strconv.uint64pow10" with
  | none => simp [hg] at h
  | some g =>
    simp only [hg, Option.bind_some] at h ⊢
    have hlt : g < w.heap.size := by
      rcases Nat.lt_or_ge g w.heap.size with h' | h'
      · exact h'
      · simp [Array.getElem?_eq_none h'] at h
    rw [hb.block g hlt]
    exact h
theorem below_grow (w : World) (k : Nat) (os : Array Obj) : Below w.heap.size w (Sort.grow (w.drewN k) os) := by
  refine ⟨rfl, rfl, rfl, ?_, fun j hj => ?_⟩
  · show w.heap.size ≤ (w.heap ++ os).size
    rw [Array.size_append]
    exact Nat.le_add_right _ _
  · show (w.heap ++ os)[j]? = w.heap[j]?
    rw [Array.getElem?_append_left hj]
theorem digits_any (n : Nat) (hn : n ≤ 1000000000) (w : World) (hT : Pow w) : Calls Tryz.prog 23 #[.int .i64 (n : Nat)] w fun e w' => e = .returned (.string (bstr (digN n))) ∧ Below w.heap.size w w' := by
  have hM := Mem.start [] w
  have HI := Lib.hid (show Calls Tryz.prog 42 #[.int .i64 (n : Nat)] w fun e w' => e = .returned (.string ⟨(Lib.itoa (n : Nat)).toArray⟩) ∧ ∃ k os, w' = Sort.grow (w.drewN k) os from Any.strconv_Itoa Tryz.laysItoa (n : Int) (by omega) (by omega) w hT)
  rw [Lib.itoa_nonneg] at HI
  have HB := Lib.hid (fun k os => below_grow w k os)
  have HS := Lib.hid (show (⟨(Lib.decDigits n).toArray⟩ : ByteArray) = bstr (digN n) by
    rw [← bstr_of_nums ⟨(Lib.decDigits n).toArray⟩, nums_mk]
    rfl)
  clear hT hn
  go_enter Tryz.func23, Tryz.ntmps23
  go_wp2_with ((with_reducible refine HI.out.mono ?_); rintro e w1 ⟨rfl, k, os, rfl⟩)
  go_ret
  exact ⟨by rw [← HS.out]; rfl, HB.out k os⟩
section
variable {w : World} {o : Oper} {a : Act} {x y : Operand} {s u : ByteArray}
/-- Two texts, one behind the other. -/
theorem ycat (ho : o.op = .binOp .add 9 x y 9 := by rfl) (hx : a.eval x = .string s := by rfl) (hy : a.eval y = .string u := by rfl) (hsz : s.size + u.size ≤ 1000000000 := by ((try simp only [ByteArray.size_append', ByteArray.size_mk', List.size_toArray, List.length_cons, List.length_nil]); omega)) : (execOp a.eval o).run Tryz.prog w = .ok (.value (.string (s ++ u))) w := by
  unfold execOp
  simp only [ho, hx, hy, Sem.run_bind]
  have h := run_string_add_sum (P := Tryz.prog) w s u (by omega)
  have hq : (eqGuard .add 9 x y (.string s) (.string u)).run Tryz.prog w = .ok () w := rfl
  simp only [hq, Result.andThen_ok]
  show ((binOp .add 9 (.string s) (.string u)).run Tryz.prog w).andThen _ = _
  have hb : (binOp .add 9 (.string s) (.string u)).run Tryz.prog w = .ok (.string (s ++ u)) w := h
  rw [hb]
  rfl
end
set_option maxRecDepth 20000 in
set_option maxHeartbeats 2000000 in
theorem print_any (l : Ln) (hn : l.m ≤ 1000000000) (h1 : l.nick.size ≤ 1000) (h2 : l.text.size ≤ 1000) (w : World) (hT : Pow w) : Calls Tryz.prog 21 #[.agg (lnA l)] w fun e w' => e = .returned (.string (bstr (prL l))) ∧ Below w.heap.size w w' := by
  have hM := Mem.start [] w
  have HD := Lib.hid (fun w hT => digits_any l.m hn w hT)
  have hl := digN_len l.m 10 (by decide) (by omega)
  have hdb : nums (bstr (digN l.m)) = digN l.m := nums_bstr (fun b hb => by have := digN_digits _ b hb; omega)
  have hp : prL l = 91 :: (digN l.m ++ (93 :: 32 :: 60 :: (nums l.nick ++ (62 :: 32 :: nums l.text)))) := rfl
  obtain ⟨ds, hds⟩ : ∃ ds, bstr (digN l.m) = ds := ⟨_, rfl⟩
  have h3 : ds.size ≤ 10 := by rw [← hds, bstr_size]; exact hl
  rw [hds] at HD hdb
  rw [← hdb] at hp
  have HT := Lib.hid hT
  have HP := Lib.hid (show bstr (prL l) = ((((⟨#[91]⟩ ++ ds) ++ ⟨#[93, 32, 60]⟩) ++ l.nick) ++ ⟨#[62, 32]⟩) ++ l.text from by
    rw [hp]
    refine nums_inj ?_
    rw [nums_bstr (fun b hb => ?_)]
    · simp only [nums_append, nums_mk]
      simp
    · simp only [List.mem_cons, List.mem_append] at hb
      rcases hb with rfl | hb | rfl | rfl | rfl | hb | rfl | rfl | hb
      · omega
      · exact bytes_of_nums _ b hb
      · omega
      · omega
      · omega
      · exact bytes_of_nums _ b hb
      · omega
      · omega
      · exact bytes_of_nums _ b hb)
  clear hn hT hl hdb hp hds
  go_enter Tryz.func21, Tryz.ntmps21
  go_wp2_with ((with_reducible refine at_box ?_); refine nlb hM ?_ (n := 3) (hn := rfl); clear hM; intro gb wb hM)
  refine wp_region_allHB hM (by kernel_rfl) ?_
  clear hM
  intro wd hM
  have HM0 := Lib.hid hM
  have hS := Below.refl wd.heap.size wd
  refine wpAllH_takes [0, 1, 5, 6, 9, 10] (by kernel_rfl) (fun _ _ _ _ _ h => h) hS (by kernel_rfl) ?_
  simp only [pickOps, List.filterMap_cons, List.filterMap_nil, List.getElem?_cons_zero, List.getElem?_cons_succ]
  repeat ((with_reducible apply wpHeld_step); (· rfl); (· (intro wq hSw; first | (go_simp; rfl) | (have hM' := HM0.out.step hSw; first | exact yields_load (C := fun _ => True) (nqc hM') rfl | exact yields_load (C := fun _ => True) (nql hM') rfl | exact yields_load (C := fun _ => True) (nqp hM') rfl | fail))); intro K hK; go_simp; (with_reducible refine hK _ ?_); clear hK K)
  refine wpHeld_nil ?_
  refine wpAllH_one 2 rfl (by kernel_rfl) ?_
  go_wp2_with fail
  refine (HD.out _ (HT.out.keep hM.below)).mono ?_
  rintro e w1 ⟨rfl, hb⟩
  go_wp2_with fail
  replace hM := hM.step hb
  replace hS := Below.step hS hb
  clear hb
  refine then_normal ⟨hS, ?_⟩
  refine wpAllH_takes [3, 4, 7, 8, 11, 12] (by kernel_rfl) (fun _ _ _ _ _ h => h) hS (by kernel_rfl) ?_
  simp only [pickOps, List.filterMap_cons, List.filterMap_nil, List.getElem?_cons_zero, List.getElem?_cons_succ]
  repeat ((with_reducible apply wpHeld_step); (· rfl); (· (intro wq hSw; first | (go_simp; rfl) | (have hM' := HM0.out.step hSw; first | exact yields_load (C := fun _ => True) (nqc hM') rfl | exact yields_load (C := fun _ => True) (nql hM') rfl | exact yields_load (C := fun _ => True) (nqp hM') rfl | exact ycat))); intro K hK; go_simp; (with_reducible refine hK _ ?_); clear hK K)
  refine wpHeld_nil ?_
  clear hS HM0
  refine wpAllH_done (by kernel_rfl) ?_
  go_wp2_with fail
  go_ret
  exact ⟨by rw [HP.out]; rfl, hM.below⟩
end Go.Proofs.YtlidpdjainmaiaaGreatDoor
