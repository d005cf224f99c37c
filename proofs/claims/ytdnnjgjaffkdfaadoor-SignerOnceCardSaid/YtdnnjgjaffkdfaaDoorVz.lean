/- Types of signers: sizes, zero values; their cells. The laws of the walk for them. Contracts of the checks of signers. Contracts of leaves, publicOf, Public of a secret key. Structures that are built; contracts of leaves, publicOf, Public of a secret key, bytes, Of. -/
import Derived.Test.YtdnnjgjaffkdfaaDoorVp
import Derived.Test.YtdnnjgjaffkdfaaDoorVr
import Derived.Test.YtdnnjgjaffkdfaaDoorVt
namespace Go.Lin
open Go Go.Bul
/-- The 35 values of a one-time signature. -/
structure Ch where
  val : List Nat
  len : val.length = 560
  byt : Bytes val
theorem Ch.ext' {a b : Ch} (h : a.val = b.val) : a = b := by
  obtain ⟨x, _, _⟩ := a
  obtain ⟨y, _, _⟩ := b
  subst h
  rfl
instance : DecidableEq Ch := fun a b => if h : a.val = b.val then .isTrue (Ch.ext' h) else .isFalse fun e => h (by rw [e])
/-- The 32 bytes of a seed. -/
structure Sd where
  val : List Nat
  len : val.length = 32
  byt : Bytes val
abbrev chC (x : Ch) : Array Value := cellsOf .u8 x.val
theorem chC_size (x : Ch) : (chC x).size = 560 := by rw [cellsOf_size, x.len]
def ch0 : Ch := ⟨Go.Thg.zeros 560, List.length_replicate, by intro x hx; have := List.eq_of_mem_replicate hx; omega⟩
def pubC (h : Int) (r : Nd) : Array Value := (.int .i64 h :: vals .u8 r.val).toArray
def secC (s : Sd) (h : Int) : Array Value := (vals .u8 s.val ++ [Value.int .i64 h]).toArray
def sigC (leaf : Int) (ch : Ch) (A : Option Addr) (n c : Nat) : Array Value := (.int .i64 leaf :: (vals .u8 ch.val ++ [.slice A n c])).toArray
theorem nd_len (r : Nd) : (vals .u8 r.val).length = 16 := by rw [vals_length, r.len]
theorem sd_len (r : Sd) : (vals .u8 r.val).length = 32 := by rw [vals_length, r.len]
theorem ch_len (r : Ch) : (vals .u8 r.val).length = 560 := by rw [vals_length, r.len]
theorem pubC_size (h : Int) (r : Nd) : (pubC h r).size = 17 := by simp [pubC, r.len]
theorem secC_size (s : Sd) (h : Int) : (secC s h).size = 33 := by simp [secC, s.len]
theorem sigC_size (leaf : Int) (ch : Ch) (A : Option Addr) (n c : Nat) : (sigC leaf ch A n c).size = 562 := by simp [sigC, ch.len]
theorem pubC_one (h : Int) (r : Nd) : ∀ u ∈ (pubC h r).toList, u.oneCell' = true := by
  intro u hu
  rcases List.mem_cons.1 hu with rfl | hu
  · rfl
  · exact vals_one _ _ u hu
theorem secC_one (s : Sd) (h : Int) : ∀ u ∈ (secC s h).toList, u.oneCell' = true := by
  intro u hu
  rcases List.mem_append.1 hu with hu | hu
  · exact vals_one _ _ u hu
  · obtain rfl := List.mem_singleton.1 hu
    rfl
theorem sigC_one (leaf : Int) (ch : Ch) (A : Option Addr) (n c : Nat) : ∀ u ∈ (sigC leaf ch A n c).toList, u.oneCell' = true := by
  intro u hu
  rcases List.mem_cons.1 hu with rfl | hu
  · rfl
  · rcases List.mem_append.1 hu with hu | hu
    · exact vals_one _ _ u hu
    · obtain rfl := List.mem_singleton.1 hu
      rfl
theorem pubC_0 (h : Int) (r : Nd) : (pubC h r)[0]? = some (.int .i64 h) := rfl
theorem pubC_r (h : Int) (r : Nd) : (pubC h r).extract 1 (1 + 16) = ndC r := by
  have := nd_len r
  apply Array.ext'
  simp only [pubC, List.extract_toArray, ndC, cellsOf, List.extract_eq_take_drop, List.drop_succ_cons, List.drop_zero, Nat.add_sub_cancel_left]
  exact List.take_of_length_le (by omega)
theorem secC_h (s : Sd) (h : Int) : (secC s h)[32]? = some (.int .i64 h) := by
  have := sd_len s
  simp only [secC, List.getElem?_toArray]
  rw [List.getElem?_append_right (by omega), this]
  rfl
theorem secC_s (s : Sd) (h : Int) : (secC s h).extract 0 (0 + 32) = cellsOf .u8 s.val := by
  have := sd_len s
  apply Array.ext'
  simp only [secC, List.extract_toArray, cellsOf, List.extract_eq_take_drop, List.drop_zero, Nat.sub_zero, Nat.zero_add]
  rw [List.take_append_of_le_length (by omega), List.take_of_length_le (by omega)]
theorem sigC_0 (leaf : Int) (ch : Ch) (A : Option Addr) (n c : Nat) : (sigC leaf ch A n c)[0]? = some (.int .i64 leaf) := rfl
theorem sigC_c (leaf : Int) (ch : Ch) (A : Option Addr) (n c : Nat) : (sigC leaf ch A n c).extract 1 (1 + 560) = chC ch := by
  have := ch_len ch
  apply Array.ext'
  simp only [sigC, List.extract_toArray, chC, cellsOf, List.extract_eq_take_drop, List.drop_succ_cons, List.drop_zero, Nat.add_sub_cancel_left]
  rw [List.take_append_of_le_length (by omega), List.take_of_length_le (by omega)]
theorem sigC_p (leaf : Int) (ch : Ch) (A : Option Addr) (n c : Nat) : (sigC leaf ch A n c)[561]? = some (.slice A n c) := by
  have := ch_len ch
  simp only [sigC, List.getElem?_toArray, List.getElem?_cons_succ]
  rw [List.getElem?_append_right (by omega), this]
  rfl
theorem sigC_setp (leaf : Int) (ch : Ch) (A B : Option Addr) (n c m d : Nat) : (sigC leaf ch A n c).setIfInBounds 561 (.slice B m d) = sigC leaf ch B m d := by
  have := ch_len ch
  apply Array.ext'
  simp only [sigC, List.setIfInBounds_toArray, List.set_cons_succ]
  rw [List.set_append_right _ _ (by omega), this]
  rfl
end Go.Lin
namespace Go.Proofs.YtdnnjgjaffkdfaaDoor
open Go Go.RowKit Go.Bul Go.Thg Go.Lin
theorem row_a16 : RowTy Tryd.prog 22 16 := ⟨⟨_, Tryd.underlying22, rfl, by kernel_rfl⟩⟩
theorem row_pub : RowTy Tryd.prog 30 17 := ⟨⟨_, Tryd.underlying30, rfl, by kernel_rfl⟩⟩
theorem row_sec : RowTy Tryd.prog 48 33 := ⟨⟨_, Tryd.underlying48, rfl, by kernel_rfl⟩⟩
theorem row_sgn : RowTy Tryd.prog 31 562 := ⟨⟨_, Tryd.underlying31, rfl, by kernel_rfl⟩⟩
theorem row_rsg : RowTy Tryd.prog 26 562 := ⟨⟨_, Tryd.underlying26, rfl, by kernel_rfl⟩⟩
theorem row_sgr : RowTy Tryd.prog 116 35 := ⟨⟨_, Tryd.underlying116, rfl, by kernel_rfl⟩⟩
theorem row_a560 : RowTy Tryd.prog 23 560 := ⟨⟨_, Tryd.underlying23, rfl, by kernel_rfl⟩⟩
theorem row_osg : RowTy Tryd.prog 128 560 := ⟨⟨_, Tryd.underlying128, rfl, by kernel_rfl⟩⟩
theorem row_aut : RowTy Tryd.prog 50 16 := ⟨⟨_, Tryd.underlying50, rfl, by kernel_rfl⟩⟩
theorem one_s16 : OneTy Tryd.prog 24 := ⟨⟨_, Tryd.underlying24, rfl, by kernel_rfl⟩⟩
theorem one_psg : OneTy Tryd.prog 61 := ⟨⟨_, Tryd.underlying61, rfl, by kernel_rfl⟩⟩
theorem one_str : OneTy Tryd.prog 9 := ⟨⟨_, Tryd.underlying9, rfl, by kernel_rfl⟩⟩
theorem zero_a16 : ZeroTy Tryd.prog 22 16 (ndC nd0) := ⟨⟨.agg _, by kernel_rfl, rfl, by rw [cellsOf_size]; rfl⟩⟩
theorem zero_aut : ZeroTy Tryd.prog 50 16 (ndC nd0) := ⟨⟨.agg _, by kernel_rfl, rfl, by rw [cellsOf_size]; rfl⟩⟩
theorem zero_pub : ZeroTy Tryd.prog 30 17 (pubC 0 nd0) := ⟨⟨.agg _, by kernel_rfl, rfl, pubC_size _ _⟩⟩
set_option maxRecDepth 20000 in
theorem zero_sgn : ZeroTy Tryd.prog 31 562 (sigC 0 ch0 none 0 0) := ⟨⟨.agg _, by kernel_rfl, rfl, sigC_size _ _ _ _ _⟩⟩
set_option maxRecDepth 20000 in
theorem zero_rsg : ZeroTy Tryd.prog 26 562 (sigC 0 ch0 none 0 0) := ⟨⟨.agg _, by kernel_rfl, rfl, sigC_size _ _ _ _ _⟩⟩
set_option maxRecDepth 20000 in
theorem zero_osg : ZeroTy Tryd.prog 128 560 (chC ch0) := ⟨⟨.agg _, by kernel_rfl, rfl, chC_size _⟩⟩
set_option maxRecDepth 20000 in
theorem zero_a560 : ZeroTy Tryd.prog 23 560 (chC ch0) := ⟨⟨.agg _, by kernel_rfl, rfl, chC_size _⟩⟩
section
variable {w w0 : World} {G : List Nat} {L : List Ent} {R : List Thing} {ops : Array Oper} {rest : List Oper} {o : Oper} {a : Act} {Q : Exit → Act → World → Prop} {C : World → Prop} {ty : TypeId} {x y : Operand} {g i m n : Nat} {t : TypeId} {cs vs X : Array Value} {v : Value} {F : Array Value → List Ent}
theorem slc (hM : Mem G w0 L R w) (h : wpList Tryd.prog ops Q rest (a.put o.dst v) w) (hgd : o.guard = none := by rfl) (ho : o.op = .load ty x := by rfl) (hx : a.eval x = .pointer (some ⟨g, i, none⟩) := by rfl) (hL : ⟨g, t, n, cs⟩ ∈ L := by repeat (first | exact List.Mem.head _ | apply List.Mem.tail)) (hty : OneTy Tryd.prog ty := by first | exact one_int | exact one_bool | exact one_u8 | exact one_bytes | exact one_sN | exact one_sRN | exact one_ssN | exact one_errno | exact one_s16 | exact one_psg | exact one_str) (hv : cs[i]? = some v := by rfl) : wpList Tryd.prog ops Q (o :: rest) a w :=
  wpList_mem_cell hM hgd ty x ho g i hx t n cs hL hty v hv h
theorem sll (hM : Mem G w0 L R w) (h : wpList Tryd.prog ops Q rest (a.put o.dst (.agg cs)) w) (hgd : o.guard = none := by rfl) (ho : o.op = .load ty x := by rfl) (hx : a.eval x = .pointer (some ⟨g, 0, none⟩) := by rfl) (hL : ⟨g, t, n, cs⟩ ∈ L := by repeat (first | exact List.Mem.head _ | apply List.Mem.tail)) (hty : RowTy Tryd.prog ty n := by first | exact row_a16 | exact row_nd | exact row_n | exact row_half | exact row_a32 | exact row_pub | exact row_sec | exact row_sgn | exact row_rsg | exact row_sgr | exact row_a560 | exact row_osg | exact row_aut | exact row_rvl) : wpList Tryd.prog ops Q (o :: rest) a w :=
  wpList_mem_load hM hgd ty x ho g hx t n cs hL hty h
theorem slp (hM : Mem G w0 L R w) (h : wpList Tryd.prog ops Q rest (a.put o.dst (.agg X)) w) (hgd : o.guard = none := by rfl) (ho : o.op = .load ty x := by rfl) (hx : a.eval x = .pointer (some ⟨g, i, none⟩) := by rfl) (hL : ⟨g, t, n, cs⟩ ∈ L := by repeat (first | exact List.Mem.head _ | apply List.Mem.tail)) (hty : RowTy Tryd.prog ty m := by first | exact row_a16 | exact row_nd | exact row_n | exact row_half | exact row_a32 | exact row_pub | exact row_sec | exact row_sgn | exact row_rsg | exact row_sgr | exact row_a560 | exact row_osg | exact row_aut | exact row_rvl) (hm : i + m ≤ n := by omega) (hX : cs.extract i (i + m) = X := by rfl) : wpList Tryd.prog ops Q (o :: rest) a w :=
  wpList_mem_part hM hgd ty x ho g i hx t n cs hL m hty hm X hX h
theorem sls (hM : Mem G w0 L R w) (h : ∀ w', Mem G w0 (F X) R w' → wpList Tryd.prog ops Q rest a w') (hgd : o.guard = none := by rfl) (ho : o.op = .store ty x y := by rfl) (hx : a.eval x = .pointer (some ⟨g, i, none⟩) := by rfl) (hy : a.eval y = v := by rfl) (hL : UpdL g t n cs L F := by repeat (first | exact UpdL.head _ _ _ _ _ | apply UpdL.tail)) (hty : OneTy Tryd.prog ty := by first | exact one_int | exact one_bool | exact one_u8 | exact one_bytes | exact one_sN | exact one_sRN | exact one_ssN | exact one_errno | exact one_s16 | exact one_psg | exact one_str) (hi : i < n := by omega) (h1 : v.oneCell' = true := by rfl) (hdst : o.dst = none := by rfl) (hX : cs.setIfInBounds i v = X := by rfl) : wpList Tryd.prog ops Q (o :: rest) a w :=
  wpList_mem_set_to hM hgd ty x y ho g i hx v hy t n cs F hL hty hi h1 hdst X hX h
theorem slw (hM : Mem G w0 L R w) (h : ∀ w', Mem G w0 (F vs) R w' → wpList Tryd.prog ops Q rest a w') (hgd : o.guard = none := by rfl) (ho : o.op = .store ty x y := by rfl) (hx : a.eval x = .pointer (some ⟨g, 0, none⟩) := by rfl) (hy : a.eval y = .agg vs := by rfl) (hL : UpdL g t n cs L F := by repeat (first | exact UpdL.head _ _ _ _ _ | apply UpdL.tail)) (hty : RowTy Tryd.prog ty n := by first | exact row_a16 | exact row_nd | exact row_n | exact row_half | exact row_a32 | exact row_pub | exact row_sec | exact row_sgn | exact row_rsg | exact row_sgr | exact row_a560 | exact row_osg | exact row_aut | exact row_rvl) (hs : vs.size = n := by first | with_reducible exact ndC_size _ | with_reducible exact pubC_size _ _ | with_reducible exact secC_size _ _ | with_reducible exact sigC_size _ _ _ _ _ | with_reducible exact chC_size _ | rfl | (simp; done)) (h1 : ∀ v ∈ vs.toList, v.oneCell' = true := by first | with_reducible exact cellsOf_one _ _ | with_reducible exact pubC_one _ _ | with_reducible exact secC_one _ _ | with_reducible exact sigC_one _ _ _ _ _ | exact vals_one _ _ | (simp [Value.oneCell']; done)) (hdst : o.dst = none := by rfl) : wpList Tryd.prog ops Q (o :: rest) a w :=
  wpList_mem_store hM hgd ty x y ho g hx vs hy t n cs F hL hty hs h1 hdst h
theorem slt (hM : Mem G w0 L R w) (h : ∀ w', Mem G w0 (F X) R w' → wpList Tryd.prog ops Q rest a w') (hgd : o.guard = none := by rfl) (ho : o.op = .store ty x y := by rfl) (hx : a.eval x = .pointer (some ⟨g, i, none⟩) := by rfl) (hy : a.eval y = .agg vs := by rfl) (hL : UpdL g t n cs L F := by repeat (first | exact UpdL.head _ _ _ _ _ | apply UpdL.tail)) (hty : RowTy Tryd.prog ty m := by first | exact row_a16 | exact row_nd | exact row_n | exact row_half | exact row_a32 | exact row_pub | exact row_sec | exact row_sgn | exact row_rsg | exact row_sgr | exact row_a560 | exact row_osg | exact row_aut | exact row_rvl) (hs : vs.size = m := by first | with_reducible exact ndC_size _ | with_reducible exact pubC_size _ _ | with_reducible exact secC_size _ _ | with_reducible exact sigC_size _ _ _ _ _ | with_reducible exact chC_size _ | rfl | (simp; done)) (hm : i + m ≤ n := by omega) (h1 : ∀ v ∈ vs.toList, v.oneCell' = true := by first | with_reducible exact cellsOf_one _ _ | with_reducible exact pubC_one _ _ | with_reducible exact secC_one _ _ | with_reducible exact sigC_one _ _ _ _ _ | exact vals_one _ _ | (simp [Value.oneCell']; done)) (hdst : o.dst = none := by rfl) (hX : (splice cs.toList i vs.toList).toArray = X := by rfl) : wpList Tryd.prog ops Q (o :: rest) a w :=
  wpList_mem_store_part hM hgd ty x y ho g i hx vs hy t n cs F hL m hty hs hm h1 hdst X hX h
theorem slz (hM : Mem G w0 L R w) (h : ∀ g w', Mem G w0 (⟨g, ty, n, cs⟩ :: L) R w' → wpList Tryd.prog ops Q rest (a.put o.dst (.pointer (some ⟨g, 0, none⟩))) w') (hgd : o.guard = none := by rfl) (ho : o.op = .alloc ty := by rfl) (hz : ZeroTy Tryd.prog ty n cs := by first | exact zero_a16 | exact zero_nd | exact zero_n | exact zero_hlf | exact zero_a32 | exact zero_int | exact zero_pub | exact zero_sgn | exact zero_rsg | exact zero_osg | exact zero_aut | exact zero_rvl | exact zero_a560 | exact zero_errno) : wpList Tryd.prog ops Q (o :: rest) a w :=
  wpList_mem_zero hM hgd ty ho n cs hz h
theorem slb (hM : Mem G w0 L R w) (h : ∀ g w', Mem G w0 (⟨g, ty, n, cs⟩ :: L) R w' → wpList Tryd.prog ops Q rest (a.put o.dst (.pointer (some ⟨g, 0, none⟩))) w') (hgd : o.guard = none := by rfl) (ho : o.op = .box ty x := by rfl) (hx : a.eval x = .agg cs := by rfl) (hty : RowTy Tryd.prog ty n := by first | exact row_a16 | exact row_nd | exact row_n | exact row_half | exact row_a32 | exact row_pub | exact row_sec | exact row_sgn | exact row_rsg | exact row_sgr | exact row_a560 | exact row_osg | exact row_aut | exact row_rvl) (hn : cs.size = n := by first | with_reducible exact ndC_size _ | with_reducible exact pubC_size _ _ | with_reducible exact secC_size _ _ | with_reducible exact sigC_size _ _ _ _ _ | with_reducible exact chC_size _ | rfl | (simp; done)) : wpList Tryd.prog ops Q (o :: rest) a w :=
  wpList_mem_box hM hgd ty x ho cs hx n hty hn h
theorem sqc (hM : Mem G w0 L R w) (ho : o.op = .load ty x := by rfl) (hx : a.eval x = .pointer (some ⟨g, i, none⟩) := by rfl) (hL : ⟨g, t, n, cs⟩ ∈ L := by repeat (first | exact List.Mem.head _ | apply List.Mem.tail)) (hty : OneTy Tryd.prog ty := by first | exact one_int | exact one_bool | exact one_u8 | exact one_bytes | exact one_sN | exact one_sRN | exact one_ssN | exact one_errno | exact one_s16 | exact one_psg | exact one_str) (hv : cs[i]? = some v := by rfl) : o.quietAt Tryd.prog a C w v :=
  quietAt_mem_cell hM ty x ho g i hx t n cs hL hty v hv
theorem sql (hM : Mem G w0 L R w) (ho : o.op = .load ty x := by rfl) (hx : a.eval x = .pointer (some ⟨g, 0, none⟩) := by rfl) (hL : ⟨g, t, n, cs⟩ ∈ L := by repeat (first | exact List.Mem.head _ | apply List.Mem.tail)) (hty : RowTy Tryd.prog ty n := by first | exact row_a16 | exact row_nd | exact row_n | exact row_half | exact row_a32 | exact row_pub | exact row_sec | exact row_sgn | exact row_rsg | exact row_sgr | exact row_a560 | exact row_osg | exact row_aut | exact row_rvl) : o.quietAt Tryd.prog a C w (.agg cs) :=
  quietAt_mem_load hM ty x ho g hx t n cs hL hty
theorem sqp (hM : Mem G w0 L R w) (ho : o.op = .load ty x := by rfl) (hx : a.eval x = .pointer (some ⟨g, i, none⟩) := by rfl) (hL : ⟨g, t, n, cs⟩ ∈ L := by repeat (first | exact List.Mem.head _ | apply List.Mem.tail)) (hty : RowTy Tryd.prog ty m := by first | exact row_a16 | exact row_nd | exact row_n | exact row_half | exact row_a32 | exact row_pub | exact row_sec | exact row_sgn | exact row_rsg | exact row_sgr | exact row_a560 | exact row_osg | exact row_aut | exact row_rvl) (hm : i + m ≤ n := by omega) (hX : cs.extract i (i + m) = X := by rfl) : o.quietAt Tryd.prog a C w (.agg X) :=
  quietAt_mem_part hM ty x ho g i hx t n cs hL m hty hm X hX
end
end Go.Proofs.YtdnnjgjaffkdfaaDoor
namespace Go.Lin
open Go
def hE (h : Int) : Int := if 1 ≤ h ∧ h ≤ 8 then 0 else 2
def sgE (leaf : Int) (n : Nat) : Int := if hE (n : Nat) = 0 ∧ 0 ≤ leaf ∧ leaf < 2 ^ n then 0 else 2
theorem hE_nat {n : Nat} (h : hE (n : Nat) = 0) : 1 ≤ n ∧ n ≤ 8 := by
  unfold hE at h
  split at h
  · omega
  · cases h
end Go.Lin
namespace Go.Proofs.YtdnnjgjaffkdfaaDoor
open Go Go.RowKit Go.Bul Go.Thg Go.Lin
set_option maxRecDepth 20000 in
theorem checkH_any (h : Int) (w : World) : Calls Tryd.prog 51 #[.int .i64 h] w fun e w' => e = .returned (.int .i64 (hE h)) ∧ w = w' := by
  unfold hE
  by_cases h1 : 1 ≤ h
  · have c1 : decide (h < 1) = false := decide_eq_false (by omega)
    by_cases h2 : h ≤ 8
    · rw [if_pos ⟨h1, h2⟩]
      have c2 : decide (8 < h) = false := decide_eq_false (by omega)
      clear h1 h2
      go_enter Tryd.func51, Tryd.ntmps51
      go_wp2_with fail
      go_ret
      exact ⟨rfl, rfl⟩
    · rw [if_neg (by omega)]
      have c2 : decide (8 < h) = true := decide_eq_true (by omega)
      clear h1 h2
      go_enter Tryd.func51, Tryd.ntmps51
      go_wp2_with fail
      go_ret
      exact ⟨rfl, rfl⟩
  · rw [if_neg (by omega)]
    have c1 : decide (h < 1) = true := decide_eq_true (by omega)
    clear h1
    go_enter Tryd.func51, Tryd.ntmps51
    go_wp2_with fail
    go_ret
    exact ⟨rfl, rfl⟩
set_option maxRecDepth 20000 in
theorem pcheck_any (h : Int) (r : Nd) (w : World) : Calls Tryd.prog 26 #[.agg (pubC h r)] w fun e w' => e = .returned (.int .i64 (hE h)) ∧ Below w.heap.size w w' := by
  have hM := Mem.start [] w
  have HC := Lib.hid (fun w => checkH_any h w)
  have H0 := Lib.hid (pubC_0 h r)
  have HS := Lib.hid (pubC_size h r)
  generalize pubC h r = X at H0 HS ⊢
  generalize hE h = e1 at HC ⊢
  go_enter Tryd.func26, Tryd.ntmps26
  go_wp2_with (first | ((with_reducible refine (HC.out _).mono ?_); rintro e w1 ⟨rfl, rfl⟩) | ((with_reducible refine at_box ?_); refine slb hM ?_ (hty := row_pub) (hn := HS.out); clear hM; intro g w1 hM) | ((with_reducible refine at_load ?_); refine slc hM ?_ (hv := H0.out)))
  go_ret
  exact ⟨rfl, hM.below⟩
set_option maxRecDepth 20000 in
theorem scheck_any (s : Sd) (h : Int) (w : World) : Calls Tryd.prog 27 #[.agg (secC s h)] w fun e w' => e = .returned (.int .i64 (hE h)) ∧ Below w.heap.size w w' := by
  have hM := Mem.start [] w
  have HC := Lib.hid (fun w => checkH_any h w)
  have H0 := Lib.hid (secC_h s h)
  have HS := Lib.hid (secC_size s h)
  generalize secC s h = X at H0 HS ⊢
  generalize hE h = e1 at HC ⊢
  go_enter Tryd.func27, Tryd.ntmps27
  go_wp2_with (first | ((with_reducible refine (HC.out _).mono ?_); rintro e w1 ⟨rfl, rfl⟩) | ((with_reducible refine at_box ?_); refine slb hM ?_ (hty := row_sec) (hn := HS.out); clear hM; intro g w1 hM) | ((with_reducible refine at_load ?_); refine slc hM ?_ (hv := H0.out)))
  go_ret
  exact ⟨rfl, hM.below⟩
set_option maxRecDepth 20000 in
set_option maxHeartbeats 1000000 in
theorem gcheck_any (leaf : Int) (ch : Ch) (A : Option Addr) (n c : Nat) (w : World) : Calls Tryd.prog 15 #[.agg (sigC leaf ch A n c)] w fun e w' => e = .returned (.int .i64 (sgE leaf n)) ∧ Below w.heap.size w w' := by
  have hM := Mem.start [] w
  have HC := Lib.hid (fun w => checkH_any (n : Nat) w)
  have H0 := Lib.hid (sigC_0 leaf ch A n c)
  have HP := Lib.hid (sigC_p leaf ch A n c)
  have HS := Lib.hid (sigC_size leaf ch A n c)
  generalize sigC leaf ch A n c = X at H0 HP HS ⊢
  unfold sgE
  by_cases hh : hE (n : Nat) = 0
  · obtain ⟨h1, h8⟩ := hE_nat hh
    rw [hh] at HC
    have hp : 2 ^ n ≤ 2 ^ 8 := Nat.pow_le_pow_right (by decide) h8
    have hp2 : (2 : Int) ^ n = ((2 ^ n : Nat) : Int) := by simp
    have hp3 : (0 : Int) ≤ (2 : Int) ^ n := by rw [hp2]; exact Int.natCast_nonneg _
    have hp4 : (2 : Int) ^ n ≤ 256 := by rw [hp2]; omega
    have c4 : wrap64 ((2 : Int) ^ n) = (2 : Int) ^ n := by unfold wrap64; omega
    have c5 : IntKind.i64.wrap ((2 : Int) ^ n) = (2 : Int) ^ n := IntWalk.i64_in _ ⟨by omega, by omega⟩
    have n0 : (0 : Int) ≤ (n : Int) := Int.natCast_nonneg _
    have n1 : (n : Int) ≤ 8 := by omega
    by_cases hl : 0 ≤ leaf
    · have c1 : decide (leaf < 0) = false := decide_eq_false (by omega)
      by_cases hu : leaf < 2 ^ n
      · rw [if_pos ⟨hh, hl, hu⟩]
        have c2 : decide ((2 : Int) ^ n ≤ leaf) = false := decide_eq_false (by omega)
        clear hh h1 h8 hp hp2 hp3 hp4 hl hu
        go_enter Tryd.func15, Tryd.ntmps15
        go_upto_region 1 with (first | ((with_reducible refine at_box ?_); refine slb hM ?_ (hty := row_sgn) (hn := HS.out); clear hM; intro g1 w1 hM))
        obtain ⟨g1, hg1⟩ := hM.name1
        subst hg1
        refine Go.Bul.wp_region_class (Mem _ w _ _) (by kernel_rfl) (by kernel_rfl) hM.drew ?_
        repeat ((with_reducible refine wpQuiet_step (fun K hK => ?_)); (first | ((first | ((with_reducible refine quiet_some ?_ ?_); (· rfl)) | ((with_reducible refine Go.Thg.quiet_wanted ?_ ?_); (· rfl))); apply Exists.intro; refine ⟨fun w' hM' => ?_, ?_⟩; (· first | (go_simp; rfl) | exact sqc hM' (hv := H0.out) | exact sqc hM' (hv := HP.out) | (go_simp; with_reducible refine at_calls ?_; exact quiet_mem_call_same hM' (HC.out _)) | exact qc hM' | exact ql hM' | exact qp hM')) | ((with_reducible refine Go.Thg.quiet_unwanted ?_ ?_); (· rfl))); go_simp; (with_reducible refine hK _ ?_); clear hK K)
        refine wpQuiet_nil ?_
        intro wx hM
        go_wp2_with fail
        go_ret
        exact ⟨rfl, hM.below⟩
      · rw [if_neg (by omega)]
        have c2 : decide ((2 : Int) ^ n ≤ leaf) = true := decide_eq_true (by omega)
        clear hh h1 h8 hp hp2 hp3 hp4 hl hu
        go_enter Tryd.func15, Tryd.ntmps15
        go_upto_region 1 with (first | ((with_reducible refine at_box ?_); refine slb hM ?_ (hty := row_sgn) (hn := HS.out); clear hM; intro g1 w1 hM))
        obtain ⟨g1, hg1⟩ := hM.name1
        subst hg1
        refine Go.Bul.wp_region_class (Mem _ w _ _) (by kernel_rfl) (by kernel_rfl) hM.drew ?_
        repeat ((with_reducible refine wpQuiet_step (fun K hK => ?_)); (first | ((first | ((with_reducible refine quiet_some ?_ ?_); (· rfl)) | ((with_reducible refine Go.Thg.quiet_wanted ?_ ?_); (· rfl))); apply Exists.intro; refine ⟨fun w' hM' => ?_, ?_⟩; (· first | (go_simp; rfl) | exact sqc hM' (hv := H0.out) | exact sqc hM' (hv := HP.out) | (go_simp; with_reducible refine at_calls ?_; exact quiet_mem_call_same hM' (HC.out _)) | exact qc hM' | exact ql hM' | exact qp hM')) | ((with_reducible refine Go.Thg.quiet_unwanted ?_ ?_); (· rfl))); go_simp; (with_reducible refine hK _ ?_); clear hK K)
        refine wpQuiet_nil ?_
        intro wx hM
        go_wp2_with fail
        go_ret
        exact ⟨rfl, hM.below⟩
    · rw [if_neg (by omega)]
      have c1 : decide (leaf < 0) = true := decide_eq_true (by omega)
      clear hh h1 h8 hp hp2 hp3 hp4 hl
      go_enter Tryd.func15, Tryd.ntmps15
      go_upto_region 1 with (first | ((with_reducible refine at_box ?_); refine slb hM ?_ (hty := row_sgn) (hn := HS.out); clear hM; intro g1 w1 hM))
      obtain ⟨g1, hg1⟩ := hM.name1
      subst hg1
      refine Go.Bul.wp_region_class (Mem _ w _ _) (by kernel_rfl) (by kernel_rfl) hM.drew ?_
      repeat ((with_reducible refine wpQuiet_step (fun K hK => ?_)); (first | ((first | ((with_reducible refine quiet_some ?_ ?_); (· rfl)) | ((with_reducible refine Go.Thg.quiet_wanted ?_ ?_); (· rfl))); apply Exists.intro; refine ⟨fun w' hM' => ?_, ?_⟩; (· first | (go_simp; rfl) | exact sqc hM' (hv := H0.out) | exact sqc hM' (hv := HP.out) | (go_simp; with_reducible refine at_calls ?_; exact quiet_mem_call_same hM' (HC.out _)) | exact qc hM' | exact ql hM' | exact qp hM')) | ((with_reducible refine Go.Thg.quiet_unwanted ?_ ?_); (· rfl))); go_simp; (with_reducible refine hK _ ?_); clear hK K)
      refine wpQuiet_nil ?_
      intro wx hM
      go_wp2_with fail
      go_ret
      exact ⟨rfl, hM.below⟩
  · rw [if_neg (by simp [hh])]
    have q1 : (hE (n : Nat) != 0) = true := by simpa using hh
    generalize hE (n : Nat) = e1 at HC q1
    clear hh
    go_enter Tryd.func15, Tryd.ntmps15
    go_upto_region 1 with (first | ((with_reducible refine at_box ?_); refine slb hM ?_ (hty := row_sgn) (hn := HS.out); clear hM; intro g1 w1 hM))
    obtain ⟨g1, hg1⟩ := hM.name1
    subst hg1
    refine Go.Bul.wp_region_class (Mem _ w _ _) (by kernel_rfl) (by kernel_rfl) hM.drew ?_
    repeat ((with_reducible refine wpQuiet_step (fun K hK => ?_)); (first | ((first | ((with_reducible refine quiet_some ?_ ?_); (· rfl)) | ((with_reducible refine Go.Thg.quiet_wanted ?_ ?_); (· rfl))); apply Exists.intro; refine ⟨fun w' hM' => ?_, ?_⟩; (· first | (go_simp; rfl) | exact sqc hM' (hv := H0.out) | exact sqc hM' (hv := HP.out) | (go_simp; with_reducible refine at_calls ?_; exact quiet_mem_call_same hM' (HC.out _)) | exact qc hM' | exact ql hM' | exact qp hM')) | ((with_reducible refine Go.Thg.quiet_unwanted ?_ ?_); (· rfl))); go_simp; (with_reducible refine hK _ ?_); clear hK K)
    refine wpQuiet_nil ?_
    intro wx hM
    go_wp2_with fail
    go_ret
    exact ⟨rfl, hM.below⟩
end Go.Proofs.YtdnnjgjaffkdfaaDoor
namespace Go.Lin
open Go Go.Bul
def compN (leaf : Nat) (E : List Nat) : Nd := ⟨comp leaf E, half_length _, bytes_half _⟩
/-- The public value of a leaf of a key; its node; the nodes of the leaves. -/
def pvN (s : Sd) (k : Nat) : Nd := compN k (valuesV s.val k fun _ => 15)
def lfN (s : Sd) (k : Nat) : Nd := leafN (k : Int) (pvN s k).val
def lvsN (s : Sd) (m : Nat) : List Nd := (List.range m).map (lfN s)
theorem lvsN_succ (s : Sd) (m : Nat) : lvsN s (m + 1) = lvsN s m ++ [lfN s m] := by simp [lvsN, List.range_succ]
theorem lvsN_length (s : Sd) (m : Nat) : (lvsN s m).length = m := by simp [lvsN]
end Go.Lin
namespace Go.Proofs.YtdnnjgjaffkdfaaDoor
open Go Go.RowKit Go.Bul Go.Thg Go.Lin
theorem nd_reads {w w0 : World} {G : List Nat} {L : List Ent} {R : List Thing} {g : Nat} {t : TypeId} {y : Nd} (hM : Mem G w0 L R w) (hL : ⟨g, t, 16, ndC y⟩ ∈ L) : Reads w 1 (some ⟨g, 0, none⟩) 16 (vals .u8 y.val) := by
  have h := reads_ent hM hL
  rw [cells_list] at h
  exact h
/-- A secret key in a block, read only: its seed. -/
theorem seed_cells {w : World} {g : Nat} {t : TypeId} {s : Sd} {h : Int} (hB : Blk w g t (secC s h)) : ∀ j u, (cellsOf .u8 s.val)[j]? = some u → w.cell? ⟨g, 0 + j, none⟩ = some u := by
  intro j u hu
  rw [Nat.zero_add, hB.cell]
  have hj : j < (vals .u8 s.val).length := by simpa [cellsOf] using (Array.getElem?_eq_some_iff.1 hu).1
  simp only [secC, List.getElem?_toArray]
  rw [List.getElem?_append_left hj]
  simpa [cellsOf] using hu
set_option maxRecDepth 20000 in
set_option maxHeartbeats 1000000 in
theorem lfstep_any (w : World) (g1 : Nat) (t1 : TypeId) (s : Sd) (h : Int) (k : Nat) (hB : Blk w g1 t1 (secC s h)) (hk : k ≤ 65535) (hT : Tab w) :
    Calls Tryd.prog 83 #[.int .i64 (k : Nat), .pointer (some ⟨g1, 0, none⟩)] w fun e w' => e = .returned (.agg (ndC (lfN s k))) ∧ Below w.heap.size w w' := by
  have hM := Mem.start [] w
  have HX := Lib.hid (fun w' (hb : Below w.heap.size w w') => seed_cells (hB.kept hb))
  have HP := Lib.hid (fun w' (hb : Below w.heap.size w w') => Once.public_yes s.val k (k : Nat) w' s.len s.byt hk rfl (hT.keep hb))
  have HF := Lib.hid (fun A n c w' (hr : Reads w' 1 A n (vals .u8 (pvN s k).val)) (hn : n ≤ 1000) (hb : Below w.heap.size w w') => leaf_any (k : Nat) A n c (pvN s k).val w' hr (pvN s k).byt hn (hT.keep hb))
  have HSL := Lib.hid s.len
  change Hid (∀ w' (hb : Below w.heap.size w w'), Calls _ _ #[.agg (cellsOf .u8 s.val), .int .i64 (k : Nat)] w' fun e w'' => e = .returned (.tuple #[.agg (ndC (pvN s k)), .int .i64 0]) ∧ _) at HP
  unfold lfN
  generalize leafN (k : Int) (pvN s k).val = Z at HF ⊢
  generalize pvN s k = Y at HP HF
  clear hB hT hk
  go_enter Tryd.func83, Tryd.ntmps83
  go_wp2_with (first | ((with_reducible refine (HP.out _ hM.below).mono ?_); rintro e w1 ⟨rfl, hb⟩; replace hM := hM.step hb; clear hb) | ((with_reducible refine at_load ?_); refine lr (HX.out _ hM.below) ?_ (hty := row_a32) (hs := by rw [cellsOf_size, HSL.out])) | ((first | with_reducible refine at_load ?_ | ((with_reducible refine at_load_g ?_ ?_); (· rfl))); first | refine sll hM ?_ | refine slc hM ?_ | refine slp hM ?_) | ((with_reducible refine at_store ?_); first | (refine slw hM ?_; clear hM; intro wx hM) | (refine sls hM ?_; clear hM; intro wx hM) | (refine slt hM ?_; clear hM; intro wx hM)) | ((with_reducible refine at_alloc ?_); refine slz hM ?_; clear hM; intro gx wx hM) | ((with_reducible refine at_box ?_); refine slb hM ?_; clear hM; intro gx wx hM))
  refine (HF.out _ _ _ _ (nd_reads hM (List.Mem.head _)) (by decide) hM.below).mono ?_
  rintro e w1 ⟨rfl, hb⟩
  replace hM := hM.step hb
  clear hb
  go_wp2_with (first | ((first | with_reducible refine at_load ?_ | ((with_reducible refine at_load_g ?_ ?_); (· rfl))); first | refine sll hM ?_ | refine slc hM ?_ | refine slp hM ?_) | ((with_reducible refine at_store ?_); first | (refine slw hM ?_; clear hM; intro wx hM) | (refine sls hM ?_; clear hM; intro wx hM) | (refine slt hM ?_; clear hM; intro wx hM)) | ((with_reducible refine at_alloc ?_); refine slz hM ?_; clear hM; intro gx wx hM) | ((with_reducible refine at_box ?_); refine slb hM ?_; clear hM; intro gx wx hM))
  exact bodyPost_ret (results_mem_cell hM rfl (by rfl) (by repeat (first | exact List.Mem.head _ | apply List.Mem.tail)) row_nd) rfl ⟨rfl, hM.below⟩
set_option maxRecDepth 20000 in
set_option maxHeartbeats 1000000 in
theorem collect_any (w : World) (g1 : Nat) (t1 : TypeId) (s : Sd) (h : Nat) (z : Int) (hB : Blk w g1 t1 (secC s z)) (hh : h ≤ 8) (hT : Tab w) :
    Calls Tryd.prog 82 #[.int .i64 (h : Nat), .func (.func 83) #[] #[.pointer (some ⟨g1, 0, none⟩)]] w fun e w' => ∃ A c, e = .returned (.slice A (2 ^ h) c) ∧ Becomes [] w (ndT (.slice A (2 ^ h) c) (lvsN s (2 ^ h))) w' := by
  have hM := Mem.start [] w
  have hp : 2 ^ h ≤ 2 ^ 8 := Nat.pow_le_pow_right (by decide) hh
  have hp2 : (2 : Int) ^ h = ((2 ^ h : Nat) : Int) := by simp
  have c4 : wrap64 ((2 : Int) ^ h) = ((2 ^ h : Nat) : Int) := by rw [hp2]; have := Int.natCast_nonneg (2 ^ h); unfold wrap64; omega
  have HS := Lib.hid (fun (k : Nat) (hk : k < 2 ^ h) w' (hb : Below w.heap.size w w') => lfstep_any w' g1 t1 s z k (hB.kept hb) (by omega) (hT.keep hb))
  have h0 : (0 : Int) ≤ (h : Int) := Int.natCast_nonneg _
  have h1 : (h : Int) ≤ 8 := by omega
  clear hB hT hh hp2
  generalize 2 ^ h = N at hp c4 HS ⊢
  go_enter Tryd.func82, Tryd.ntmps82
  go_wp2_with fail
  simp only [c4]
  have M0 := Lib.hid (hM.newThing (nbecomes_zero none (KeptBut.refl _ _)))
  clear hM
  go_loopw [9, 5] (fun i p wr => ∃ (k : Nat) (E : Option Addr) (e2 : Nat), k ≤ N ∧ i = .int .i64 (k : Nat) ∧ p = .slice E k e2 ∧ Mem [] w [] [ndT (.slice E k e2) (lvsN s k)] wr) (fun i _ _ => N - (intOf i).toNat)
  case atStart => exact ⟨0, none, 0, by omega, rfl, rfl, M0.out⟩
  case round =>
    clear M0
    obtain ⟨k, E, e2, hk, rfl, rfl, hM⟩ := hrel
    by_cases hlt : k < N
    · have HSK := Lib.hid (HS.out k hlt)
      have hs := lvsN_succ s k
      have hl := lvsN_length s k
      generalize lfN s k = Z at HSK hs
      generalize lvsN s k = cur at hs hl hM
      have h63 : cur.length + [Z].length ≤ 1000000000 := by simp; omega
      have HSS := Lib.hid hs
      have HL := Lib.hid hl
      have q0 : (0 : Int) ≤ (k : Int) := Int.natCast_nonneg _
      have q1 : (k : Int) < (N : Int) := by omega
      clear hs hl
      go_wp2_with (first | ((with_reducible refine (HSK.out _ hM.below).mono ?_); rintro e w1 ⟨rfl, hb⟩; replace hM := hM.step hb; clear hb) | (refine lbn1 hM ?_; clear hM; intro g1 w5 hM) | ((with_reducible refine at_append ?_); refine lan (src_nd1 hM (List.Mem.head _)) hM h63 ?_; clear hM; intro A2 N2 c2 wx hN2 hM))
      obtain rfl : N2 = k + 1 := by have := hN2.out; have := HL.out; simp at *; omega
      exact ⟨⟨k + 1, A2, c2, by omega, by go_num, rfl, by rw [HSS.out]; exact hM.subL (List.sublist_cons_self _ _)⟩, by simp [intOf]; omega⟩
    · obtain rfl : k = N := by omega
      clear hlt hk
      go_wp2_with fail
      go_ret
      exact ⟨E, e2, rfl, hM.becomes (by exact List.Mem.head _)⟩
end Go.Proofs.YtdnnjgjaffkdfaaDoor
namespace Go.Bul
open Go Go.RowKit Go.Thg
theorem fold_set (off : Nat) : ∀ (vs : List Value) (j : Nat) (cs : Array Value), off + j + vs.length ≤ cs.size →
    ((vs.zipIdx j).foldl (fun cs (p : Value × Nat) => cs.setIfInBounds (off + p.2) p.1) cs).toList = cs.toList.take (off + j) ++ (vs ++ cs.toList.drop (off + j + vs.length))
  | [], j, cs, _ => by simp
  | v :: vs, j, cs, h => by
    simp only [List.length_cons] at h
    have ih := fold_set off vs (j + 1) (cs.setIfInBounds (off + j) v) (by simp; omega)
    simp only [List.zipIdx_cons, List.foldl_cons]
    rw [ih]
    simp only [Array.toList_setIfInBounds, List.length_cons]
    have hlt : off + j < cs.toList.length := by simp; omega
    rw [show off + (j + 1) = (off + j) + 1 by omega, List.take_succ_eq_append_getElem (by simpa using hlt), List.getElem_set_self, List.take_set_of_le (Nat.le_refl _), List.drop_set_of_lt (by omega)]
    simp only [List.append_assoc, List.cons_append, List.nil_append]
    congr 4
    omega
theorem fill_cons {place : Nat → Option (Nat × Nat)} {cells : Array Value} {i off size : Nat} {v : Value} {rest : List (Nat × Value)} (hp : place i = some (off, size)) (hs : v.cells.size = size) (hb : off + size ≤ cells.size) :
    Instr.fill place cells ((i, v) :: rest) = Instr.fill place (splice cells.toList off v.cells.toList).toArray rest := by
  have hcond : (decide (v.cells.size ≠ size) || decide (off + v.cells.size > cells.size)) = false := by simp; omega
  simp only [Instr.fill, hp, hcond, Bool.false_eq_true, if_false]
  congr 1
  apply Array.ext'
  have := fold_set off v.cells.toList 0 cells (by simp; omega)
  simp only [Nat.add_zero] at this
  rw [← Array.foldl_toList, Array.toList_zipIdx]
  exact this
theorem run_build_struct {P : Program} {ty : TypeId} {fields : Array Field} {z : Value} (hu : P.underlying ty = some (.struct fields)) (hz : (P.info? ty).map (·.zero) = some (some z)) {places : Array (Nat × Nat)}
    (hp : ∀ w, (fields.mapM fun f => do pure (f.offset, ← sizeOf f.type) : Sem (Array (Nat × Nat))).run P w = .ok places w) {parts : Array (Nat × Value)} {cs : Array Value} (hf : Instr.fill (places[·]?) z.cells parts.toList = some cs) (w : World) :
    (Instr.build ty parts).run P w = .ok (.agg cs) w := by
  cases hq : P.info? ty with
  | none => simp [hq] at hz
  | some i =>
    have hz' : i.zero = some z := by simpa [hq] using hz
    have hzr : (zeroValue ty).run P w = .ok z w := by simp [zeroValue, typeInfo, hq, hz']
    simp only [Instr.build, Sem.run_bind, hzr, run_underlying hu, Result.andThen_ok, hp, hf, Sem.run_pure]
theorem splice_mid (hd : Value) (A B X : List Value) (hX : X.length = A.length) : splice (hd :: (A ++ B)) 1 X = hd :: (X ++ B) := by
  unfold splice
  rw [hX]
  show [hd] ++ (X ++ (hd :: (A ++ B)).drop (1 + A.length)) = _
  rw [Nat.add_comm, List.drop_succ_cons, List.drop_left]
  rfl
end Go.Bul
namespace Go.Proofs.YtdnnjgjaffkdfaaDoor
open Go Go.RowKit Go.Bul Go.Thg Go.Lin
theorem run_pub (h : Int) (r : Nd) (w : World) : (Instr.build 30 #[(0, .int .i64 h), (1, .agg (ndC r))]).run Tryd.prog w = .ok (.agg (pubC h r)) w := by
  refine run_build_struct (places := #[(0, 1), (1, 16)]) (show Tryd.prog.underlying 30 = some (.struct (Tryd.prog.fieldsOf 30)) by kernel_rfl) (show (Tryd.prog.info? 30).map (·.zero) = some (some (.agg (pubC 0 nd0))) by kernel_rfl) (fun w => by kernel_rfl) ?_ w
  have e0 := nd_len nd0
  have e1 := nd_len r
  show Instr.fill _ (pubC 0 nd0) [(0, .int .i64 h), (1, .agg (ndC r))] = _
  rw [fill_cons (size := 1) rfl rfl (by rw [pubC_size]; omega)]
  have e2 : (splice (pubC 0 nd0).toList 0 (Value.cells (.int .i64 h)).toList).toArray = pubC h nd0 := rfl
  rw [e2, fill_cons (size := 16) rfl (by exact ndC_size _) (by rw [pubC_size]; omega)]
  have e3 : (splice (pubC h nd0).toList 1 (Value.cells (.agg (ndC r))).toList).toArray = pubC h r := by
    have h := splice_mid (.int .i64 h) (vals .u8 nd0.val) [] (vals .u8 r.val) (by omega)
    rw [List.append_nil, List.append_nil] at h
    exact congrArg List.toArray h
  rw [e3]
  rfl
section
variable {w : World} {ops : Array Oper} {rest : List Oper} {o : Oper} {a : Act} {Q : Exit → Act → World → Prop} {x0 x1 : Operand} {h : Int} {r : Nd}
theorem lbpub (hk : wpList Tryd.prog ops Q rest (a.put o.dst (.agg (pubC h r))) w) (hgd : o.guard = none := by rfl) (ho : o.op = .build 30 #[(0, x0), (1, x1)] := by rfl) (h0 : a.eval x0 = .int .i64 h := by rfl) (hx : a.eval x1 = .agg (ndC r) := by rfl) : wpList Tryd.prog ops Q (o :: rest) a w :=
  wpList_build_run hgd _ _ ho _ (by simp only [List.map_toArray, List.map_cons, List.map_nil, h0, hx]) _ (run_pub h r w) hk
end
set_option maxRecDepth 20000 in
set_option maxHeartbeats 1000000 in
theorem leaves_any (s : Sd) (h : Nat) (w : World) (hh : h ≤ 8) (hT : Tab w) :
    Calls Tryd.prog 56 #[.agg (secC s (h : Nat))] w fun e w' => ∃ A c, e = .returned (.slice A (2 ^ h) c) ∧ Becomes [] w (ndT (.slice A (2 ^ h) c) (lvsN s (2 ^ h))) w' := by
  have hM := Mem.start [] w
  have HS := Lib.hid (secC_size s (h : Nat))
  have HH := Lib.hid (secC_h s (h : Nat))
  have HC := Lib.hid (fun w' (g1 : Nat) (t1 : TypeId) (hB : Blk w' g1 t1 (secC s (h : Nat))) (hb : Below w.heap.size w w') => collect_any w' g1 t1 s h (h : Nat) hB hh (hT.keep hb))
  generalize secC s (h : Nat) = X at HS HH HC ⊢
  generalize 2 ^ h = N at HC ⊢
  generalize lvsN s N = LV at HC ⊢
  clear hh hT
  go_enter Tryd.func56, Tryd.ntmps56
  go_wp2_with (first | ((with_reducible refine at_box ?_); refine slb hM ?_ (hty := row_sec) (hn := HS.out); clear hM; intro g1 w1 hM) | ((with_reducible refine at_load ?_); refine slc hM ?_ (hv := HH.out)) | ((with_reducible refine (HC.out _ _ _ (hM.blk (List.Mem.head _)) hM.below).mono ?_); rintro e w1 ⟨A, c, rfl, hb⟩; replace hM := hM.newThing hb; clear hb))
  go_ret
  exact ⟨A, c, rfl, hM.becomes (by exact List.Mem.head _)⟩
set_option maxRecDepth 20000 in
set_option maxHeartbeats 1000000 in
theorem pubof_any (h : Int) (A : Option Addr) (n c : Nat) (leaves : List Nd) (w : World) (hr : NIn w A n leaves) (hn : n ≤ 2000) (hc : chkE n = 0) (hT : Tab w) :
    Calls Tryd.prog 55 #[.int .i64 h, .slice A n c] w fun e w' => e = .returned (.tuple #[.agg (pubC h (rootN leaves)), .int .i64 0]) ∧ Below w.heap.size w w' := by
  have hM := Mem.start [] w
  have HR := Lib.hid (fun w' (hb : Below w.heap.size w w') => root_any A n c leaves w' (hr.keep hb) hn (hT.keep hb))
  rw [hc] at HR
  generalize rootN leaves = Z at HR ⊢
  clear hr hn hc hT
  go_enter Tryd.func55, Tryd.ntmps55
  go_wp2_with (first | ((with_reducible refine (HR.out _ hM.below).mono ?_); rintro e w1 ⟨rfl, hb⟩; replace hM := hM.step hb; clear hb) | ((with_reducible refine at_build ?_); refine lbpub ?_) | ((first | with_reducible refine at_load ?_ | ((with_reducible refine at_load_g ?_ ?_); (· rfl))); first | refine sll hM ?_ | refine slc hM ?_ | refine slp hM ?_) | ((with_reducible refine at_store ?_); first | (refine slw hM ?_; clear hM; intro wx hM) | (refine sls hM ?_; clear hM; intro wx hM) | (refine slt hM ?_; clear hM; intro wx hM)) | ((with_reducible refine at_alloc ?_); refine slz hM ?_; clear hM; intro gx wx hM) | ((with_reducible refine at_box ?_); refine slb hM ?_; clear hM; intro gx wx hM))
  exact bodyPost_ret (results_mem_cell_tmp hM rfl (by rfl) (by repeat (first | exact List.Mem.head _ | apply List.Mem.tail)) row_pub (by rfl)) rfl ⟨rfl, hM.below⟩
end Go.Proofs.YtdnnjgjaffkdfaaDoor
