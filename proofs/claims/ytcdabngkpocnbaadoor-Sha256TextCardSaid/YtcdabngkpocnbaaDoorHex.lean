/- Contracts of ascii.Hex and (sha256.Digest).String. -/
import Derived.Test.YtcdabngkpocnbaaDoorStr
import Derived.Test.YtcdabngkpocnbaaDoorApp
import Derived.Laws.MakeOwn
import Derived.Deep.RegionLaw
namespace Go.Proofs.YtcdabngkpocnbaaDoor
open Go Go.RowKit Go.Bul
/-- append bytes that a slice reads as, as a step of a region that draws. -/
theorem step_append_bytes {w : World} {ops : Array Oper} {o : Oper} {a : Act} {K : Act → World → Prop} {Q : Exit → Act → World → Prop} {E : Prop} (hgd : o.guard = none) (s x : Operand) (t : TypeId)
    (ho : o.op = .call { callee := .builtin .append, args := #[s, x], argTypes := #[t, t] }) (ht : Tryd.prog.underlying t = some (.slice 5))
    (base : Nat) (v : Value) (xs : List Nat) (hs : a.eval s = v) (hown : OwnB w base v xs) (ok : Nat → Prop) (A : Option Addr) (m c : Nat) (ys : List Nat) (hx : a.eval x = .slice A m c) (hr : Rd w ok A m ys)
    (zs : List Nat) (hzs : xs ++ ys = zs) (N : Nat) (hN : zs.length = N) (h63 : N ≤ 140737488355328) (hbase : base ≤ w.heap.size)
    (h : ∀ A' c' w', OwnB w' base (.slice A' N c') zs → N ≤ c' → w.grownBy w' v.ownBlock → ((Value.slice A' N c').ownBlock = v.ownBlock ∨ (Value.slice A' N c').ownBlock = some w.heap.size) →
      K (a.put o.dst (.slice A' N c')) w') : if Region.wanted o (yielded ops a.tmps) = true then Oper.wp Tryd.prog o a w K Q else E := by
  have hw : Region.wanted o (yielded ops a.tmps) = true := by simp [Region.wanted, hgd]
  rw [if_pos hw]
  subst hzs
  have hl := hr.len
  have e : xs.length + m = N := by rw [← hN]; simp [hl]
  obtain ⟨A', c', w', hrun, h2, h3, h4⟩ := run_append_src (P := Tryd.prog) base t o.type 5 (.int .u8 0) 1 1 ht info_u8 rfl (by decide) v xs.length (vals .u8 xs) hown A m c (vals .u8 ys) (by simp [hl]) (fun hm => by
    obtain ⟨ad, hA, _⟩ := hr.at_ hm
    exact ⟨ad, hA, by have := hr.cells ys.length hA; rwa [List.take_of_length_le (Nat.le_refl _)] at this⟩) (vals_one _ _) (by unfold maxLen; omega) (by omega) hbase
  rw [e] at h2 h4 hrun
  unfold Oper.wp execOp
  simp only [ho, resolve, invoke, builtin, Sem.run_bind, Sem.run_pure, Result.andThen_ok, List.map_toArray, List.map_cons, List.map_nil, hs, hx, hrun]
  have h2' : OwnB w' base (.slice A' N c') (xs ++ ys) := by unfold OwnB; rw [hN]; rwa [show vals .u8 (xs ++ ys) = vals .u8 xs ++ vals .u8 ys by simp [vals]]
  obtain ⟨_, _, he, hc, _⟩ := own_form h2
  injection he with _ _ h6
  exact h A' c' w' h2' (by omega) h3 h4
theorem OwnB.drew {w : World} {base : Nat} {v : Value} {xs : List Nat} (h : OwnB w base v xs) : OwnB w.drew base v xs := OwnB.kept h (Below.drew (Below.refl _ _))
theorem wpList_make_bytes {w : World} {ops : Array Oper} {rest : List Oper} {o : Oper} {a : Act} {Q : Exit → Act → World → Prop} (hgd : o.guard = none) (t : TypeId) (x y : Operand)
    (ho : o.op = .makeSlice t x y) (ht : Tryd.prog.underlying t = some (.slice 5)) (kl kc : IntKind) (c : Nat) (hx : a.eval x = .int kl 0) (hy : a.eval y = .int kc (c : Int)) (hc : c ≤ 140737488355328)
    (h : ∀ A w', OwnB w' w.heap.size (.slice A 0 c) [] → Below w.heap.size w w' → wpList Tryd.prog ops Q rest (a.put o.dst (.slice A 0 c)) w') : wpList Tryd.prog ops Q (o :: rest) a w :=
  wpList_plain hgd fun K hK => by
    obtain ⟨i, hi', hz', hs', hb'⟩ := info_parts info_u8
    obtain ⟨w', hrun, h2, h3⟩ := run_make_own (P := Tryd.prog) w w.heap.size t 5 i (.int .u8 0) 1 ht hi' hz' hs' kl kc c (by rw [hb']; omega) (by unfold maxLen; omega) (Nat.le_refl _)
    unfold Oper.wp execOp
    simp only [ho, hx, hy, Sem.run_bind, Sem.run_pure, Result.andThen_ok, hrun]
    exact hK _ _ (h _ w' h2 ⟨h3.os, h3.tape, h3.output, h3.size, fun i hi => h3.block i hi (by simp)⟩)
theorem Rd.str {w : World} {ok : Nat → Prop} {A : Option Addr} {n : Nat} {bs : List Nat} (h : Rd w ok A n bs) (c : Nat) : (convert 22 9 (.slice A n c)).run Tryd.prog w = .ok (.string (bstr bs)) w := by
  have hz : ∀ (ad : Addr), (∀ j v, (vals .u8 bs)[j]? = some v → w.cell? (ad.add j) = some v) → (convert 22 9 (.slice (some ad) n c)).run Tryd.prog w = .ok (.string (bstr bs)) w := fun ad hc => by
    have hl := run_loadCells_list (P := Tryd.prog) w ad (vals .u8 bs) hc
    rw [vals_length, h.len] at hl
    have hv : vals .u8 bs = (bs.map fun (n : Nat) => (n : Int)).map (Value.int .u8) := by simp [vals]
    rw [hv] at hl
    rw [run_convert_bytes_string w _ _ 5 (some ad) n c Tryd.underlying22 Tryd.underlying5 Tryd.underlying9, run_bytesToString w ad n c _ hl, foldl_push_bytes, ← bstr_nums]
    simp [strOfNums, ByteArray.empty, ByteArray.emptyWithCapacity]
    rfl
  cases A with
  | none =>
    have h0 : n = 0 := by
      rcases Nat.eq_zero_or_pos n with h0 | h0
      · exact h0
      · obtain ⟨_, e, _⟩ := h.at_ h0
        cases e
    subst h0
    obtain rfl : bs = [] := List.eq_nil_of_length_eq_zero h.len
    rw [run_convert_bytes_string w _ _ 5 none 0 c Tryd.underlying22 Tryd.underlying5 Tryd.underlying9]
    simp [Conv.bytesToString, bstr]
    rfl
  | some ad =>
    refine hz ad ?_
    have := h.cells bs.length rfl
    rwa [List.take_of_length_le (Nat.le_refl _)] at this
theorem run_hex_digit (k : IntKind) (n : Nat) (i : Int) (hi : i = (n : Int)) (h : n < 16) (W : World) : (Instr.index 9 (.string { data := #[48, 49, 50, 51, 52, 53, 54, 55, 56, 57, 97, 98, 99, 100, 101, 102] }) (.int k i)).run Tryd.prog W = .ok (.int .u8 (hexd n : Nat)) W := by
  subst hi
  have : n = 0 ∨ n = 1 ∨ n = 2 ∨ n = 3 ∨ n = 4 ∨ n = 5 ∨ n = 6 ∨ n = 7 ∨ n = 8 ∨ n = 9 ∨ n = 10 ∨ n = 11 ∨ n = 12 ∨ n = 13 ∨ n = 14 ∨ n = 15 := by omega
  rw [run_index_string W _ _ k n Tryd.underlying9]
  rcases this with rfl | rfl | rfl | rfl | rfl | rfl | rfl | rfl | rfl | rfl | rfl | rfl | rfl | rfl | rfl | rfl <;> rfl
theorem and15 (b : Nat) (h : b < 256) : bits BinOp.and IntKind.u8 (b : Int) 15 = ((b % 16 : Nat) : Int) := by
  have : ∀ b : Fin 256, bits BinOp.and IntKind.u8 (b.val : Int) 15 = ((b.val % 16 : Nat) : Int) := by decide +kernel
  exact this ⟨b, h⟩
theorem hex_any (bs : List Nat) (A : Option Addr) (n c : Nat) (ok : Nat → Prop) (w : World) (hr : Rd w ok A n bs) (hn : n ≤ 17592186044416) :
    Calls Tryd.prog 34 #[.slice A n c] w fun e w' => e = .returned (.string (bstr (hexs bs))) ∧ Below w.heap.size w w' := by
  obtain ⟨m, hm⟩ : ∃ m, m = 2 * n := ⟨_, rfl⟩
  have e2 : (2 : Int) * (n : Int) = (m : Int) := by omega
  have hm1 : m ≤ 35184372088832 := by omega
  have HM := Lib.hid hm
  clear hm
  have HR := Lib.hid hr
  clear hr
  go_enter Tryd.func34, Tryd.ntmps34
  go_wp2_with (refine wpList_make_bytes rfl 22 (.const (.int .i64 0)) (.tmp 8) rfl Tryd.underlying22 .i64 .i64 m rfl rfl (by omega) ?_; intro A0 w0 hown0 hb0; have HO := Lib.hid hown0; have HB := Lib.hid hb0; clear hown0 hb0)
  go_loopw [3, 12] (fun v i w2 => ∃ (k : Nat) (A' : Option Addr) (c' : Nat), k ≤ n ∧ i = .int .i64 (k : Nat) ∧ v = .slice A' (2 * k) c' ∧ OwnB w2 w.heap.size v (hexs (bs.take k)) ∧ Below w.heap.size w w2) (fun _ i _ => n - (intOf i).toNat)
  case atStart => exact ⟨0, _, _, by omega, rfl, rfl, HO.out, HB.out⟩
  case round =>
    obtain ⟨k, A', c', hk, rfl, rfl, hown, hold⟩ := hrel
    by_cases hlt : k < n
    · obtain ⟨ad, rfl, _, hadlt, hcell⟩ := HR.out.at_ (by omega)
      have hck := hcell k hlt
      obtain ⟨b, hb⟩ : ∃ b, b = bs.getD k 0 := ⟨_, rfl⟩
      rw [← hb] at hck
      have hb2 : b < 256 := by rw [hb]; exact HR.out.bytes.getD k
      have cb : wr.cell? (ad.add k) = some (.int .u8 (b : Nat)) := by rw [hold.cell (by rw [block_of_add]; exact hadlt)]; exact hck
      obtain ⟨N, hN⟩ : ∃ N, N = 2 * k := ⟨_, rfl⟩
      rw [← hN] at hown ⊢
      obtain ⟨L, hL⟩ : ∃ L, L = hexs (bs.take k) := ⟨_, rfl⟩
      rw [← hL] at hown
      have H := Lib.hid (And.intro hN (And.intro hL hb))
      clear hN hL hb hcell hck
      have i1 : ∀ W, (Instr.index 9 (.string { data := #[48, 49, 50, 51, 52, 53, 54, 55, 56, 57, 97, 98, 99, 100, 101, 102] }) (.int .u8 ((b : Int) / (16 : Int)))).run Tryd.prog W = .ok (.int .u8 (hexd (b / 16) : Nat)) W := fun W => run_hex_digit .u8 (b / 16) _ (by omega) (by omega) W
      have i2 : ∀ W, (Instr.index 9 (.string { data := #[48, 49, 50, 51, 52, 53, 54, 55, 56, 57, 97, 98, 99, 100, 101, 102] }) (.int .u8 (bits BinOp.and IntKind.u8 (b : Int) 15))).run Tryd.prog W = .ok (.int .u8 (hexd (b % 16) : Nat)) W := fun W => run_hex_digit .u8 (b % 16) _ (and15 b hb2) (by omega) W
      go_wp2_with fail
      have hx1 : hexd (b / 16) < 256 := hexd_lt (by omega)
      have hx2 : hexd (b % 16) < 256 := hexd_lt (by omega)
      obtain ⟨x, hx⟩ : ∃ x, x = hexd (b / 16) := ⟨_, rfl⟩
      obtain ⟨y, hy⟩ : ∃ y, y = hexd (b % 16) := ⟨_, rfl⟩
      rw [← hx] at i1 hx1
      rw [← hy] at i2 hx2
      obtain ⟨L2, hL2⟩ : ∃ L2, L2 = hexs (bs.take (k + 1)) := ⟨_, rfl⟩
      have hmore : L ++ [x, y] = L2 := by
        obtain ⟨hN, hL, hb⟩ := H.out
        rw [hL, hx, hy, hL2, hb]
        exact hexs_take bs k (by rw [HR.out.len]; omega)
      have hlen2 : L2.length = N + 2 := by
        rw [← hmore, List.length_append, H.out.2.1, H.out.1, hexs_length, List.length_take, HR.out.len]
        simp; omega
      have hN2 : N < 70368744177664 := by rw [H.out.1]; omega
      have G := Lib.hid (And.intro hx (And.intro hy hL2))
      clear hx hy hL2
      have hsz := hold.size
      go_region_law (refine step_append_bytes rfl (.tmp 16) (.tmp 23) 22 rfl Tryd.underlying22 w.heap.size _ L rfl ((OwnB.drew hown).alloc (.cells (cellsOf .u8 [x, y]) 5)) (fun _ => True) (some ⟨wr.heap.size, 0, none⟩) 2 2 [x, y] rfl (Rd.of_block (xs := [x, y]) (Blk.new wr.drew 5 (cellsOf .u8 [x, y])) (Bytes.cons hx1 (Bytes.cons hx2 Bytes.nil)) trivial) L2 hmore (N + 2) hlen2 (by omega) (by simp; omega) ?_; intro A2 c2 w2 hown' hc' hgrow hwhere; have hgrow' := Lib.hid hgrow; have hown2 := Lib.hid hown'; clear hgrow hwhere hown')
      all_goals
        go_wp2_with fail
        obtain ⟨hx, hy, hL2⟩ := G.out
        refine ⟨⟨k + 1, A2, c2, by omega, by go_num, by rw [H.out.1, Nat.mul_add], by rw [← hL2]; exact hown2.out, ?_⟩, by simp [intOf]; omega⟩
        refine ((hold.alloc hsz _).drew).grown hgrow'.out (by simp; omega) (fun k hk => ?_)
        exact (hown.block_ge hk).1
    · obtain rfl : k = n := by omega
      rw [List.take_of_length_le (by rw [HR.out.len]; omega)] at hown
      have hs := (hown.rd (by rw [hexs_length, HR.out.len]) (hexs_bytes HR.out.bytes)).1.str c'
      clear hown
      go_wp2_with fail
      go_ret
      exact ⟨rfl, hold⟩
theorem string_any (bs : List Nat) (w : World) (hl : bs.length = 32) (hb : Bytes bs) :
    Calls Tryd.prog 22 #[.agg (cellsOf .u8 bs)] w fun e w' => e = .returned (.string (bstr (hexs bs))) ∧ Below w.heap.size w w' := by
  go_enter Tryd.func22, Tryd.ntmps22
  go_wp2_with fail
  (with_reducible refine (hex_any bs (some ⟨w.heap.size, 0, none⟩) 32 32 (fun _ => True) _ (hl ▸ Rd.of_block (Blk.new w _ _) hb trivial) (by omega)).mono ?_)
  rintro e w1 ⟨rfl, hb1⟩
  go_wp2_with fail
  go_ret
  exact ⟨rfl, Below.trans ((Below.refl _ _).alloc (Nat.le_refl _) _) (hb1.mono (by simp))⟩
end Go.Proofs.YtcdabngkpocnbaaDoor
