/- Seat c: the law's walk. (Printed by mkgzu.py.) -/
import Derived.Test.YtlidpdjainmaiaaGreatDoorGzt
namespace Go.Bul
open Go Go.RowKit Go.Lin Go.Thg
theorem wpPure_stepG {P : Program} {ops : Array Oper} {K : Act → Prop} {a : Act} {o : Oper} {l : List Oper} {v : Value} (hg : Region.wanted o (yielded ops a.tmps) = true) (hy : ∀ w, (execOp a.eval o).run P w = .ok (.value v) w)
    (h : ∀ K' : Act → Prop, (∀ a', wpPure P ops K l a' → K' a') → K' (a.put o.dst v)) : wpPure P ops K (o :: l) a :=
  ⟨v, .inl ⟨hg, hy⟩, h _ fun _ h => h⟩
theorem run_reads {P : Program} {w : World} {ty : TypeId} {m g off : Nat} {X : Array Value} (hty : RowTy P ty m) (hm : X.size = m) (hX : ∀ j u, X[j]? = some u → w.cell? ⟨g, off + j, none⟩ = some u) : (loadVar ty ⟨g, off, none⟩).run P w = .ok (.agg X) w := by
  obtain ⟨d, hu, hd, hi⟩ := hty.ex
  have hl : (loadCells ⟨g, off, none⟩ X.toList.length).run P w = .ok X.toList.toArray w :=
    run_loadCells_list (P := P) w ⟨g, off, none⟩ X.toList (fun j u hu => by rw [addr_at]; exact hX j u (by simpa using hu))
  rw [Array.length_toList, hm] at hl
  simp only [Array.toArray_toList] at hl
  simp [loadVar, Sem.run_bind, run_isAgg hu hd, Go.Bul.run_sizeOf hi, hl]
theorem yreads {P : Program} {w : World} {ty : TypeId} {m g off : Nat} {X : Array Value} {o : Oper} {a : Act} {x : Operand} (hX : ∀ j u, X[j]? = some u → w.cell? ⟨g, off + j, none⟩ = some u) (hty : RowTy P ty m) (hm : X.size = m) (ho : o.op = .load ty x := by rfl) (hx : a.eval x = .pointer (some ⟨g, off, none⟩) := by rfl) : (execOp a.eval o).run P w = .ok (.value (.agg X)) w := by
  unfold execOp
  simp only [ho, hx, Instr.loadAt, Instr.sureAddr, Sem.run_bind, Sem.run_pure, Result.andThen_ok, run_reads hty hm hX]
end Go.Bul
namespace Go.Proofs.YtlidpdjainmaiaaGreatDoor
open Go Go.RowKit Go.Bul Go.Thg Go.Lin Go.Cht Go.Maps
theorem run_bs3 (w : World) : (Instr.buildSlice 33 3 #[(0, .string annB), (1, .string bobB), (2, .string carB)]).run Tryz.prog w = .ok (.slice (some ⟨w.heap.size, 0, none⟩) 3 3) (w.alloc (.cells #[.string annB, .string bobB, .string carB] 9)) := by kernel_rfl
theorem run_id (j : Nat) (w : World) : (Instr.build 45 #[(0, .int .u8 (j : Nat)), (1, .int .u8 1)]).run Tryz.prog w = .ok (.agg (stC j [])) w := by kernel_rfl
abbrev pz : List Value := [.string ⟨#[]⟩, .string ⟨#[]⟩, .string ⟨#[]⟩, .int .i64 0]
set_option maxRecDepth 20000 in
theorem zero_post : ZeroTy Tryz.prog 48 36 (vals .u8 (List.replicate 32 0) ++ pz).toArray := ⟨⟨.agg _, by kernel_rfl, rfl, by simp⟩⟩
theorem splice_z (j : Nat) (tl : List Value) : (splice (vals .u8 (List.replicate 32 0) ++ tl).toArray.toList 0 (Value.cells (.agg (stC j []))).toList).toArray = stC j tl := by
  have h := splice_at [] (vals .u8 (List.replicate 32 0)) tl (vals .u8 (idL j)) (by rw [id_len]; rfl)
  simp only [List.nil_append, List.length_nil] at h
  simp only [stC, Value.cells, List.append_nil]
  rw [h]
set_option maxRecDepth 20000 in
theorem run_post (j : Nat) (a b c : ByteArray) (d : Int) (w : World) : (Instr.build 48 #[(0, .agg (stC j [])), (1, .string a), (2, .string b), (3, .string c), (4, .int .i64 d)]).run Tryz.prog w = .ok (.agg (stC j [.string a, .string b, .string c, .int .i64 d])) w := by
  refine run_build_struct (places := #[(0, 32), (32, 1), (33, 1), (34, 1), (35, 1)]) (show Tryz.prog.underlying 48 = some (.struct (Tryz.prog.fieldsOf 48)) by kernel_rfl) (show (Tryz.prog.info? 48).map (·.zero) = some (some (.agg (vals .u8 (List.replicate 32 0) ++ pz).toArray)) by kernel_rfl) (fun w => by kernel_rfl) ?_ w
  show Instr.fill _ (vals .u8 (List.replicate 32 0) ++ pz).toArray [(0, .agg (stC j [])), (1, .string a), (2, .string b), (3, .string c), (4, .int .i64 d)] = _
  rw [fill_cons (off := 0) (size := 32) rfl (by exact stC_size _ _) (by simp), splice_z]
  rw [fill_cons (off := 32) (size := 1) rfl rfl (by rw [stC_size]; simp), show (splice (stC j pz).toList 32 (Value.cells (.string a)).toList).toArray = stC j [.string a, .string ⟨#[]⟩, .string ⟨#[]⟩, .int .i64 0] from splice_tl j [] _ [.string ⟨#[]⟩, .string ⟨#[]⟩, .int .i64 0] (.string a) rfl rfl]
  rw [fill_cons (off := 33) (size := 1) rfl rfl (by rw [stC_size]; simp), show (splice (stC j [.string a, .string ⟨#[]⟩, .string ⟨#[]⟩, .int .i64 0]).toList 33 (Value.cells (.string b)).toList).toArray = stC j [.string a, .string b, .string ⟨#[]⟩, .int .i64 0] from splice_tl j [.string a] _ [.string ⟨#[]⟩, .int .i64 0] (.string b) rfl rfl]
  rw [fill_cons (off := 34) (size := 1) rfl rfl (by rw [stC_size]; simp), show (splice (stC j [.string a, .string b, .string ⟨#[]⟩, .int .i64 0]).toList 34 (Value.cells (.string c)).toList).toArray = stC j [.string a, .string b, .string c, .int .i64 0] from splice_tl j [.string a, .string b] _ [.int .i64 0] (.string c) rfl rfl]
  rw [fill_cons (off := 35) (size := 1) rfl rfl (by rw [stC_size]; simp), show (splice (stC j [.string a, .string b, .string c, .int .i64 0]).toList 35 (Value.cells (.int .i64 d)).toList).toArray = stC j [.string a, .string b, .string c, .int .i64 d] from splice_tl j [.string a, .string b, .string c] _ [] (.int .i64 d) rfl rfl]
  rfl
section
variable {w w0 : World} {G : List Nat} {L : List Ent} {R : List Thing} {ops : Array Oper} {rest : List Oper} {o : Oper} {a : Act} {Q : Exit → Act → World → Prop} {x y z : Operand}
theorem gbs3 (hM : Mem G w0 L R w) (h : ∀ g w', Mem G w0 (⟨g, 9, 3, #[.string annB, .string bobB, .string carB]⟩ :: L) R w' → wpList Tryz.prog ops Q rest (a.put o.dst (.slice (some ⟨g, 0, none⟩) 3 3)) w') (hgd : o.guard = none := by rfl) (ho : o.op = .buildSlice 33 3 #[(0, x), (1, y), (2, z)] := by rfl) (hx : a.eval x = .string annB := by rfl) (hy : a.eval y = .string bobB := by rfl) (hz : a.eval z = .string carB := by rfl) : wpList Tryz.prog ops Q (o :: rest) a w := by
  refine wpList_plain hgd fun K hK => ?_
  unfold Oper.wp execOp
  simp only [ho, List.map_toArray, List.map_cons, List.map_nil, hx, hy, hz, Sem.run_bind, run_bs3, Result.andThen_ok]
  exact hK _ _ (h _ _ (hM.alloc _ _ rfl))
theorem nb_id {j : Nat} (h : wpList Tryz.prog ops Q rest (a.put o.dst (.agg (stC j []))) w)
    (hgd : o.guard = none := by rfl) (ho : o.op = .build 45 #[(0, x), (1, y)] := by rfl) (hx : a.eval x = .int .u8 (j : Nat) := by rfl) (hy : a.eval y = .int .u8 1 := by rfl) : wpList Tryz.prog ops Q (o :: rest) a w := by
  refine wpList_plain hgd fun K hK => ?_
  unfold Oper.wp execOp
  simp only [ho, List.map_toArray, List.map_cons, List.map_nil, hx, hy, Sem.run_bind, run_id, Result.andThen_ok]
  exact hK _ _ h
theorem nb_post {j : Nat} {s0 s1 s2 : ByteArray} {d : Int} {x0 x1 x2 x3 x4 : Operand} (h : wpList Tryz.prog ops Q rest (a.put o.dst (.agg (stC j [.string s0, .string s1, .string s2, .int .i64 d]))) w)
    (hgd : o.guard = none := by rfl) (ho : o.op = .build 48 #[(0, x0), (1, x1), (2, x2), (3, x3), (4, x4)] := by rfl) (h0 : a.eval x0 = .agg (stC j []) := by rfl) (h1 : a.eval x1 = .string s0 := by rfl) (h2 : a.eval x2 = .string s1 := by rfl) (h3 : a.eval x3 = .string s2 := by rfl) (h4 : a.eval x4 = .int .i64 d := by rfl) : wpList Tryz.prog ops Q (o :: rest) a w := by
  refine wpList_plain hgd fun K hK => ?_
  unfold Oper.wp execOp
  simp only [ho, List.map_toArray, List.map_cons, List.map_nil, h0, h1, h2, h3, h4, Sem.run_bind, run_post, Result.andThen_ok]
  exact hK _ _ h
end
/-- What is said, as it lies in memory. -/
structure SaidIn (w : World) (A : Option Addr) (n : Nat) : Prop where
  ex : 0 < n → ∃ g off, A = some ⟨g, off, none⟩ ∧ g < w.heap.size ∧ ∀ i, i < n → ∃ (rv nv wv : Nat) (s : ByteArray), rv < 256 ∧ nv < 256 ∧ wv < 256 ∧ w.cell? ⟨g, off + i * 4, none⟩ = some (.int .u8 (rv : Nat)) ∧ w.cell? ⟨g, off + i * 4 + 1, none⟩ = some (.int .u8 (nv : Nat)) ∧ w.cell? ⟨g, off + i * 4 + 2, none⟩ = some (.int .u8 (wv : Nat)) ∧ w.cell? ⟨g, off + i * 4 + 3, none⟩ = some (.string s)
theorem pick_mem {k : Nat} {A B O T : Rm} {x0 x1 gn ga : Nat} {w w' : World} (hp : Pick k A B O T) : Mem [] w (⟨gn, 9, 3, #[.string annB, .string bobB, .string carB]⟩ :: ⟨ga, 32, 2, #[p1 x0, p1 x1]⟩ :: ⟨B.r, 31, 4, #[p1 B.g, .string B.nk, B.S, B.P]⟩ :: ⟨A.r, 31, 4, #[p1 A.g, .string A.nk, A.S, A.P]⟩ :: ⟨B.g, 57, 7, gwA B.rm abB B.nk B.V ((B.last : Nat) : Int) B.mm B.mr⟩ :: ⟨A.g, 57, 7, gwA A.rm abB A.nk A.V ((A.last : Nat) : Int) A.mm A.mr⟩ :: []) (lT A.V A.ws :: lT A.S A.said :: lT A.P A.posts :: lT B.V B.ws :: lT B.S B.said :: lT B.P B.posts :: mapT B.mr B.pr :: mapT B.mm B.pm :: mapT A.mr A.pr :: mapT A.mm A.pm :: []) w' ↔ Mem [] w (⟨gn, 9, 3, #[.string annB, .string bobB, .string carB]⟩ :: ⟨ga, 32, 2, #[p1 x0, p1 x1]⟩ :: ⟨T.r, 31, 4, #[p1 T.g, .string T.nk, T.S, T.P]⟩ :: ⟨O.r, 31, 4, #[p1 O.g, .string O.nk, O.S, O.P]⟩ :: ⟨T.g, 57, 7, gwA T.rm abB T.nk T.V ((T.last : Nat) : Int) T.mm T.mr⟩ :: ⟨O.g, 57, 7, gwA O.rm abB O.nk O.V ((O.last : Nat) : Int) O.mm O.mr⟩ :: []) (lT O.V O.ws :: lT O.S O.said :: lT O.P O.posts :: lT T.V T.ws :: lT T.S T.said :: lT T.P T.posts :: mapT T.mr T.pr :: mapT T.mm T.pm :: mapT O.mr O.pr :: mapT O.mm O.pm :: []) w' := by
  rcases hp with ⟨_, rfl, rfl⟩ | ⟨_, rfl, rfl⟩
  · exact Iff.rfl
  · have key : ∀ A B : Rm, Mem [] w (⟨gn, 9, 3, #[.string annB, .string bobB, .string carB]⟩ :: ⟨ga, 32, 2, #[p1 x0, p1 x1]⟩ :: ⟨B.r, 31, 4, #[p1 B.g, .string B.nk, B.S, B.P]⟩ :: ⟨A.r, 31, 4, #[p1 A.g, .string A.nk, A.S, A.P]⟩ :: ⟨B.g, 57, 7, gwA B.rm abB B.nk B.V ((B.last : Nat) : Int) B.mm B.mr⟩ :: ⟨A.g, 57, 7, gwA A.rm abB A.nk A.V ((A.last : Nat) : Int) A.mm A.mr⟩ :: []) (lT A.V A.ws :: lT A.S A.said :: lT A.P A.posts :: lT B.V B.ws :: lT B.S B.said :: lT B.P B.posts :: mapT B.mr B.pr :: mapT B.mm B.pm :: mapT A.mr A.pr :: mapT A.mm A.pm :: []) w' → Mem [] w (⟨gn, 9, 3, #[.string annB, .string bobB, .string carB]⟩ :: ⟨ga, 32, 2, #[p1 x0, p1 x1]⟩ :: ⟨A.r, 31, 4, #[p1 A.g, .string A.nk, A.S, A.P]⟩ :: ⟨B.r, 31, 4, #[p1 B.g, .string B.nk, B.S, B.P]⟩ :: ⟨A.g, 57, 7, gwA A.rm abB A.nk A.V ((A.last : Nat) : Int) A.mm A.mr⟩ :: ⟨B.g, 57, 7, gwA B.rm abB B.nk B.V ((B.last : Nat) : Int) B.mm B.mr⟩ :: []) (lT B.V B.ws :: lT B.S B.said :: lT B.P B.posts :: lT A.V A.ws :: lT A.S A.said :: lT A.P A.posts :: mapT A.mr A.pr :: mapT A.mm A.pm :: mapT B.mr B.pr :: mapT B.mm B.pm :: []) w' := fun A B h => by
      refine (h.permL (.cons _ (.cons _ ((List.Perm.swap _ _ _).trans (.cons _ (.cons _ (.swap _ _ _))))))).perm ?_
      exact List.Perm.append (List.perm_append_comm (l₁ := [_, _, _]) (l₂ := [_, _, _])) (List.perm_append_comm (l₁ := [_, _]) (l₂ := [_, _]))
    exact ⟨key _ _, key _ _⟩
theorem pick_r {k : Nat} {A B O T A' B' O' T' : Rm} (hp : Pick k A B O T) (hp' : Pick k A' B' O' T') (ho : O'.r = O.r) (ht : T'.r = T.r) : A'.r = A.r ∧ B'.r = B.r := by
  rcases hp with ⟨rfl, rfl, rfl⟩ | ⟨rfl, rfl, rfl⟩
  · rcases hp' with ⟨_, rfl, rfl⟩ | ⟨e, _, _⟩
    · exact ⟨ho, ht⟩
    · omega
  · rcases hp' with ⟨e, _, _⟩ | ⟨_, rfl, rfl⟩
    · omega
    · exact ⟨ht, ho⟩
theorem pick_ix {k : Nat} {A B O T : Rm} (hp : Pick k A B O T) : (#[p1 A.r, p1 B.r] : Array Value)[k]? = some (p1 O.r) := by
  rcases hp with ⟨rfl, rfl, rfl⟩ | ⟨rfl, rfl, rfl⟩ <;> rfl
theorem msr {k n : Nat} (h : k < n) : n - ((k + 1 : Nat) : Int).toNat < n - ((k : Nat) : Int).toNat := by omega
theorem cast1 (k : Nat) : (k : Int) + 1 = ((k + 1 : Nat) : Int) := rfl
theorem pick_ix2 {k : Nat} {A B O T : Rm} (hp : Pick k A B O T) : (#[p1 A.r, p1 B.r] : Array Value)[1 - k]? = some (p1 T.r) := by
  rcases hp with ⟨rfl, rfl, rfl⟩ | ⟨rfl, rfl, rfl⟩ <;> rfl
theorem nick_ix {q : Nat} (h : q < 3) : ∃ nk, (nk = annB ∨ nk = bobB ∨ nk = carB) ∧ (#[.string annB, .string bobB, .string carB] : Array Value)[q]? = some (.string nk) := by
  have : q = 0 ∨ q = 1 ∨ q = 2 := by omega
  rcases this with rfl | rfl | rfl
  · exact ⟨_, .inl rfl, rfl⟩
  · exact ⟨_, .inr (.inl rfl), rfl⟩
  · exact ⟨_, .inr (.inr rfl), rfl⟩
set_option maxRecDepth 100000 in
set_option maxHeartbeats 8000000 in
theorem chat_any (AA : Option Addr) (n c : Nat) (w : World) (hA : SaidIn w AA n) (hn : n ≤ 9223372036854775807) (hP : Pow w) (hB : Bnd w) :
    Calls Tryz.prog 3 #[.slice AA n c] w fun e w' => e = .returned (.bool true) ∧ Below w.heap.size w w' := by
  have hM := Mem.start [] w
  have HPW := Lib.hid (fun w' hb => hP.keep (w' := w') hb)
  have HBW := Lib.hid (fun w' hb => hB.keep (w' := w') hb)
  have HKN := Lib.hid Known_any
  have HNA := Lib.hid (fun w => new_any raB gaB [97] rfl (by decide) (by decide) (by decide) (by decide) w)
  have HNB := Lib.hid (fun w => new_any rbB gbB [98] rfl (by decide) (by decide) (by decide) (by decide) w)
  clear hP hB
  by_cases h60 : 60 < n
  · have n60 : (60 : Int) < (n : Int) := by omega
    clear hA hn
    go_enter Tryz.func3, Tryz.ntmps3
    go_wp2_with (first | ((with_reducible refine (HKN.out _ (HPW.out _ hM.below)).mono ?_); rintro e w1 ⟨rfl, hb⟩; replace hM := hM.step hb; clear hb) | ((with_reducible refine (HNA.out _).mono ?_); rintro e w1 ⟨gA, mA1, mA2, rfl, hA1⟩; replace hM := hM.frame hA1; clear hA1; simp only [List.cons_append, List.nil_append] at hM) | ((with_reducible refine (HNB.out _).mono ?_); rintro e w1 ⟨gB, mB1, mB2, rfl, hA1⟩; replace hM := hM.frame hA1; clear hA1; simp only [List.cons_append, List.nil_append] at hM) | ((with_reducible refine at_bslice ?_); refine gbs3 hM ?_; clear hM; intro gn w4 hM) | ((with_reducible refine at_box ?_); first | (refine nlb hM ?_ (cs := #[p1 gA, .string gaB, .slice none 0 0, .slice none 0 0]) (n := 4) (hty := row_room) (hn := rfl); clear hM; intro rA w2 hM) | (refine nlb hM ?_ (cs := #[p1 gB, .string gbB, .slice none 0 0, .slice none 0 0]) (n := 4) (hty := row_room) (hn := rfl); clear hM; intro rB w3 hM)) | ((with_reducible refine at_alloc ?_); refine nlz hM ?_ (hz := zero_rms); clear hM; intro ga w5 hM) | ((first | with_reducible refine at_load ?_ | ((with_reducible refine at_load_g ?_ ?_); (· rfl))); first | refine nll hM ?_ | refine nlc hM ?_ | refine nlp hM ?_) | ((with_reducible refine at_store ?_); first | (refine nlw hM ?_; clear hM; intro wx hM) | (refine nls hM ?_; clear hM; intro wx hM) | (refine nlt hM ?_; clear hM; intro wx hM)) | ((with_reducible refine at_alloc ?_); refine nlz hM ?_; clear hM; intro gx wx hM) | ((with_reducible refine at_box ?_); first | (refine nlb hM ?_; clear hM; intro gx wx hM) | (refine nlx hM ?_; clear hM; intro gx wx hM)))
    go_ret
    exact ⟨rfl, hM.below⟩
  · have n60 : (n : Int) ≤ 60 := by omega
    have n61 : n ≤ 60 := by omega
    have HA := Lib.hid hA
    clear hA h60 hn
    go_enter Tryz.func3, Tryz.ntmps3
    go_wp2_with (first | ((with_reducible refine (HKN.out _ (HPW.out _ hM.below)).mono ?_); rintro e w1 ⟨rfl, hb⟩; replace hM := hM.step hb; clear hb) | ((with_reducible refine (HNA.out _).mono ?_); rintro e w1 ⟨gA, mA1, mA2, rfl, hA1⟩; replace hM := hM.frame hA1; clear hA1; simp only [List.cons_append, List.nil_append] at hM) | ((with_reducible refine (HNB.out _).mono ?_); rintro e w1 ⟨gB, mB1, mB2, rfl, hA1⟩; replace hM := hM.frame hA1; clear hA1; simp only [List.cons_append, List.nil_append] at hM) | ((with_reducible refine at_bslice ?_); refine gbs3 hM ?_; clear hM; intro gn w4 hM) | ((with_reducible refine at_box ?_); first | (refine nlb hM ?_ (cs := #[p1 gA, .string gaB, .slice none 0 0, .slice none 0 0]) (n := 4) (hty := row_room) (hn := rfl); clear hM; intro rA w2 hM) | (refine nlb hM ?_ (cs := #[p1 gB, .string gbB, .slice none 0 0, .slice none 0 0]) (n := 4) (hty := row_room) (hn := rfl); clear hM; intro rB w3 hM)) | ((with_reducible refine at_alloc ?_); refine nlz hM ?_ (hz := zero_rms); clear hM; intro ga w5 hM) | ((first | with_reducible refine at_load ?_ | ((with_reducible refine at_load_g ?_ ?_); (· rfl))); first | refine nll hM ?_ | refine nlc hM ?_ | refine nlp hM ?_) | ((with_reducible refine at_store ?_); first | (refine nlw hM ?_; clear hM; intro wx hM) | (refine nls hM ?_; clear hM; intro wx hM) | (refine nlt hM ?_; clear hM; intro wx hM)) | ((with_reducible refine at_alloc ?_); refine nlz hM ?_; clear hM; intro gx wx hM) | ((with_reducible refine at_box ?_); first | (refine nlb hM ?_; clear hM; intro gx wx hM) | (refine nlx hM ?_; clear hM; intro gx wx hM)))
    have M0 := Lib.hid (Mem.gNil (Mem.gNil (Mem.gNil (Mem.gNil (Mem.gNil (Mem.gNil hM 37 3 lnF) 37 3 lnF) 37 3 lnF) 37 3 lnF) 37 3 lnF) 37 3 lnF)
    clear hM HKN HNA HNB
    refine wp_loop (fun a' w' => ∃ (i now made : Nat) (A B : Rm), Hid ((i ≤ n + 5 ∧ now ≤ 50 * i ∧ made ≤ 2 * i) ∧ RmOk A now made ∧ RmOk B now made ∧ Betw n i A B ∧ A.said.length ≤ i ∧ B.said.length ≤ i) ∧ Mem [] w (⟨gn, 9, 3, #[.string annB, .string bobB, .string carB]⟩ :: ⟨ga, 32, 2, #[p1 A.r, p1 B.r]⟩ :: ⟨B.r, 31, 4, #[p1 B.g, .string B.nk, B.S, B.P]⟩ :: ⟨A.r, 31, 4, #[p1 A.g, .string A.nk, A.S, A.P]⟩ :: ⟨B.g, 57, 7, gwA B.rm abB B.nk B.V ((B.last : Nat) : Int) B.mm B.mr⟩ :: ⟨A.g, 57, 7, gwA A.rm abB A.nk A.V ((A.last : Nat) : Int) A.mm A.mr⟩ :: []) (lT A.V A.ws :: lT A.S A.said :: lT A.P A.posts :: lT B.V B.ws :: lT B.S B.said :: lT B.P B.posts :: mapT B.mr B.pr :: mapT B.mm B.pm :: mapT A.mr A.pr :: mapT A.mm A.pm :: []) w' ∧ a'.defers = [] ∧ a'.tmps.size = 342 ∧ Keeps a'.tmps [(0, .slice AA n c), (7, p1 ga), (8, .slice (some ⟨gn, 0, none⟩) 3 3), (9, .int .i64 (now : Nat)), (10, .int .i64 (made : Nat)), (11, .int .i64 (i : Nat))]) (fun a' _ => n + 5 - (intOf (a'.tmps.getD 11 undef)).toNat) ?_ ?_
    · refine ⟨0, 0, 0, ⟨gA, rA, mA1, mA2, raB, gaB, .slice none 0 0, [], 0, .slice none 0 0, [], .slice none 0 0, [], fun _ => none, fun _ => none⟩, ⟨gB, rB, mB1, mB2, rbB, gbB, .slice none 0 0, [], 0, .slice none 0 0, [], .slice none 0 0, [], fun _ => none, fun _ => none⟩, Lib.hid ⟨by omega, ⟨rfl, (by intro l hl; cases hl), Nat.le_refl _, fun _ _ => ⟨rfl, rfl⟩, .inl rfl, .inl rfl⟩, ⟨rfl, (by intro l hl; cases hl), Nat.le_refl _, fun _ _ => ⟨rfl, rfl⟩, .inr rfl, .inr rfl⟩, ⟨fun _ => rfl, fun _ => rfl, Nat.zero_le _, Nat.zero_le _⟩, Nat.zero_le _, Nat.zero_le _⟩, M0.out, rfl, rfl, rfl, rfl, rfl, rfl, rfl, rfl, trivial⟩
    clear M0
    rintro a' wr ⟨i, now, made, A, B, hc, hM, hd1, hd2, hd3⟩
    obtain ⟨u, rfl⟩ := frA hd1 hd2 hd3
    clear hd1 hd2 hd3
    dsimp only
    have i0 : (0 : Int) ≤ (i : Int) := Int.natCast_nonneg _
    have w0' : (0 : Int) ≤ (now : Int) := Int.natCast_nonneg _
    have ma0 : (0 : Int) ≤ (made : Int) := Int.natCast_nonneg _
    by_cases hlt : i ≤ n + 4
    · have hlt' : (i : Int) ≤ (n : Int) + 4 := by omega
      have w1' : (now : Int) ≤ 4000 := by have := hc.out.1; omega
      have ma1 : (made : Int) ≤ 130 := by have := hc.out.1; omega
      go_upto_if 77 with fail
      refine wp_cut (fun a' w' => ∃ (now' : Nat) (A B : Rm), Hid (RmOk A now' made ∧ RmOk B now' made ∧ Turn 0 n i now' A B ∧ now' ≤ 50 * (i + 1) ∧ A.said.length ≤ i + 1 ∧ B.said.length ≤ i + 1) ∧ Mem [] w (⟨gn, 9, 3, #[.string annB, .string bobB, .string carB]⟩ :: ⟨ga, 32, 2, #[p1 A.r, p1 B.r]⟩ :: ⟨B.r, 31, 4, #[p1 B.g, .string B.nk, B.S, B.P]⟩ :: ⟨A.r, 31, 4, #[p1 A.g, .string A.nk, A.S, A.P]⟩ :: ⟨B.g, 57, 7, gwA B.rm abB B.nk B.V ((B.last : Nat) : Int) B.mm B.mr⟩ :: ⟨A.g, 57, 7, gwA A.rm abB A.nk A.V ((A.last : Nat) : Int) A.mm A.mr⟩ :: []) (lT A.V A.ws :: lT A.S A.said :: lT A.P A.posts :: lT B.V B.ws :: lT B.S B.said :: lT B.P B.posts :: mapT B.mr B.pr :: mapT B.mm B.pm :: mapT A.mr A.pr :: mapT A.mm A.pm :: []) w' ∧ a'.defers = [] ∧ a'.tmps.size = 342 ∧ Keeps a'.tmps [(0, .slice AA n c), (7, p1 ga), (8, .slice (some ⟨gn, 0, none⟩) 3 3), (9, .int .i64 (now' : Nat)), (10, .int .i64 (made : Nat)), (11, .int .i64 (i : Nat))]) ?_ ?_
      rotate_left
      · intro J K' hJ hK
        by_cases hin : i < n
        · have hin' : (i : Int) < (n : Int) := by omega
          obtain ⟨gL, oL, rfl, hgL, hcell⟩ := HA.out.ex (by omega)
          obtain ⟨rv, nv, wv, tx, hrv, hnv, hwv, e0, e1, e2, e3⟩ := hcell i hin
          have HE0 := Lib.hid (fun w' (hb : Below w.heap.size w w') => (hb.cell (p := ⟨gL, oL + i * 4, none⟩) hgL).trans e0)
          have HE1 := Lib.hid (fun w' (hb : Below w.heap.size w w') => (hb.cell (p := ⟨gL, oL + i * 4 + 1, none⟩) hgL).trans e1)
          have HE2 := Lib.hid (fun w' (hb : Below w.heap.size w w') => (hb.cell (p := ⟨gL, oL + i * 4 + 2, none⟩) hgL).trans e2)
          have HE3 := Lib.hid (fun w' (hb : Below w.heap.size w w') => (hb.cell (p := ⟨gL, oL + i * 4 + 3, none⟩) hgL).trans e3)
          clear hcell e0 e1 e2 e3 hgL
          obtain ⟨m, hm⟩ : ∃ m, tx.size = m := ⟨_, rfl⟩
          have m0 : (0 : Int) ≤ (m : Int) := Int.natCast_nonneg _
          by_cases hm1 : 100 < m
          · have hm1' : (100 : Int) < (m : Int) := by omega
            clear hrv hnv hwv
            go_wp2_with (first | ((with_reducible refine at_load ?_); refine nlo (HE3.out _ hM.below) ?_) | ((first | with_reducible refine at_load ?_ | ((with_reducible refine at_load_g ?_ ?_); (· rfl))); first | refine nll hM ?_ | refine nlc hM ?_ | refine nlp hM ?_) | ((with_reducible refine at_store ?_); first | (refine nlw hM ?_; clear hM; intro wx hM) | (refine nls hM ?_; clear hM; intro wx hM) | (refine nlt hM ?_; clear hM; intro wx hM)) | ((with_reducible refine at_alloc ?_); refine nlz hM ?_; clear hM; intro gx wx hM) | ((with_reducible refine at_box ?_); first | (refine nlb hM ?_; clear hM; intro gx wx hM) | (refine nlx hM ?_; clear hM; intro gx wx hM)))
            go_ret
            exact ⟨rfl, hM.below⟩
          · have hm1' : (m : Int) ≤ 100 := by omega
            obtain ⟨wq, hwq⟩ : ∃ wq, wv % 20 = wq := ⟨_, rfl⟩
            have eq1 : ((wv : Nat) : Int) % 20 = ((wq : Nat) : Int) := by omega
            have wv0 : (0 : Int) ≤ (wv : Int) := Int.natCast_nonneg _
            have wv1 : (wv : Int) ≤ 255 := by omega
            have wq0 : (0 : Int) ≤ (wq : Int) := Int.natCast_nonneg _
            have wq1 : (wq : Int) ≤ 19 := by omega
            obtain ⟨p, hp⟩ : ∃ p, rv % 2 = p := ⟨_, rfl⟩
            have eq2 : ((rv : Nat) : Int) % 2 = ((p : Nat) : Int) := by omega
            have rv0 : (0 : Int) ≤ (rv : Int) := Int.natCast_nonneg _
            have rv1 : (rv : Int) ≤ 255 := by omega
            have p0 : (0 : Int) ≤ (p : Int) := Int.natCast_nonneg _
            have p1' : (p : Int) < 2 := by omega
            have hp2 : p < 2 := by omega
            obtain ⟨O, T, hpk⟩ := pick_ex hp2 A B
            have HPK := Lib.hid hpk
            have HP2 := Lib.hid hp2
            have HIN := Lib.hid hin
            have HIX := Lib.hid (pick_ix hpk)
            obtain ⟨q, hq⟩ : ∃ q, nv % 3 = q := ⟨_, rfl⟩
            have hq3 : q < 3 := by omega
            obtain ⟨nkx, hnkx, hnki⟩ := nick_ix hq3
            have HNX := Lib.hid hnki
            have HNK := Lib.hid hnkx
            have HWB := Lib.hid (show now + wq ≤ 50 * (i + 1) by have := hc.out.1; omega)
            have hM2 := (pick_mem hpk).1 hM
            clear hM hpk hp hwq hrv hnv hwv hnkx hnki hm1 hp2
            have hM := hM2
            clear hM2
            go_upto_region 18 with (first | ((with_reducible refine at_load ?_); first | refine nlo (HE3.out _ hM.below) ?_ | refine nlo (HE2.out _ hM.below) ?_ | refine nlo (HE0.out _ hM.below) ?_ | refine nlc hM ?_ (hv := HIX.out)) | ((first | with_reducible refine at_load ?_ | ((with_reducible refine at_load_g ?_ ?_); (· rfl))); first | refine nll hM ?_ | refine nlc hM ?_ | refine nlp hM ?_) | ((with_reducible refine at_store ?_); first | (refine nlw hM ?_; clear hM; intro wx hM) | (refine nls hM ?_; clear hM; intro wx hM) | (refine nlt hM ?_; clear hM; intro wx hM)) | ((with_reducible refine at_alloc ?_); refine nlz hM ?_; clear hM; intro gx wx hM) | ((with_reducible refine at_box ?_); first | (refine nlb hM ?_; clear hM; intro gx wx hM) | (refine nlx hM ?_; clear hM; intro gx wx hM)))
            obtain ⟨nw, hnw⟩ : ∃ nw, now + wq = nw := ⟨_, rfl⟩
            rw [show (now : Int) + (wq : Int) = ((nw : Nat) : Int) by omega]
            rw [hnw] at HWB
            have HNW := Lib.hid (show now ≤ nw by omega)
            have w2' : (nw : Int) ≤ 5000 := by omega
            have w3' : (0 : Int) ≤ (nw : Int) := Int.natCast_nonneg _
            have eq3 : ((nv : Nat) : Int) % 3 = ((q : Nat) : Int) := by omega
            have eq4 : Int.tmod ((nv : Nat) : Int) 3 = ((q : Nat) : Int) := by rw [Int.tmod_eq_emod_of_nonneg (by omega)]; exact eq3
            have eq5 : IntKind.u8.wrap ((q : Nat) : Int) = ((q : Nat) : Int) := IntWalk.u8_in _ ⟨by omega, by omega⟩
            have q0 : (0 : Int) ≤ (q : Int) := Int.natCast_nonneg _
            have q3' : (q : Int) < 3 := by omega
            clear hnw eq1 eq2 wv0 wv1 wq0 wq1 rv0 rv1 w0' w1'
            clear hq
            refine wp_region_allHB hM (by kernel_rfl) ?_
            clear hM
            intro wd hM
            have HM0 := Lib.hid hM
            have hS := Below.refl wd.heap.size wd
            refine wpAllH_takes [0, 1, 2, 3, 4, 5, 10, 11, 12, 13] (by kernel_rfl) (fun _ _ _ _ _ h => h) hS (by kernel_rfl) ?_
            simp only [pickOps, List.filterMap_cons, List.filterMap_nil, List.getElem?_cons_zero, List.getElem?_cons_succ]
            repeat ((with_reducible apply wpHeld_step); (· rfl); (· (intro wq hSw; first | (go_simp; rfl) | (have hM' := HM0.out.step hSw; first | exact yields_load (C := fun _ => True) (nqc hM') rfl | exact yields_load (C := fun _ => True) (nql hM') rfl | exact yields_load (C := fun _ => True) (nqp hM') rfl | fail))); intro K hK; go_simp; (with_reducible refine hK _ ?_); clear hK K)
            refine wpHeld_nil ?_
            refine wpAllH_takes [6, 14] (by kernel_rfl) (fun _ _ _ _ _ h => h) hS (by kernel_rfl) ?_
            simp only [pickOps, List.filterMap_cons, List.filterMap_nil, List.getElem?_cons_zero, List.getElem?_cons_succ]
            repeat ((with_reducible apply wpHeld_step); (· rfl); (· (intro wq hSw; first | (go_simp; rfl) | (have hM' := HM0.out.step hSw; first | exact yields_load (C := fun _ => True) (nqc hM') rfl | exact yields_load (C := fun _ => True) (nql hM') rfl | exact yields_load (C := fun _ => True) (nqp hM') rfl | first | exact yields_load (C := fun _ => True) (nqo (HE1.out _ hM'.below)) rfl | exact yields_load (C := fun _ => True) (nqo (HE3.out _ hM'.below)) rfl))); intro K hK; go_simp; (with_reducible refine hK _ ?_); clear hK K)
            refine wpHeld_nil ?_
            refine wpAllH_takes [7, 8] (by kernel_rfl) (fun _ _ _ _ _ h => h) hS (by kernel_rfl) ?_
            simp only [pickOps, List.filterMap_cons, List.filterMap_nil, List.getElem?_cons_zero, List.getElem?_cons_succ]
            repeat ((with_reducible apply wpHeld_step); (· rfl); (· (intro wq hSw; first | (go_simp; rfl) | (have hM' := HM0.out.step hSw; first | exact yields_load (C := fun _ => True) (nqc hM') rfl | exact yields_load (C := fun _ => True) (nql hM') rfl | exact yields_load (C := fun _ => True) (nqp hM') rfl | fail))); intro K hK; go_simp; (with_reducible refine hK _ ?_); clear hK K)
            refine wpHeld_nil ?_
            refine wpAllH_takes [9] (by kernel_rfl) (fun _ _ _ _ _ h => h) hS (by kernel_rfl) ?_
            simp only [pickOps, List.filterMap_cons, List.filterMap_nil, List.getElem?_cons_zero, List.getElem?_cons_succ]
            repeat ((with_reducible apply wpHeld_step); (· rfl); (· (intro wq hSw; first | (go_simp; rfl) | (have hM' := HM0.out.step hSw; first | exact yields_load (C := fun _ => True) (nqc hM') rfl | exact yields_load (C := fun _ => True) (nql hM') rfl | exact yields_load (C := fun _ => True) (nqp hM') rfl | exact yields_load (C := fun _ => True) (nqc hM' (hv := HNX.out)) rfl))); intro K hK; go_simp; (with_reducible refine hK _ ?_); clear hK K)
            refine wpHeld_nil ?_
            refine wpAllH_takes [15] (by kernel_rfl) (fun _ _ _ _ _ h => h) hS (by kernel_rfl) ?_
            simp only [pickOps, List.filterMap_cons, List.filterMap_nil, List.getElem?_cons_zero, List.getElem?_cons_succ]
            repeat ((with_reducible apply wpHeld_step); (· rfl); (· (intro wq hSw; first | (go_simp; rfl) | (have hM' := HM0.out.step hSw; first | exact yields_load (C := fun _ => True) (nqc hM') rfl | exact yields_load (C := fun _ => True) (nql hM') rfl | exact yields_load (C := fun _ => True) (nqp hM') rfl | fail))); intro K hK; go_simp; (with_reducible refine hK _ ?_); clear hK K)
            refine wpHeld_nil ?_
            refine wpAllH_one 16 rfl (by kernel_rfl) ?_
            refine nlz (Mem.start [] wd) ?_
            intro gv wv hF
            refine wpList_then ⟨hF.below, ?_⟩
            refine wpAllH_one 17 rfl (by kernel_rfl) ?_
            refine nlw hF ?_
            clear hF
            intro wx hF
            refine wpList_then ⟨hF.below, ?_⟩
            replace hM := hM.frame hF
            simp only [List.cons_append, List.nil_append] at hM
            clear hS
            have hS := hF.below
            clear hF
            clear hS HM0
            refine wpAllH_done (by kernel_rfl) ?_
            have htx9 : tx.size ≤ 1000000000 := by omega
            have HLC := Lib.hid (fun w => lcheck_any (nw : Nat) nkx tx w htx9)
            obtain ⟨z, hz⟩ : ∃ z, chkL (nw : Nat) (nums nkx) (nums tx) = z := ⟨_, rfl⟩
            rw [hz] at HLC
            have hnk9 : nkx.size ≤ 1000000000 := by rcases HNK.out with h | h | h <;> rw [h] <;> decide
            by_cases hz0 : z = 0
            · subst hz0
              have hg : GoodL ⟨nw, nkx, tx⟩ := ⟨chkL_zero.1 hz, by show tx.size ≤ 100; omega⟩
              obtain ⟨h1, hA, hB, hS0, h2, h3⟩ := hc.out
              obtain ⟨hO, hT⟩ := (HPK.out.both (fun a => RmOk a now made)).1 ⟨hA, hB⟩
              obtain ⟨hwO, hwT⟩ := (HPK.out.both (fun a => a.ws.length ≤ 49)).1 ⟨hS0.fewA, hS0.fewB⟩
              obtain ⟨hsO, hsT⟩ := (HPK.out.both (fun a => a.said.length ≤ i)).1 ⟨h2, h3⟩
              have hon9 : O.nk.size ≤ 1000000000 := by have := (gate_ok hO.nm.2).2; omega
              have hle : O.last ≤ nw := by have := hO.last; have := HNW.out; omega
              have hlow := low_nick HNK.out hO.nm.2
              have hll : O.ws.length ≤ 1000 := by omega
              have HHY := Lib.hid (fun w' (hM : Mem [] w (⟨gv, 37, 3, #[.int .i64 (nw : Nat), .string nkx, .string tx]⟩ :: ⟨gn, 9, 3, #[.string annB, .string bobB, .string carB]⟩ :: ⟨ga, 32, 2, #[p1 A.r, p1 B.r]⟩ :: ⟨T.r, 31, 4, #[p1 T.g, .string T.nk, T.S, T.P]⟩ :: ⟨O.r, 31, 4, #[p1 O.g, .string O.nk, O.S, O.P]⟩ :: ⟨T.g, 57, 7, gwA T.rm abB T.nk T.V ((T.last : Nat) : Int) T.mm T.mr⟩ :: ⟨O.g, 57, 7, gwA O.rm abB O.nk O.V ((O.last : Nat) : Int) O.mm O.mr⟩ :: []) (lT O.V O.ws :: lT O.S O.said :: lT O.P O.posts :: lT T.V T.ws :: lT T.S T.said :: lT T.P T.posts :: mapT T.mr T.pr :: mapT T.mm T.pm :: mapT O.mr O.pr :: mapT O.mm O.pm :: []) w') => hear_yes O.g O.rm abB O.nk nkx tx O.V O.last nw O.mm O.mr O.ws hM (by repeat (first | exact UpdL.head _ _ _ _ _ | assumption | apply UpdL.tail)) (by repeat (first | exact UpdR.head _ _ | assumption | apply UpdR.tail)) htx9 hnk9 hon9 hz hle hlow hll)
              have HGD := Lib.hid (And.intro hg (And.intro hO (And.intro hT (And.intro hwO (And.intro hwT (And.intro hsO (And.intro hsT hin)))))))
              have hsl : O.said.length + 1 ≤ 1000000000 := by omega
              clear hg hA hB hO hT hwO hwT hsO hsT hS0 h1 h2 h3 hon9 hle hlow hll hz htx9 hnk9
              go_upto_region 20 with (first | ((with_reducible refine (HLC.out _).mono ?_); rintro e w7 ⟨rfl, hb⟩; replace hM := hM.step hb; clear hb) | ((first | with_reducible refine at_load ?_ | ((with_reducible refine at_load_g ?_ ?_); (· rfl))); first | refine nll hM ?_ | refine nlc hM ?_ | refine nlp hM ?_) | ((with_reducible refine at_store ?_); first | (refine nlw hM ?_; clear hM; intro wx hM) | (refine nls hM ?_; clear hM; intro wx hM) | (refine nlt hM ?_; clear hM; intro wx hM)) | ((with_reducible refine at_alloc ?_); refine nlz hM ?_; clear hM; intro gx wx hM) | ((with_reducible refine at_box ?_); first | (refine nlb hM ?_; clear hM; intro gx wx hM) | (refine nlx hM ?_; clear hM; intro gx wx hM)))
              refine wp_region_allN hM (by kernel_rfl) ?_
              clear hM
              intro wd hM
              refine wpAll_takes [0, 1, 2] (by kernel_rfl) (fun _ _ _ _ _ h => h) (by kernel_rfl) ?_
              simp only [pickOps, List.filterMap_cons, List.filterMap_nil, List.getElem?_cons_zero, List.getElem?_cons_succ]
              repeat ((with_reducible apply wpPure_step); (· rfl); (· (intro w; go_simp; rfl)); intro K hK; go_simp; (with_reducible refine hK _ ?_); clear hK K)
              refine wpPure_nil ?_
              refine wpAll_of_T (fun w' => Below wd.heap.size wd w') 5 ?_
              have hS := Below.refl wd.heap.size wd
              have HM0 := Lib.hid hM
              refine wpAllT_takes [3, 4] (by kernel_rfl) (fun _ _ _ _ _ h => h) hS (by kernel_rfl) ?_
              simp only [pickOps, List.filterMap_cons, List.filterMap_nil, List.getElem?_cons_zero, List.getElem?_cons_succ]
              repeat ((with_reducible apply wpHeld_step); (· rfl); (· (intro wq hSw; first | (go_simp; rfl) | (have hM' := HM0.out.step hSw; first | exact yields_load (C := fun _ => True) (nqc hM') rfl | exact yields_load (C := fun _ => True) (nql hM') rfl | exact yields_load (C := fun _ => True) (nqp hM') rfl | fail))); intro K hK; go_simp; (with_reducible refine hK _ ?_); clear hK K)
              refine wpHeld_nil ?_
              refine wpAllT_one 5 rfl (by kernel_rfl) ?_
              go_wp2_with fail
              refine (HHY.out _ hM).mono ?_
              rintro e w8 ⟨rfl, A2, N2, c2, hM1⟩
              go_wp2_with fail
              clear hM hS HM0 HHY
              have hM := hM1
              clear hM1
              refine then_normal ⟨.inl (by kernel_rfl), wpAllT_drop (by kernel_rfl) ?_⟩
              refine wpAll_takes [6] (by kernel_rfl) (fun _ _ _ _ _ h => h) (by kernel_rfl) ?_
              simp only [pickOps, List.filterMap_cons, List.filterMap_nil, List.getElem?_cons_zero, List.getElem?_cons_succ]
              repeat ((with_reducible apply wpPure_step); (· rfl); (· (intro w; go_simp; rfl)); intro K hK; go_simp; (with_reducible refine hK _ ?_); clear hK K)
              refine wpPure_nil ?_
              refine wpAll_done (by kernel_rfl) ?_
              go_upto_region 22 with (first | ((first | with_reducible refine at_load ?_ | ((with_reducible refine at_load_g ?_ ?_); (· rfl))); first | refine nll hM ?_ | refine nlc hM ?_ | refine nlp hM ?_) | ((with_reducible refine at_store ?_); first | (refine nlw hM ?_; clear hM; intro wx hM) | (refine nls hM ?_; clear hM; intro wx hM) | (refine nlt hM ?_; clear hM; intro wx hM)) | ((with_reducible refine at_alloc ?_); refine nlz hM ?_; clear hM; intro gx wx hM) | ((with_reducible refine at_box ?_); first | (refine nlb hM ?_; clear hM; intro gx wx hM) | (refine nlx hM ?_; clear hM; intro gx wx hM)))
              refine wp_region_allN hM (by kernel_rfl) ?_
              clear hM
              intro wd hM
              refine wpAll_takes [0, 1, 2, 3] (by kernel_rfl) (fun _ _ _ _ _ h => h) (by kernel_rfl) ?_
              simp only [pickOps, List.filterMap_cons, List.filterMap_nil, List.getElem?_cons_zero, List.getElem?_cons_succ]
              repeat ((with_reducible apply wpPure_step); (· rfl); (· (intro w; go_simp; rfl)); intro K hK; go_simp; (with_reducible refine hK _ ?_); clear hK K)
              refine wpPure_nil ?_
              refine wpAll_of_T (fun w' => Below wd.heap.size wd w') 7 ?_
              have hS := Below.refl wd.heap.size wd
              have HM0 := Lib.hid hM
              refine wpAllT_takes [4, 5] (by kernel_rfl) (fun _ _ _ _ _ h => h) hS (by kernel_rfl) ?_
              simp only [pickOps, List.filterMap_cons, List.filterMap_nil, List.getElem?_cons_zero, List.getElem?_cons_succ]
              repeat ((with_reducible apply wpHeld_step); (· rfl); (· (intro wq hSw; first | (go_simp; rfl) | (have hM' := HM0.out.step hSw; first | exact yields_load (C := fun _ => True) (nqc hM') rfl | exact yields_load (C := fun _ => True) (nql hM') rfl | exact yields_load (C := fun _ => True) (nqp hM') rfl | fail))); intro K hK; go_simp; (with_reducible refine hK _ ?_); clear hK K)
              refine wpHeld_nil ?_
              refine wpAllT_one 6 rfl (by kernel_rfl) ?_
              refine gbs (Mem.start [] _) rt_ln (cs := #[.int .i64 (nw : Nat), .string nkx, .string tx]) rfl rfl (by decide) ?_
              intro gb wb hF
              replace hM := hM.frame hF
              simp only [List.cons_append, List.nil_append] at hM
              replace hS := Below.step hS hF.below
              clear hF
              refine wpList_then ⟨.inr hS, ?_⟩
              refine wpAllT_one 7 rfl (by kernel_rfl) ?_
              refine gap (l := O.said) hM rt_ln (ent_src (x := ⟨nw, nkx, tx⟩) hM rt_ln rfl (List.Mem.head _)) hsl ?_
              clear hM hS HM0
              intro A3 N3 c3 wz HNN hM
              refine wpList_then ⟨.inl (by kernel_rfl), wpAllT_drop (by kernel_rfl) ?_⟩
              go_simp
              refine wpAll_seq [8, 9, 10] (by kernel_rfl) ?_
              simp only [pickOps, List.filterMap_cons, List.filterMap_nil, List.getElem?_cons_zero, List.getElem?_cons_succ]
              repeat (first | ((first | ((first | with_reducible refine at_load ?_ | ((with_reducible refine at_load_g ?_ ?_); (· rfl))); first | refine nll hM ?_ | refine nlc hM ?_ | refine nlp hM ?_) | ((with_reducible refine at_store ?_); first | (refine nlw hM ?_; clear hM; intro wx hM) | (refine nls hM ?_; clear hM; intro wx hM) | (refine nlt hM ?_; clear hM; intro wx hM)) | ((with_reducible refine at_alloc ?_); refine nlz hM ?_; clear hM; intro gx wx hM) | ((with_reducible refine at_box ?_); first | (refine nlb hM ?_; clear hM; intro gx wx hM) | (refine nlx hM ?_; clear hM; intro gx wx hM))); go_simp) | ((with_reducible apply wpList_pure); (· rfl); (· (go_simp; rfl)); go_simp))
              refine wpList_end ?_
              go_wp2_with fail
              obtain ⟨hg, hO, hT, hwO, hwT, hsO, hsT, hin⟩ := HGD.out
              obtain ⟨A', B', hpk'⟩ := pick_back HP2.out { O with V := .slice A2 N2 c2, ws := O.ws ++ [⟨nw, nkx, tx⟩], last := nw, S := .slice A3 N3 c3, said := O.said ++ [⟨nw, nkx, tx⟩] } T
              obtain ⟨hr1, hr2⟩ := pick_r HPK.out hpk' rfl rfl
              rw [← hr1, ← hr2] at hM
              obtain ⟨g1, g2⟩ := (hpk'.both (fun a => RmOk a nw made)).2 ⟨(hO.more HNW.out (Nat.le_refl _)).hear _ hg _ _, hT.more HNW.out (Nat.le_refl _)⟩
              obtain ⟨g3, g4⟩ := (hpk'.both (fun a => a.ws.length ≤ 50)).2 ⟨by simp only [List.length_append, List.length_cons, List.length_nil]; omega, by omega⟩
              obtain ⟨g5, g6⟩ := (hpk'.both (fun a => a.said.length ≤ i + 1)).2 ⟨by simp only [List.length_append, List.length_cons, List.length_nil]; omega, by omega⟩
              exact Met.intro (hJ _ _ ⟨nw, A', B', Lib.hid ⟨g1, g2, Turn.early hin g3 g4, HWB.out, g5, g6⟩, (pick_mem hpk').2 (hM.subL (by exact List.Sublist.cons _ (List.Sublist.cons _ (List.Sublist.refl _)))), rfl, rfl, rfl, rfl, rfl, rfl, rfl, rfl, trivial⟩)
            · have hzb : (z == 0) = false := by simpa using hz0
              have HHN := Lib.hid (fun w' (hM : Mem [] w (⟨gv, 37, 3, #[.int .i64 (nw : Nat), .string nkx, .string tx]⟩ :: ⟨gn, 9, 3, #[.string annB, .string bobB, .string carB]⟩ :: ⟨ga, 32, 2, #[p1 A.r, p1 B.r]⟩ :: ⟨T.r, 31, 4, #[p1 T.g, .string T.nk, T.S, T.P]⟩ :: ⟨O.r, 31, 4, #[p1 O.g, .string O.nk, O.S, O.P]⟩ :: ⟨T.g, 57, 7, gwA T.rm abB T.nk T.V ((T.last : Nat) : Int) T.mm T.mr⟩ :: ⟨O.g, 57, 7, gwA O.rm abB O.nk O.V ((O.last : Nat) : Int) O.mm O.mr⟩ :: []) (lT O.V O.ws :: lT O.S O.said :: lT O.P O.posts :: lT T.V T.ws :: lT T.S T.said :: lT T.P T.posts :: mapT T.mr T.pr :: mapT T.mm T.pm :: mapT O.mr O.pr :: mapT O.mm O.pm :: []) w') => hear_no O.g nkx tx (nw : Nat) hM htx9 (by rw [hz]; exact hz0))
              rw [hz] at HHN
              clear hz hz0
              go_upto_region 23 with (first | ((with_reducible refine (HLC.out _).mono ?_); rintro e w7 ⟨rfl, hb⟩; replace hM := hM.step hb; clear hb) | ((first | with_reducible refine at_load ?_ | ((with_reducible refine at_load_g ?_ ?_); (· rfl))); first | refine nll hM ?_ | refine nlc hM ?_ | refine nlp hM ?_) | ((with_reducible refine at_store ?_); first | (refine nlw hM ?_; clear hM; intro wx hM) | (refine nls hM ?_; clear hM; intro wx hM) | (refine nlt hM ?_; clear hM; intro wx hM)) | ((with_reducible refine at_alloc ?_); refine nlz hM ?_; clear hM; intro gx wx hM) | ((with_reducible refine at_box ?_); first | (refine nlb hM ?_; clear hM; intro gx wx hM) | (refine nlx hM ?_; clear hM; intro gx wx hM)))
              refine wp_region_allH (fun w' => Mem [] w (⟨gv, 37, 3, #[.int .i64 (nw : Nat), .string nkx, .string tx]⟩ :: ⟨gn, 9, 3, #[.string annB, .string bobB, .string carB]⟩ :: ⟨ga, 32, 2, #[p1 A.r, p1 B.r]⟩ :: ⟨T.r, 31, 4, #[p1 T.g, .string T.nk, T.S, T.P]⟩ :: ⟨O.r, 31, 4, #[p1 O.g, .string O.nk, O.S, O.P]⟩ :: ⟨T.g, 57, 7, gwA T.rm abB T.nk T.V ((T.last : Nat) : Int) T.mm T.mr⟩ :: ⟨O.g, 57, 7, gwA O.rm abB O.nk O.V ((O.last : Nat) : Int) O.mm O.mr⟩ :: []) (lT O.V O.ws :: lT O.S O.said :: lT O.P O.posts :: lT T.V T.ws :: lT T.S T.said :: lT T.P T.posts :: mapT T.mr T.pr :: mapT T.mm T.pm :: mapT O.mr O.pr :: mapT O.mm O.pm :: []) w') (by kernel_rfl) ?_
              replace hM := hM.drew
              generalize World.drew _ = wd at hM ⊢
              have hS := hM
              refine wpAllH_takes [0, 1, 2] (by kernel_rfl) (fun _ _ _ _ _ h => h) hS (by kernel_rfl) ?_
              simp only [pickOps, List.filterMap_cons, List.filterMap_nil, List.getElem?_cons_zero, List.getElem?_cons_succ]
              repeat ((with_reducible apply wpHeld_step); (· rfl); (· (intro w hSw; first | (go_simp; rfl) | (fail))); intro K hK; go_simp; (with_reducible refine hK _ ?_); clear hK K)
              refine wpHeld_nil ?_
              refine wpAllH_takes [3, 4, 6] (by kernel_rfl) (fun _ _ _ _ _ h => h) hS (by kernel_rfl) ?_
              simp only [pickOps, List.filterMap_cons, List.filterMap_nil, List.getElem?_cons_zero, List.getElem?_cons_succ]
              repeat ((with_reducible apply wpHeld_step); (· rfl); (· (intro w hSw; first | (go_simp; rfl) | (first | exact yields_load (C := fun _ => True) (nqc hSw) rfl | exact yields_load (C := fun _ => True) (nql hSw) rfl))); intro K hK; go_simp; (with_reducible refine hK _ ?_); clear hK K)
              refine wpHeld_nil ?_
              refine wpAllH_one 5 rfl (by kernel_rfl) ?_
              go_wp2_with fail
              refine (HHN.out _ hM).mono ?_
              rintro e w8 ⟨rfl, hM1⟩
              go_wp2_with fail
              clear hM hS HHN
              have hM := hM1
              have hS := hM1
              clear hM1
              refine then_normal ⟨hS, ?_⟩
              refine wpAllH_one 7 rfl (by kernel_rfl) ?_
              go_wp2_with fail
              refine (HLC.out _).mono ?_
              rintro e w8 ⟨rfl, hb⟩
              go_wp2_with fail
              replace hM := hM.step hb
              replace hS := hM
              refine then_normal ⟨hS, ?_⟩
              refine wpAllH_takes [8] (by kernel_rfl) (fun _ _ _ _ _ h => h) hS (by kernel_rfl) ?_
              simp only [pickOps, List.filterMap_cons, List.filterMap_nil, List.getElem?_cons_zero, List.getElem?_cons_succ]
              repeat ((with_reducible apply wpHeld_step); (· rfl); (· (intro w hSw; first | (go_simp; rfl) | (fail))); intro K hK; go_simp; (with_reducible refine hK _ ?_); clear hK K)
              refine wpHeld_nil ?_
              clear hS
              refine wpAllH_done (by kernel_rfl) ?_
              go_wp2_with fail
              obtain ⟨h1, hA, hB, hS0, h2, h3⟩ := hc.out
              exact Met.intro (hJ _ _ ⟨nw, A, B, Lib.hid ⟨hA.more HNW.out (Nat.le_refl _), hB.more HNW.out (Nat.le_refl _), Turn.early HIN.out (by have := hS0.fewA; omega) (by have := hS0.fewB; omega), HWB.out, by omega, by omega⟩, (pick_mem HPK.out).2 (hM.subL (List.sublist_cons_self _ _)), rfl, rfl, rfl, rfl, rfl, rfl, rfl, rfl, trivial⟩)
        · have hin' : ¬ (i : Int) < (n : Int) := by omega
          go_wp2_with fail
          obtain ⟨h1, hA, hB, hS, h2, h3⟩ := hc.out
          exact Met.intro (hJ _ _ ⟨now + 50, A, B, Lib.hid ⟨hA.more (by omega) (Nat.le_refl _), hB.more (by omega) (Nat.le_refl _), hS.late hA.last hB.last, by omega, by omega, by omega⟩, hM, rfl, rfl, rfl, rfl, rfl, rfl, rfl, rfl, trivial⟩)
      have HI := Lib.hid (show made ≤ 2 * i ∧ i ≤ n + 4 by have := hc.out.1; omega)
      clear hM hc w1' w0'
      rintro a' wc ⟨now', A, B, hc2, hM, hd1, hd2, hd3⟩
      obtain ⟨u', rfl⟩ := frA hd1 hd2 hd3
      clear hd1 hd2 hd3
      have HN := Lib.hid (show now' ≤ 3250 by have := hc2.out.2.2.2.1; omega)
      have n0' : (0 : Int) ≤ (now' : Int) := Int.natCast_nonneg _
      have n1' : (now' : Int) ≤ 3250 := by have := HN.out; omega
      have HN2 := Lib.hid hc2.out.2.2.2.1
      go_wp2_with fail
      have M0 := Lib.hid hM
      clear hM
      refine wp_loop (fun a' w' => ∃ (k made' : Nat) (A B : Rm), Hid ((k ≤ 2 ∧ made ≤ made' ∧ made' ≤ made + k) ∧ RmOk A now' made' ∧ RmOk B now' made' ∧ Turn k n i now' A B ∧ A.said.length ≤ i + 1 ∧ B.said.length ≤ i + 1) ∧ Mem [] w (⟨gn, 9, 3, #[.string annB, .string bobB, .string carB]⟩ :: ⟨ga, 32, 2, #[p1 A.r, p1 B.r]⟩ :: ⟨B.r, 31, 4, #[p1 B.g, .string B.nk, B.S, B.P]⟩ :: ⟨A.r, 31, 4, #[p1 A.g, .string A.nk, A.S, A.P]⟩ :: ⟨B.g, 57, 7, gwA B.rm abB B.nk B.V ((B.last : Nat) : Int) B.mm B.mr⟩ :: ⟨A.g, 57, 7, gwA A.rm abB A.nk A.V ((A.last : Nat) : Int) A.mm A.mr⟩ :: []) (lT A.V A.ws :: lT A.S A.said :: lT A.P A.posts :: lT B.V B.ws :: lT B.S B.said :: lT B.P B.posts :: mapT B.mr B.pr :: mapT B.mm B.pm :: mapT A.mr A.pr :: mapT A.mm A.pm :: []) w' ∧ a'.defers = [] ∧ a'.tmps.size = 342 ∧ Keeps a'.tmps [(0, .slice AA n c), (7, p1 ga), (8, .slice (some ⟨gn, 0, none⟩) 3 3), (9, .int .i64 (now' : Nat)), (10, .int .i64 (made' : Nat)), (11, .int .i64 (i : Nat)), (14, .int .i64 (k : Nat))]) (fun a' _ => 2 - (intOf (a'.tmps.getD 14 undef)).toNat) ?_ ?_
      · obtain ⟨g1, g2, g3, g4, g5, g6⟩ := hc2.out
        exact ⟨0, made, A, B, Lib.hid ⟨⟨by omega, Nat.le_refl _, Nat.le_refl _⟩, g1, g2, g3, g5, g6⟩, M0.out, rfl, rfl, rfl, rfl, rfl, rfl, rfl, rfl, rfl, trivial⟩
      clear M0 hc2 A B
      rintro a' wk ⟨k, made', A, B, hc, hM, hd1, hd2, hd3⟩
      obtain ⟨u2, rfl⟩ := frB hd1 hd2 hd3
      clear hd1 hd2 hd3
      dsimp only
      have k0 : (0 : Int) ≤ (k : Int) := Int.natCast_nonneg _
      by_cases hk2 : k < 2
      · have k1 : (k : Int) < 2 := by omega
        obtain ⟨O, T, hpk⟩ := pick_ex hk2 A B
        have HPK := Lib.hid hpk
        have HIX := Lib.hid (pick_ix hpk)
        have hM2 := (pick_mem hpk).1 hM
        clear hM
        obtain ⟨hm0, hA, hB, hTu, h2, h3⟩ := hc.out
        obtain ⟨hO, hT⟩ := (hpk.both (fun a => RmOk a now' made')).1 ⟨hA, hB⟩
        obtain ⟨hsO, hsT⟩ := (hpk.both (fun a => a.said.length ≤ i + 1)).1 ⟨h2, h3⟩
        obtain ⟨hwO, hwT⟩ := (hpk.both (fun a => a.ws.length ≤ 50)).1 ⟨hTu.fewA.1, hTu.fewB.1⟩
        obtain ⟨AV, cv, hV, hcv⟩ := gT_form (hM2.thing (lT O.V O.ws) (List.Mem.head _))
        have hM := hM2
        clear hM2
        rw [hV] at hM
        have hol : O.last ≤ 1000000000 := by have := hO.last; have := HN.out; omega
        by_cases hno : O.ws.length = 0 ∨ (O.ws.length < 50 ∧ now' < O.last + 10)
        · have HTN := Lib.hid (fun w' (hM : Mem [] w (⟨gn, 9, 3, #[.string annB, .string bobB, .string carB]⟩ :: ⟨ga, 32, 2, #[p1 A.r, p1 B.r]⟩ :: ⟨T.r, 31, 4, #[p1 T.g, .string T.nk, T.S, T.P]⟩ :: ⟨O.r, 31, 4, #[p1 O.g, .string O.nk, O.S, O.P]⟩ :: ⟨T.g, 57, 7, gwA T.rm abB T.nk T.V ((T.last : Nat) : Int) T.mm T.mr⟩ :: ⟨O.g, 57, 7, gwA O.rm abB O.nk (.slice AV O.ws.length cv) ((O.last : Nat) : Int) O.mm O.mr⟩ :: []) (lT (.slice AV O.ws.length cv) O.ws :: lT O.S O.said :: lT O.P O.posts :: lT T.V T.ws :: lT T.S T.said :: lT T.P T.posts :: mapT T.mr T.pr :: mapT T.mm T.pm :: mapT O.mr O.pr :: mapT O.mm O.pm :: []) w') => take_no O.g O.ws.length cv O.rm abB O.nk AV O.last now' O.mm O.mr hM (by repeat (first | exact List.Mem.head _ | assumption | apply List.Mem.tail)) hol (by omega) hno)
          have HNO := Lib.hid hno
          clear hno hm0 hA hB hTu hO hT hsO hsT hwO hwT h2 h3 hol hpk hcv
          go_wp2_with (first | ((with_reducible refine at_load ?_); first | refine nlc hM ?_ (hv := HIX.out)) | ((with_reducible refine (HTN.out _ hM).mono ?_); clear hM; rintro e w7 ⟨rfl, hM⟩) | ((first | with_reducible refine at_load ?_ | ((with_reducible refine at_load_g ?_ ?_); (· rfl))); first | refine nll hM ?_ | refine nlc hM ?_ | refine nlp hM ?_) | ((with_reducible refine at_store ?_); first | (refine nlw hM ?_; clear hM; intro wx hM) | (refine nls hM ?_; clear hM; intro wx hM) | (refine nlt hM ?_; clear hM; intro wx hM)) | ((with_reducible refine at_alloc ?_); refine nlz hM ?_; clear hM; intro gx wx hM) | ((with_reducible refine at_box ?_); first | (refine nlb hM ?_; clear hM; intro gx wx hM) | (refine nlx hM ?_; clear hM; intro gx wx hM)))
          rw [← hV] at hM
          rw [cast1 k]
          obtain ⟨hm0, hA, hB, hTu, h2, h3⟩ := hc.out
          refine ⟨⟨k + 1, made', A, B, Lib.hid ⟨by omega, hA, hB, hTu.no HPK.out ?_, h2, h3⟩, (pick_mem HPK.out).2 hM, (by first | exact ⟨rfl, rfl, rfl, rfl, rfl, rfl, rfl, rfl, rfl, trivial⟩ | exact ⟨trivial, rfl, rfl, rfl, rfl, rfl, rfl, rfl, rfl, trivial⟩ | exact ⟨rfl, rfl, rfl, rfl, rfl, rfl, rfl, trivial⟩)⟩, ?_⟩
          · rcases HNO.out with h | h
            · exact .inl (List.eq_nil_of_length_eq_zero h)
            · exact .inr h
          · exact msr hk2
        ·
          have hn0 : 0 < O.ws.length := by omega
          have hyes : O.ws.length = 50 ∨ O.last + 10 ≤ now' := by omega
          have hls : ∀ l ∈ O.ws, l.m ≤ 1000000000 ∧ l.nick.size ≤ 1000 ∧ l.text.size ≤ 1000 := fun l hl => (hO.good l hl).sz
          have hrm : O.rm.size ≤ 1000 := by rcases hO.nm.1 with h | h <;> rw [h] <;> decide
          obtain ⟨bd, hbd⟩ : ∃ bd, bstr (bodyL O.ws) = bd := ⟨_, rfl⟩
          have hbn : nums bd = bodyL O.ws := by rw [← hbd]; exact nums_bstr (bodyL_bytes _)
          have hbs : bd.size ≤ 1000000 := by have := bodyL_len hls; rw [← hbn, nums_length] at this; omega
          have HTY := Lib.hid (fun w' (hM : Mem [] w (⟨gn, 9, 3, #[.string annB, .string bobB, .string carB]⟩ :: ⟨ga, 32, 2, #[p1 A.r, p1 B.r]⟩ :: ⟨T.r, 31, 4, #[p1 T.g, .string T.nk, T.S, T.P]⟩ :: ⟨O.r, 31, 4, #[p1 O.g, .string O.nk, O.S, O.P]⟩ :: ⟨T.g, 57, 7, gwA T.rm abB T.nk T.V ((T.last : Nat) : Int) T.mm T.mr⟩ :: ⟨O.g, 57, 7, gwA O.rm abB O.nk (.slice AV O.ws.length cv) ((O.last : Nat) : Int) O.mm O.mr⟩ :: []) (lT (.slice AV O.ws.length cv) O.ws :: lT O.S O.said :: lT O.P O.posts :: lT T.V T.ws :: lT T.S T.said :: lT T.P T.posts :: mapT T.mr T.pr :: mapT T.mm T.pm :: mapT O.mr O.pr :: mapT O.mm O.pm :: []) w') => take_yes O.g O.ws.length cv O.rm abB O.nk AV O.last now' O.mm O.mr O.ws hM (HPW.out _ (Below.refl _ _)) (by repeat (first | exact UpdL.head _ _ _ _ _ | assumption | apply UpdL.tail)) (by repeat (first | exact UpdR.head _ _ | assumption | apply UpdR.tail)) hol (by omega) hn0 hyes hls hrm)
          rw [hbd] at HTY
          have HLI := Lib.hid (fun w' => lines_any bd O.ws hbn (fun l hl => (hO.good l hl).ok) (by omega) w')
          have HB := Lib.hid (And.intro hbn hbs)
          have HNO := Lib.hid (show 0 < O.ws.length ∧ O.ws.length ≤ 50 from ⟨hn0, hwO⟩)
          clear hno hm0 hA hB hTu hO hT hsO hsT hwO hwT h2 h3 hol hpk hcv hn0 hyes hls hrm hbd hbn hbs
          go_upto_region 33 with (first | ((with_reducible refine at_load ?_); first | refine nlc hM ?_ (hv := HIX.out)) | ((with_reducible refine (HTY.out _ hM).mono ?_); clear hM; rintro e w7 ⟨sj, sm, A2, c2, hsm, hsj, rfl, hM⟩) | ((with_reducible refine (HLI.out _).mono ?_); rintro e w7 ⟨A3, n3, c3, rfl, hb⟩; replace hM := hM.newThing hb; clear hb) | ((first | with_reducible refine at_load ?_ | ((with_reducible refine at_load_g ?_ ?_); (· rfl))); first | refine nll hM ?_ | refine nlc hM ?_ | refine nlp hM ?_) | ((with_reducible refine at_store ?_); first | (refine nlw hM ?_; clear hM; intro wx hM) | (refine nls hM ?_; clear hM; intro wx hM) | (refine nlt hM ?_; clear hM; intro wx hM)) | ((with_reducible refine at_alloc ?_); refine nlz hM ?_; clear hM; intro gx wx hM) | ((with_reducible refine at_box ?_); first | (refine nlb hM ?_; clear hM; intro gx wx hM) | (refine nlx hM ?_; clear hM; intro gx wx hM)))
          obtain ⟨j, hj⟩ : ∃ j, made' + 1 = j := ⟨_, rfl⟩
          rw [show (made' : Int) + 1 = ((j : Nat) : Int) by omega]
          have hj9 : j ≤ 131 := by have := hc.out.1; have := HI.out; omega
          have j0 : (0 : Int) ≤ (j : Int) := Int.natCast_nonneg _
          have j1 : (j : Int) ≤ 131 := by omega
          have eqj : RowKit.wrap64 ((j : Nat) : Int) = ((j : Nat) : Int) := IntWalk.wrap64_in _ ⟨by omega, by omega⟩
          have eqj2 : ((j : Nat) : Int) % 256 = ((j : Nat) : Int) := by omega
          have HJ := Lib.hid (And.intro hj hj9)
          have HK2 := Lib.hid (show k + 1 ≤ 2 ∧ made ≤ j ∧ j ≤ made + (k + 1) by have := hc.out.1; omega)
          have HSJ := Lib.hid (And.intro hsm hsj)
          clear hj hj9 hsm hsj HTY HLI
          go_upto_region 34 with (first | ((with_reducible refine at_build ?_); refine nb_id ?_) | ((with_reducible refine at_alloc ?_); refine nlz hM ?_ (hz := zero_id); clear hM; intro gi w8 hM) | ((with_reducible refine at_store ?_); refine nlw (n := 32) hM ?_ (hs := stC_size _ _) (h1 := stC_one rfl); clear hM; intro w9 hM) | ((first | with_reducible refine at_load ?_ | ((with_reducible refine at_load_g ?_ ?_); (· rfl))); first | refine nll hM ?_ | refine nlc hM ?_ | refine nlp hM ?_) | ((with_reducible refine at_store ?_); first | (refine nlw hM ?_; clear hM; intro wx hM) | (refine nls hM ?_; clear hM; intro wx hM) | (refine nlt hM ?_; clear hM; intro wx hM)) | ((with_reducible refine at_alloc ?_); refine nlz hM ?_; clear hM; intro gx wx hM) | ((with_reducible refine at_box ?_); first | (refine nlb hM ?_; clear hM; intro gx wx hM) | (refine nlx hM ?_; clear hM; intro gx wx hM)))
          have HPT := Lib.hid (fun w' (hM : Mem [] w (⟨gi, 45, 32, stC j []⟩ :: ⟨gn, 9, 3, #[.string annB, .string bobB, .string carB]⟩ :: ⟨ga, 32, 2, #[p1 A.r, p1 B.r]⟩ :: ⟨T.r, 31, 4, #[p1 T.g, .string T.nk, T.S, T.P]⟩ :: ⟨O.r, 31, 4, #[p1 O.g, .string O.nk, O.S, O.P]⟩ :: ⟨T.g, 57, 7, gwA T.rm abB T.nk T.V ((T.last : Nat) : Int) T.mm T.mr⟩ :: ⟨O.g, 57, 7, gwA O.rm abB O.nk (.slice A2 0 c2) ((O.last : Nat) : Int) O.mm O.mr⟩ :: []) (lT (.slice A3 n3 c3) O.ws :: lT (.slice A2 0 c2) [] :: lT O.S O.said :: lT O.P O.posts :: lT T.V T.ws :: lT T.S T.said :: lT T.P T.posts :: mapT T.mr T.pr :: mapT T.mm T.pm :: mapT O.mr O.pr :: mapT O.mm O.pm :: []) w') => posted_any O.g j O.rm abB O.nk (.slice A2 0 c2) O.last O.mm O.mr O.pm hM (by repeat (first | exact List.Mem.head _ | assumption | apply List.Mem.tail)) (by repeat (first | exact UpdR.head _ _ | assumption | apply UpdR.tail)) (by have := HJ.out.2; omega) (by
            obtain ⟨_, hA, hB, _⟩ := hc.out
            exact (((HPK.out.both (fun a => RmOk a now' made')).1 ⟨hA, hB⟩).1.ids j (by have := HJ.out.1; omega)).1))
          refine wp_region_allN hM (by kernel_rfl) ?_
          clear hM
          intro wd hM
          refine wpAll_takes [0, 1, 2] (by kernel_rfl) (fun _ _ _ _ _ h => h) (by kernel_rfl) ?_
          simp only [pickOps, List.filterMap_cons, List.filterMap_nil, List.getElem?_cons_zero, List.getElem?_cons_succ]
          repeat ((with_reducible apply wpPure_step); (· rfl); (· (intro w; go_simp; rfl)); intro K hK; go_simp; (with_reducible refine hK _ ?_); clear hK K)
          refine wpPure_nil ?_
          refine wpAll_of_T (fun w' => Below wd.heap.size wd w') 10 ?_
          have hS := Below.refl wd.heap.size wd
          have HM0 := Lib.hid hM
          refine wpAllT_takes [3, 4, 5, 6, 7, 8, 9] (by kernel_rfl) (fun _ _ _ _ _ h => h) hS (by kernel_rfl) ?_
          simp only [pickOps, List.filterMap_cons, List.filterMap_nil, List.getElem?_cons_zero, List.getElem?_cons_succ]
          repeat (first | ((with_reducible apply wpHeld_stepG); (· rfl); (· (intro wq hSw; first | (go_simp; rfl) | (have hM' := HM0.out.step hSw; first | exact yields_load (C := fun _ => True) (nqc hM') rfl | exact yields_load (C := fun _ => True) (nql hM') rfl | exact yields_load (C := fun _ => True) (nqp hM') rfl | exact yields_load (C := fun _ => True) (nqc hM' (hv := HIX.out)) rfl))); intro K hK; go_simp; (with_reducible refine hK _ ?_); clear hK K) | ((with_reducible apply wpHeld_stepU); (· rfl); intro K hK; go_simp; (with_reducible refine hK _ ?_); clear hK K))
          refine wpHeld_nil ?_
          refine wpAllT_one 10 rfl (by kernel_rfl) ?_
          refine wpList_wanted rfl ?_
          go_wp2_with fail
          refine (HPT.out _ hM).mono ?_
          rintro e w10 ⟨rfl, hM1⟩
          go_wp2_with fail
          clear hM hS HM0 HPT
          have hM := hM1
          clear hM1
          refine then_normal ⟨.inl (by kernel_rfl), wpAllT_drop (by kernel_rfl) ?_⟩
          refine wpAll_takes [11, 12] (by kernel_rfl) (fun _ _ _ _ _ h => h) (by kernel_rfl) ?_
          simp only [pickOps, List.filterMap_cons, List.filterMap_nil, List.getElem?_cons_zero, List.getElem?_cons_succ]
          repeat (first | ((with_reducible apply wpPure_step); (· rfl); (· (intro w; go_simp; rfl)); intro K hK; go_simp; (with_reducible refine hK _ ?_); clear hK K) | ((with_reducible apply wpPure_stepG); (· rfl); (· (intro w; go_simp; rfl)); intro K hK; go_simp; (with_reducible refine hK _ ?_); clear hK K))
          refine wpPure_nil ?_
          refine wpAll_done (by kernel_rfl) ?_
          go_upto_region 36 with (first | ((first | with_reducible refine at_load ?_ | ((with_reducible refine at_load_g ?_ ?_); (· rfl))); first | refine nll hM ?_ | refine nlc hM ?_ | refine nlp hM ?_) | ((with_reducible refine at_store ?_); first | (refine nlw hM ?_; clear hM; intro wx hM) | (refine nls hM ?_; clear hM; intro wx hM) | (refine nlt hM ?_; clear hM; intro wx hM)) | ((with_reducible refine at_alloc ?_); refine nlz hM ?_; clear hM; intro gx wx hM) | ((with_reducible refine at_box ?_); first | (refine nlb hM ?_; clear hM; intro gx wx hM) | (refine nlx hM ?_; clear hM; intro gx wx hM)))
          have hsl : O.posts.length + n3 ≤ 1000000000 := by
            obtain ⟨_, hA, hB, _, h2, h3⟩ := hc.out
            have h4 := ((HPK.out.both (fun a => RmOk a now' made')).1 ⟨hA, hB⟩).1.eq
            have h5 := ((HPK.out.both (fun a => a.said.length ≤ i + 1)).1 ⟨h2, h3⟩).1
            have h6 := (gT_len (hM.thing (lT (.slice A3 n3 c3) O.ws) (List.Mem.head _))).1
            have h7 := HNO.out.2
            rw [h4, List.length_append] at h5
            omega
          refine wp_region_allN hM (by kernel_rfl) ?_
          clear hM
          intro wd hM
          refine wpAll_takes [0, 1, 3, 4, 9] (by kernel_rfl) (fun _ _ _ _ _ h => h) (by kernel_rfl) ?_
          simp only [pickOps, List.filterMap_cons, List.filterMap_nil, List.getElem?_cons_zero, List.getElem?_cons_succ]
          repeat ((with_reducible apply wpPure_step); (· rfl); (· (intro w; go_simp; rfl)); intro K hK; go_simp; (with_reducible refine hK _ ?_); clear hK K)
          refine wpPure_nil ?_
          have hS : wd.cell? ⟨ga, k, none⟩ = some (p1 O.r) ∧ wd.cell? ⟨O.r, 3, none⟩ = some O.P := ⟨((hM.blk (b := ⟨ga, 32, 2, #[p1 A.r, p1 B.r]⟩) (by repeat (first | exact List.Mem.head _ | assumption | apply List.Mem.tail))).cell k).trans HIX.out, ((hM.blk (b := ⟨O.r, 31, 4, #[p1 O.g, .string O.nk, O.S, O.P]⟩) (by repeat (first | exact List.Mem.head _ | assumption | apply List.Mem.tail))).cell 3).trans rfl⟩
          refine wpAll_of_T (fun w' => w'.cell? ⟨ga, k, none⟩ = some (p1 O.r) ∧ w'.cell? ⟨O.r, 3, none⟩ = some O.P) 13 ?_
          refine wpAllT_takes [2, 5, 6, 7, 8] (by kernel_rfl) (fun _ _ _ _ _ h => h) hS (by kernel_rfl) ?_
          simp only [pickOps, List.filterMap_cons, List.filterMap_nil, List.getElem?_cons_zero, List.getElem?_cons_succ]
          repeat ((with_reducible apply wpHeld_step); (· rfl); (· (intro wq hSw; first | (go_simp; rfl) | (first | exact yields_load (C := fun _ => True) (nqo hSw.1) rfl | exact yields_load (C := fun _ => True) (nqo hSw.2) rfl))); intro K hK; go_simp; (with_reducible refine hK _ ?_); clear hK K)
          refine wpHeld_nil ?_
          refine wpAllT_one 10 rfl (by kernel_rfl) ?_
          refine gap (l := O.posts) hM rt_ln (gT_src cf_ln (hM.thing (lT (.slice A3 n3 c3) O.ws) (List.Mem.head _)) rt_ln.u) hsl ?_
          clear hM hS
          intro A4 N4 c4 wz HNN hM
          have hS : wz.cell? ⟨ga, k, none⟩ = some (p1 O.r) ∧ wz.cell? ⟨O.r, 3, none⟩ = some O.P := ⟨((hM.blk (b := ⟨ga, 32, 2, #[p1 A.r, p1 B.r]⟩) (by repeat (first | exact List.Mem.head _ | assumption | apply List.Mem.tail))).cell k).trans HIX.out, ((hM.blk (b := ⟨O.r, 31, 4, #[p1 O.g, .string O.nk, O.S, O.P]⟩) (by repeat (first | exact List.Mem.head _ | assumption | apply List.Mem.tail))).cell 3).trans rfl⟩
          refine wpList_then ⟨.inr hS, ?_⟩
          refine wpAllT_takes [11, 12] (by kernel_rfl) (fun _ _ _ _ _ h => h) hS (by kernel_rfl) ?_
          simp only [pickOps, List.filterMap_cons, List.filterMap_nil, List.getElem?_cons_zero, List.getElem?_cons_succ]
          repeat ((with_reducible apply wpHeld_step); (· rfl); (· (intro wq hSw; first | (go_simp; rfl) | (fail))); intro K hK; go_simp; (with_reducible refine hK _ ?_); clear hK K)
          refine wpHeld_nil ?_
          refine wpAllT_one 13 rfl (by kernel_rfl) ?_
          refine nls hM ?_
          clear hM hS
          intro wx hM
          refine wpList_then ⟨.inl (by kernel_rfl), wpAllT_drop (by kernel_rfl) (wpAll_done (by kernel_rfl) ?_)⟩
          go_upto_region 38 with (first | ((with_reducible refine at_build ?_); refine nb_post ?_) | ((with_reducible refine at_alloc ?_); refine nlz hM ?_ (hz := zero_post); clear hM; intro gp w11 hM) | ((with_reducible refine at_store ?_); refine nlw (n := 36) hM ?_ (hs := stC_size _ _) (h1 := stC_one rfl); clear hM; intro w12 hM) | ((first | with_reducible refine at_load ?_ | ((with_reducible refine at_load_g ?_ ?_); (· rfl))); first | refine nll hM ?_ | refine nlc hM ?_ | refine nlp hM ?_) | ((with_reducible refine at_store ?_); first | (refine nlw hM ?_; clear hM; intro wx hM) | (refine nls hM ?_; clear hM; intro wx hM) | (refine nlt hM ?_; clear hM; intro wx hM)) | ((with_reducible refine at_alloc ?_); refine nlz hM ?_; clear hM; intro gx wx hM) | ((with_reducible refine at_box ?_); first | (refine nlb hM ?_; clear hM; intro gx wx hM) | (refine nlx hM ?_; clear hM; intro gx wx hM)))
          obtain ⟨_, hA, hB, _⟩ := hc.out
          obtain ⟨hO, hT⟩ := (HPK.out.both (fun a => RmOk a now' made')).1 ⟨hA, hB⟩
          have HRO := Lib.hid (fun w' (hM : Mem [] w (⟨gp, 48, 36, stC j [.string gateB, .string sj, .string bd, .int .i64 (now' : Nat)]⟩ :: ⟨gi, 45, 32, stC j []⟩ :: ⟨gn, 9, 3, #[.string annB, .string bobB, .string carB]⟩ :: ⟨ga, 32, 2, #[p1 A.r, p1 B.r]⟩ :: ⟨T.r, 31, 4, #[p1 T.g, .string T.nk, T.S, T.P]⟩ :: ⟨O.r, 31, 4, #[p1 O.g, .string O.nk, O.S, (.slice A4 N4 c4)]⟩ :: ⟨T.g, 57, 7, gwA T.rm abB T.nk T.V ((T.last : Nat) : Int) T.mm T.mr⟩ :: ⟨O.g, 57, 7, gwA O.rm abB O.nk (.slice A2 0 c2) ((O.last : Nat) : Int) O.mm O.mr⟩ :: []) (lT (.slice A3 n3 c3) O.ws :: lT (.slice A2 0 c2) [] :: lT O.S O.said :: lT (.slice A4 N4 c4) (O.posts ++ O.ws) :: lT T.V T.ws :: lT T.S T.said :: lT T.P T.posts :: mapT T.mr T.pr :: mapT T.mm T.pm :: mapT O.mr O.pr :: mapT O.mm (updM O.pm j (some (.bool true))) :: []) w') => read_own O.g j O.rm abB O.nk gateB sj bd (.slice A2 0 c2) O.last O.mm O.mr now' (updM O.pm j (some (.bool true))) O.pr hM (by repeat (first | exact List.Mem.head _ | assumption | apply List.Mem.tail)) (by repeat (first | exact UpdR.head _ _ | assumption | apply UpdR.tail)) (by repeat (first | exact List.Mem.head _ | assumption | apply List.Mem.tail)) (by have := HJ.out.2; omega) (hO.ids j (by have := HJ.out.1; omega)).2 (if_pos rfl) (by have := HN.out; omega))
          obtain ⟨t, ht1, ht2, ht3⟩ := head_text hO.nm.1 HSJ.out.1 HSJ.out.2
          have HRT := Lib.hid (fun w' (hM : Mem [] w (⟨gp, 48, 36, stC j [.string gateB, .string sj, .string bd, .int .i64 (now' : Nat)]⟩ :: ⟨gi, 45, 32, stC j []⟩ :: ⟨gn, 9, 3, #[.string annB, .string bobB, .string carB]⟩ :: ⟨ga, 32, 2, #[p1 A.r, p1 B.r]⟩ :: ⟨T.r, 31, 4, #[p1 T.g, .string T.nk, T.S, T.P]⟩ :: ⟨O.r, 31, 4, #[p1 O.g, .string O.nk, O.S, (.slice A4 N4 c4)]⟩ :: ⟨T.g, 57, 7, gwA T.rm abB T.nk T.V ((T.last : Nat) : Int) T.mm T.mr⟩ :: ⟨O.g, 57, 7, gwA O.rm abB O.nk (.slice A2 0 c2) ((O.last : Nat) : Int) O.mm O.mr⟩ :: []) (lT (.slice A3 n3 c3) O.ws :: lT (.slice A2 0 c2) [] :: lT O.S O.said :: lT (.slice A4 N4 c4) (O.posts ++ O.ws) :: lT T.V T.ws :: lT T.S T.said :: lT T.P T.posts :: mapT T.mr T.pr :: mapT T.mm T.pm :: mapT O.mr (updM O.pr j (some (.bool true))) :: mapT O.mm (updM O.pm j (some (.bool true))) :: []) w') => read_other T.g j T.rm abB T.nk gateB sj bd T.V T.last T.mm T.mr now' T.pm T.pr O.ws 103 t hM (HBW.out _ (Below.refl _ _)) (HPW.out _ (Below.refl _ _)) (by repeat (first | exact List.Mem.head _ | assumption | apply List.Mem.tail)) (by repeat (first | exact UpdR.head _ _ | assumption | apply UpdR.tail)) (by repeat (first | exact List.Mem.head _ | assumption | apply List.Mem.tail)) (by have := HJ.out.2; omega) (hT.ids j (by have := HJ.out.1; omega)).2 (hT.ids j (by have := HJ.out.1; omega)).1 (by have := HN.out; omega) HB.out.1 (fun l hl => (hO.good l hl).ok) (fun l hl => (hO.good l hl).prl) HNO.out.2 ht1 (by decide) ht2 ht3 (by have := HB.out.2; omega))
          clear ht1 ht2 ht3 t hA hB hO hT
          refine wp_region_allN hM (by kernel_rfl) ?_
          clear hM
          intro wd hM
          refine wpAll_takes [0, 1] (by kernel_rfl) (fun _ _ _ _ _ h => h) (by kernel_rfl) ?_
          simp only [pickOps, List.filterMap_cons, List.filterMap_nil, List.getElem?_cons_zero, List.getElem?_cons_succ]
          repeat ((with_reducible apply wpPure_step); (· rfl); (· (intro w; go_simp; rfl)); intro K hK; go_simp; (with_reducible refine hK _ ?_); clear hK K)
          refine wpPure_nil ?_
          refine wpAll_of_T (fun w' => Below wd.heap.size wd w') 7 ?_
          have hS := Below.refl wd.heap.size wd
          have HM0 := Lib.hid hM
          refine wpAllT_takes [2, 3, 4, 5, 6] (by kernel_rfl) (fun _ _ _ _ _ h => h) hS (by kernel_rfl) ?_
          simp only [pickOps, List.filterMap_cons, List.filterMap_nil, List.getElem?_cons_zero, List.getElem?_cons_succ]
          repeat ((with_reducible apply wpHeld_step); (· rfl); (· (intro wq hSw; first | (go_simp; rfl) | (have hM' := HM0.out.step hSw; first | exact yields_load (C := fun _ => True) (nqc hM') rfl | exact yields_load (C := fun _ => True) (nql hM') rfl | exact yields_load (C := fun _ => True) (nqp hM') rfl | exact yields_load (C := fun _ => True) (nqc hM' (hv := HIX.out)) rfl))); intro K hK; go_simp; (with_reducible refine hK _ ?_); clear hK K)
          refine wpHeld_nil ?_
          refine wpAllT_one 7 rfl (by kernel_rfl) ?_
          go_wp2_with fail
          refine (HRO.out _ hM).mono ?_
          rintro e w13 ⟨rfl, hM1⟩
          go_wp2_with fail
          clear hM hS HM0 HRO
          have hM := hM1
          clear hM1
          refine then_normal ⟨.inl (by kernel_rfl), wpAllT_drop (by kernel_rfl) ?_⟩
          refine wpAll_takes [8, 9, 10, 11, 12] (by kernel_rfl) (fun _ _ _ _ _ h => h) (by kernel_rfl) ?_
          simp only [pickOps, List.filterMap_cons, List.filterMap_nil, List.getElem?_cons_zero, List.getElem?_cons_succ]
          repeat ((with_reducible apply wpPure_step); (· rfl); (· (intro w; go_simp; rfl)); intro K hK; go_simp; (with_reducible refine hK _ ?_); clear hK K)
          refine wpPure_nil ?_
          refine wpAll_done (by kernel_rfl) ?_
          go_upto_region 39 with (first | ((first | with_reducible refine at_load ?_ | ((with_reducible refine at_load_g ?_ ?_); (· rfl))); first | refine nll hM ?_ | refine nlc hM ?_ | refine nlp hM ?_) | ((with_reducible refine at_store ?_); first | (refine nlw hM ?_; clear hM; intro wx hM) | (refine nls hM ?_; clear hM; intro wx hM) | (refine nlt hM ?_; clear hM; intro wx hM)) | ((with_reducible refine at_alloc ?_); refine nlz hM ?_; clear hM; intro gx wx hM) | ((with_reducible refine at_box ?_); first | (refine nlb hM ?_; clear hM; intro gx wx hM) | (refine nlx hM ?_; clear hM; intro gx wx hM)))
          obtain ⟨q, hq⟩ : ∃ q, 1 - k = q := ⟨_, rfl⟩
          have HIQ := Lib.hid (pick_ix2 HPK.out)
          rw [hq] at HIQ
          have eqq : (1 : Int) - (k : Int) = ((q : Nat) : Int) := by omega
          have q0 : (0 : Int) ≤ (q : Int) := Int.natCast_nonneg _
          have q1 : (q : Int) < 2 := by omega
          have eqq2 : IntKind.i64.wrap ((q : Nat) : Int) = ((q : Nat) : Int) := IntWalk.i64_in _ ⟨by omega, by omega⟩
          clear hq
          refine wp_region_allN hM (by kernel_rfl) ?_
          clear hM
          intro wd hM
          refine wpAll_takes [0, 1, 2] (by kernel_rfl) (fun _ _ _ _ _ h => h) (by kernel_rfl) ?_
          simp only [pickOps, List.filterMap_cons, List.filterMap_nil, List.getElem?_cons_zero, List.getElem?_cons_succ]
          repeat ((with_reducible apply wpPure_step); (· rfl); (· (intro w; go_simp; rfl)); intro K hK; go_simp; (with_reducible refine hK _ ?_); clear hK K)
          refine wpPure_nil ?_
          refine wpAll_of_T (fun w' => Below wd.heap.size wd w') 8 ?_
          have hS := Below.refl wd.heap.size wd
          have HM0 := Lib.hid hM
          refine wpAllT_takes [3, 4, 5, 6, 7] (by kernel_rfl) (fun _ _ _ _ _ h => h) hS (by kernel_rfl) ?_
          simp only [pickOps, List.filterMap_cons, List.filterMap_nil, List.getElem?_cons_zero, List.getElem?_cons_succ]
          repeat ((with_reducible apply wpHeld_step); (· rfl); (· (intro wq hSw; first | (go_simp; rfl) | (have hM' := HM0.out.step hSw; first | exact yields_load (C := fun _ => True) (nqc hM') rfl | exact yields_load (C := fun _ => True) (nql hM') rfl | exact yields_load (C := fun _ => True) (nqp hM') rfl | exact yields_load (C := fun _ => True) (nqc hM' (hv := HIQ.out)) rfl))); intro K hK; go_simp; (with_reducible refine hK _ ?_); clear hK K)
          refine wpHeld_nil ?_
          refine wpAllT_one 8 rfl (by kernel_rfl) ?_
          go_wp2_with fail
          refine (HRT.out _ hM).mono ?_
          rintro e w14 ⟨A5, n5, c5, Ts, hts0, hts1, hts2, rfl, hM1⟩
          go_wp2_with fail
          clear hM hS HM0 HRT
          have hM := hM1
          clear hM1
          refine then_normal ⟨.inl (by kernel_rfl), wpAllT_drop (by kernel_rfl) ?_⟩
          refine wpAll_takes [9, 10, 11, 12, 13] (by kernel_rfl) (fun _ _ _ _ _ h => h) (by kernel_rfl) ?_
          simp only [pickOps, List.filterMap_cons, List.filterMap_nil, List.getElem?_cons_zero, List.getElem?_cons_succ]
          repeat ((with_reducible apply wpPure_step); (· rfl); (· (intro w; go_simp; rfl)); intro K hK; go_simp; (with_reducible refine hK _ ?_); clear hK K)
          refine wpPure_nil ?_
          refine wpAll_done (by kernel_rfl) ?_
          have hn5 := (gT_len (hM.thing (lT (.slice A5 n5 c5) _) (List.Mem.head _))).1
          rw [List.length_map] at hn5
          obtain ⟨g5, o5, rfl, _, _⟩ := gT_at cf_ln (hM.thing (lT (.slice A5 n5 c5) _) (List.Mem.head _)) (by rw [List.length_map]; exact hts0)
          have n5a : (((n5 : Nat) : Int) == 0) = false := by simp; omega
          have n5b : (0 : Int) ≤ (n5 : Int) := Int.natCast_nonneg _
          have n5c : (n5 : Int) ≤ 50 := by omega
          have HTS := Lib.hid (And.intro hn5 hts2)
          clear hn5 hts0 hts1 hts2
          go_wp2_with (first | ((first | with_reducible refine at_load ?_ | ((with_reducible refine at_load_g ?_ ?_); (· rfl))); first | refine nll hM ?_ | refine nlc hM ?_ | refine nlp hM ?_) | ((with_reducible refine at_store ?_); first | (refine nlw hM ?_; clear hM; intro wx hM) | (refine nls hM ?_; clear hM; intro wx hM) | (refine nlt hM ?_; clear hM; intro wx hM)) | ((with_reducible refine at_alloc ?_); refine nlz hM ?_; clear hM; intro gx wx hM) | ((with_reducible refine at_box ?_); first | (refine nlb hM ?_; clear hM; intro gx wx hM) | (refine nlx hM ?_; clear hM; intro gx wx hM)))
          have M0 := Lib.hid hM
          clear hM
          refine wp_loop (fun a' w' => ∃ (jj last' : Nat), Hid (jj ≤ n5 ∧ last' ≤ now') ∧ Mem [] w (⟨gp, 48, 36, stC j [.string gateB, .string sj, .string bd, .int .i64 (now' : Nat)]⟩ :: ⟨gi, 45, 32, stC j []⟩ :: ⟨gn, 9, 3, #[.string annB, .string bobB, .string carB]⟩ :: ⟨ga, 32, 2, #[p1 A.r, p1 B.r]⟩ :: ⟨T.r, 31, 4, #[p1 T.g, .string T.nk, T.S, T.P]⟩ :: ⟨O.r, 31, 4, #[p1 O.g, .string O.nk, O.S, (.slice A4 N4 c4)]⟩ :: ⟨T.g, 57, 7, gwA T.rm abB T.nk T.V ((last' : Nat) : Int) T.mm T.mr⟩ :: ⟨O.g, 57, 7, gwA O.rm abB O.nk (.slice A2 0 c2) ((O.last : Nat) : Int) O.mm O.mr⟩ :: []) (lT (.slice (some ⟨g5, o5, none⟩) n5 c5) (Ts.map fun x => (⟨now', T.nk, x⟩ : Ln)) :: lT (.slice A3 n3 c3) O.ws :: lT (.slice A2 0 c2) [] :: lT O.S O.said :: lT (.slice A4 N4 c4) (O.posts ++ O.ws) :: lT T.V T.ws :: lT T.S T.said :: lT T.P T.posts :: mapT T.mr (updM T.pr j (some (.bool true))) :: mapT T.mm T.pm :: mapT O.mr (updM O.pr j (some (.bool true))) :: mapT O.mm (updM O.pm j (some (.bool true))) :: []) w' ∧ a'.defers = [] ∧ a'.tmps.size = 342 ∧ Keeps a'.tmps [(0, .slice AA n c), (7, p1 ga), (8, .slice (some ⟨gn, 0, none⟩) 3 3), (9, .int .i64 (now' : Nat)), (10, .int .i64 (j : Nat)), (11, .int .i64 (i : Nat)), (14, .int .i64 (k : Nat)), (24, .slice (some ⟨g5, o5, none⟩) n5 c5), (26, .int .i64 (jj : Nat))]) (fun a' _ => n5 - (intOf (a'.tmps.getD 26 undef)).toNat) ?_ ?_
          · refine ⟨0, T.last, Lib.hid ⟨Nat.zero_le _, ?_⟩, M0.out, rfl, rfl, rfl, rfl, rfl, rfl, rfl, rfl, rfl, rfl, rfl, trivial⟩
            obtain ⟨_, hA, hB, _⟩ := hc.out
            exact ((HPK.out.both (fun a => RmOk a now' made')).1 ⟨hA, hB⟩).2.last
          clear M0
          rintro a' wr3 ⟨jj, last', hc3, hM, hd1, hd2, hd3⟩
          obtain ⟨u3, rfl⟩ := frC hd1 hd2 hd3
          clear hd1 hd2 hd3
          dsimp only
          have jj0 : (0 : Int) ≤ (jj : Int) := Int.natCast_nonneg _
          by_cases hj5 : jj < n5
          · have jj1 : (jj : Int) < (n5 : Int) := by omega
            have hjl : jj < Ts.length := by have := HTS.out.1; omega
            obtain ⟨x, hx⟩ : ∃ x, Ts[jj] = x := ⟨_, rfl⟩
            have hxm : x ∈ Ts := hx ▸ List.getElem_mem hjl
            have HXC := Lib.hid (show ∀ w', Mem [] w (⟨gp, 48, 36, stC j [.string gateB, .string sj, .string bd, .int .i64 (now' : Nat)]⟩ :: ⟨gi, 45, 32, stC j []⟩ :: ⟨gn, 9, 3, #[.string annB, .string bobB, .string carB]⟩ :: ⟨ga, 32, 2, #[p1 A.r, p1 B.r]⟩ :: ⟨T.r, 31, 4, #[p1 T.g, .string T.nk, T.S, T.P]⟩ :: ⟨O.r, 31, 4, #[p1 O.g, .string O.nk, O.S, (.slice A4 N4 c4)]⟩ :: ⟨T.g, 57, 7, gwA T.rm abB T.nk T.V ((last' : Nat) : Int) T.mm T.mr⟩ :: ⟨O.g, 57, 7, gwA O.rm abB O.nk (.slice A2 0 c2) ((O.last : Nat) : Int) O.mm O.mr⟩ :: []) (lT (.slice (some ⟨g5, o5, none⟩) n5 c5) (Ts.map fun x => (⟨now', T.nk, x⟩ : Ln)) :: lT (.slice A3 n3 c3) O.ws :: lT (.slice A2 0 c2) [] :: lT O.S O.said :: lT (.slice A4 N4 c4) (O.posts ++ O.ws) :: lT T.V T.ws :: lT T.S T.said :: lT T.P T.posts :: mapT T.mr (updM T.pr j (some (.bool true))) :: mapT T.mm T.pm :: mapT O.mr (updM O.pr j (some (.bool true))) :: mapT O.mm (updM O.pm j (some (.bool true))) :: []) w' → w'.cell? ⟨g5, o5 + jj * 3 + 1, none⟩ = some (.string T.nk) ∧ ∀ m u, (#[.int .i64 (now' : Nat), .string T.nk, .string x] : Array Value)[m]? = some u → w'.cell? ⟨g5, o5 + jj * 3 + m, none⟩ = some u from fun w' h => by
              obtain ⟨g6, o6, e6, _, h6⟩ := gT_at cf_ln (h.thing (lT (.slice (some ⟨g5, o5, none⟩) n5 c5) (Ts.map fun x => (⟨now', T.nk, x⟩ : Ln))) (List.Mem.head _)) (by rw [List.length_map]; omega)
              injection e6 with e6
              injection e6 with e7 e8
              subst e7 e8
              have h7 := h6 jj (by rw [List.length_map]; exact hjl)
              rw [List.getElem_map, hx] at h7
              exact ⟨h7 1 _ rfl, fun m u hu => h7 m u (by rw [← hu]; simp [lnF, lnA])⟩)
            obtain ⟨_, hA, hB, _⟩ := hc.out
            have hT := ((HPK.out.both (fun a => RmOk a now' made')).1 ⟨hA, hB⟩).2
            have hck := HTS.out.2 x hxm
            have hx9 := chkT_size hck
            have hk9 := (gate_ok hT.nm.2).2
            have HHO := Lib.hid (fun w' (hM : Mem [] w (⟨gp, 48, 36, stC j [.string gateB, .string sj, .string bd, .int .i64 (now' : Nat)]⟩ :: ⟨gi, 45, 32, stC j []⟩ :: ⟨gn, 9, 3, #[.string annB, .string bobB, .string carB]⟩ :: ⟨ga, 32, 2, #[p1 A.r, p1 B.r]⟩ :: ⟨T.r, 31, 4, #[p1 T.g, .string T.nk, T.S, T.P]⟩ :: ⟨O.r, 31, 4, #[p1 O.g, .string O.nk, O.S, (.slice A4 N4 c4)]⟩ :: ⟨T.g, 57, 7, gwA T.rm abB T.nk T.V ((last' : Nat) : Int) T.mm T.mr⟩ :: ⟨O.g, 57, 7, gwA O.rm abB O.nk (.slice A2 0 c2) ((O.last : Nat) : Int) O.mm O.mr⟩ :: []) (lT (.slice (some ⟨g5, o5, none⟩) n5 c5) (Ts.map fun x => (⟨now', T.nk, x⟩ : Ln)) :: lT (.slice A3 n3 c3) O.ws :: lT (.slice A2 0 c2) [] :: lT O.S O.said :: lT (.slice A4 N4 c4) (O.posts ++ O.ws) :: lT T.V T.ws :: lT T.S T.said :: lT T.P T.posts :: mapT T.mr (updM T.pr j (some (.bool true))) :: mapT T.mm T.pm :: mapT O.mr (updM O.pr j (some (.bool true))) :: mapT O.mm (updM O.pm j (some (.bool true))) :: []) w') => hear_own T.g T.rm abB T.nk T.nk x T.V last' now' T.mm T.mr hM (by repeat (first | exact UpdL.head _ _ _ _ _ | assumption | apply UpdL.tail)) (by omega) (by omega) (by omega) (own_chk hT.nm.2 (by have := HN.out; omega) hck) hc3.out.2 (by simp))
            clear hA hB hT hck hx9 hk9 hxm hx hjl
            go_upto_region 45 with (first | ((first | with_reducible refine at_load ?_ | ((with_reducible refine at_load_g ?_ ?_); (· rfl))); first | refine nll hM ?_ | refine nlc hM ?_ | refine nlp hM ?_) | ((with_reducible refine at_store ?_); first | (refine nlw hM ?_; clear hM; intro wx hM) | (refine nls hM ?_; clear hM; intro wx hM) | (refine nlt hM ?_; clear hM; intro wx hM)) | ((with_reducible refine at_alloc ?_); refine nlz hM ?_; clear hM; intro gx wx hM) | ((with_reducible refine at_box ?_); first | (refine nlb hM ?_; clear hM; intro gx wx hM) | (refine nlx hM ?_; clear hM; intro gx wx hM)))
            refine wp_region_allN hM (by kernel_rfl) ?_
            clear hM
            intro wd hM
            refine wpAll_takes [0, 1, 2, 3, 5, 6, 7] (by kernel_rfl) (fun _ _ _ _ _ h => h) (by kernel_rfl) ?_
            simp only [pickOps, List.filterMap_cons, List.filterMap_nil, List.getElem?_cons_zero, List.getElem?_cons_succ]
            repeat ((with_reducible apply wpPure_step); (· rfl); (· (intro w; go_simp; rfl)); intro K hK; go_simp; (with_reducible refine hK _ ?_); clear hK K)
            refine wpPure_nil ?_
            refine wpAll_of_T (fun w' => Below wd.heap.size wd w') 25 ?_
            have hS := Below.refl wd.heap.size wd
            have HM0 := Lib.hid hM
            refine wpAllT_takes [4, 8, 9, 10, 11, 12, 13, 14, 15, 16, 17, 18, 19, 20, 21, 22, 23, 24] (by kernel_rfl) (fun _ _ _ _ _ h => h) hS (by kernel_rfl) ?_
            simp only [pickOps, List.filterMap_cons, List.filterMap_nil, List.getElem?_cons_zero, List.getElem?_cons_succ]
            repeat (first | ((with_reducible apply wpHeld_stepG); (· rfl); (· (intro wq hSw; first | (go_simp; rfl) | (have hM' := HM0.out.step hSw; first | exact yields_load (C := fun _ => True) (nqc hM') rfl | exact yields_load (C := fun _ => True) (nql hM') rfl | exact yields_load (C := fun _ => True) (nqp hM') rfl | first | exact yields_load (C := fun _ => True) (nqo (HXC.out _ hM').1) rfl | exact yields_load (C := fun _ => True) (nqc hM' (hv := HIQ.out)) rfl | exact yreads (HXC.out _ hM').2 row_line rfl))); intro K hK; go_simp; (with_reducible refine hK _ ?_); clear hK K) | ((with_reducible apply wpHeld_stepU); (· rfl); intro K hK; go_simp; (with_reducible refine hK _ ?_); clear hK K))
            refine wpHeld_nil ?_
            refine wpAllT_one 25 rfl (by kernel_rfl) ?_
            refine wpList_wanted rfl ?_
            go_wp2_with fail
            refine (HHO.out _ hM).mono ?_
            rintro e w15 ⟨rfl, hM1⟩
            go_wp2_with fail
            clear hM hS HM0 HHO HXC
            have hM := hM1
            clear hM1
            refine then_normal ⟨.inl (by kernel_rfl), wpAllT_drop (by kernel_rfl) ?_⟩
            refine wpAll_takes [26, 27] (by kernel_rfl) (fun _ _ _ _ _ h => h) (by kernel_rfl) ?_
            simp only [pickOps, List.filterMap_cons, List.filterMap_nil, List.getElem?_cons_zero, List.getElem?_cons_succ]
            repeat (first | ((with_reducible apply wpPure_step); (· rfl); (· (intro w; go_simp; rfl)); intro K hK; go_simp; (with_reducible refine hK _ ?_); clear hK K) | ((with_reducible apply wpPure_stepG); (· rfl); (· (intro w; go_simp; rfl)); intro K hK; go_simp; (with_reducible refine hK _ ?_); clear hK K))
            refine wpPure_nil ?_
            refine wpAll_done (by kernel_rfl) ?_
            go_wp2_with (first | ((first | with_reducible refine at_load ?_ | ((with_reducible refine at_load_g ?_ ?_); (· rfl))); first | refine nll hM ?_ | refine nlc hM ?_ | refine nlp hM ?_) | ((with_reducible refine at_store ?_); first | (refine nlw hM ?_; clear hM; intro wx hM) | (refine nls hM ?_; clear hM; intro wx hM) | (refine nlt hM ?_; clear hM; intro wx hM)) | ((with_reducible refine at_alloc ?_); refine nlz hM ?_; clear hM; intro gx wx hM) | ((with_reducible refine at_box ?_); first | (refine nlb hM ?_; clear hM; intro gx wx hM) | (refine nlx hM ?_; clear hM; intro gx wx hM)))
            rw [cast1 jj]
            refine ⟨⟨jj + 1, now', Lib.hid ⟨hj5, Nat.le_refl _⟩, hM, (by first | exact ⟨rfl, rfl, rfl, rfl, rfl, rfl, rfl, rfl, rfl, rfl, rfl, trivial⟩ | exact ⟨trivial, rfl, rfl, rfl, rfl, rfl, rfl, rfl, rfl, rfl, rfl, trivial⟩ | exact ⟨rfl, rfl, rfl, rfl, rfl, rfl, rfl, rfl, rfl, trivial⟩)⟩, ?_⟩
            exact msr hj5
          · have jj1 : ¬ (jj : Int) < (n5 : Int) := by omega
            go_wp2_with (first | ((first | with_reducible refine at_load ?_ | ((with_reducible refine at_load_g ?_ ?_); (· rfl))); first | refine nll hM ?_ | refine nlc hM ?_ | refine nlp hM ?_) | ((with_reducible refine at_store ?_); first | (refine nlw hM ?_; clear hM; intro wx hM) | (refine nls hM ?_; clear hM; intro wx hM) | (refine nlt hM ?_; clear hM; intro wx hM)) | ((with_reducible refine at_alloc ?_); refine nlz hM ?_; clear hM; intro gx wx hM) | ((with_reducible refine at_box ?_); first | (refine nlb hM ?_; clear hM; intro gx wx hM) | (refine nlx hM ?_; clear hM; intro gx wx hM)))
            obtain ⟨hm0, hA, hB, hTu, h2, h3⟩ := hc.out
            obtain ⟨hO, hT⟩ := (HPK.out.both (fun a => RmOk a now' made')).1 ⟨hA, hB⟩
            obtain ⟨hsO, hsT⟩ := (HPK.out.both (fun a => a.said.length ≤ i + 1)).1 ⟨h2, h3⟩
            have hj := HJ.out.1
            subst hj
            obtain ⟨A', B', hpk'⟩ := pick_back hk2 { O with V := .slice A2 0 c2, ws := [], P := .slice A4 N4 c4, posts := O.posts ++ O.ws, pm := updM O.pm (made' + 1) (some (.bool true)), pr := updM O.pr (made' + 1) (some (.bool true)) } { T with last := last', pr := updM T.pr (made' + 1) (some (.bool true)) }
            obtain ⟨hr1, hr2⟩ := pick_r HPK.out hpk' rfl rfl
            rw [← hr1, ← hr2] at hM
            obtain ⟨r1, r2⟩ := (hpk'.both (fun a => RmOk a now' (made' + 1))).2 ⟨hO.take _ _ _ _, hT.read _ last' hc3.out.2⟩
            obtain ⟨r5, r6⟩ := (hpk'.both (fun a => a.said.length ≤ i + 1)).2 ⟨hsO, hsT⟩
            rw [cast1 k]
            refine ⟨⟨k + 1, made' + 1, A', B', Lib.hid ⟨HK2.out, r1, r2, hTu.yes HPK.out hpk' HNO.out.1 rfl rfl, r5, r6⟩, (pick_mem hpk').2 ((hM.subL (by exact List.Sublist.cons _ (List.Sublist.cons _ (List.Sublist.refl _)))).subR (by exact List.Sublist.cons _ (List.Sublist.cons _ (List.Sublist.refl _)))), (by first | exact ⟨rfl, rfl, rfl, rfl, rfl, rfl, rfl, rfl, rfl, trivial⟩ | exact ⟨trivial, rfl, rfl, rfl, rfl, rfl, rfl, rfl, rfl, trivial⟩ | exact ⟨rfl, rfl, rfl, rfl, rfl, rfl, rfl, trivial⟩)⟩, ?_⟩
            exact msr hk2
      · have k1 : ¬ (k : Int) < 2 := by omega
        go_wp2_with (first | ((first | with_reducible refine at_load ?_ | ((with_reducible refine at_load_g ?_ ?_); (· rfl))); first | refine nll hM ?_ | refine nlc hM ?_ | refine nlp hM ?_) | ((with_reducible refine at_store ?_); first | (refine nlw hM ?_; clear hM; intro wx hM) | (refine nls hM ?_; clear hM; intro wx hM) | (refine nlt hM ?_; clear hM; intro wx hM)) | ((with_reducible refine at_alloc ?_); refine nlz hM ?_; clear hM; intro gx wx hM) | ((with_reducible refine at_box ?_); first | (refine nlb hM ?_; clear hM; intro gx wx hM) | (refine nlx hM ?_; clear hM; intro gx wx hM)))
        obtain ⟨hm0, hA, hB, hTu, h2, h3⟩ := hc.out
        have hk3 : k = 2 := by omega
        subst hk3
        rw [cast1 i]
        refine ⟨⟨i + 1, now', made', A, B, Lib.hid ⟨⟨by have := HI.out; omega, HN2.out, by have := HI.out; omega⟩, hA, hB, hTu.over, h2, h3⟩, hM, (by first | exact ⟨rfl, rfl, rfl, rfl, rfl, rfl, rfl, rfl, trivial⟩ | exact ⟨trivial, rfl, rfl, rfl, rfl, rfl, rfl, rfl, trivial⟩ | exact ⟨rfl, rfl, rfl, rfl, rfl, rfl, trivial⟩)⟩, ?_⟩
        show n + 5 - ((i + 1 : Nat) : Int).toNat < n + 5 - ((i : Nat) : Int).toNat
        omega
    · have hlt' : ¬ (i : Int) ≤ (n : Int) + 4 := by omega
      obtain ⟨hi0, hA, hB, hS0, h2, h3⟩ := hc.out
      have hwa := hS0.a (by omega)
      have hwb := hS0.b (by omega)
      have HAB := Lib.hid (show (A.said = A.posts ∧ A.ws = [] ∧ A.said.length ≤ 70) ∧ (B.said = B.posts ∧ B.ws = [] ∧ B.said.length ≤ 70) from ⟨⟨by rw [hA.eq, hwa, List.append_nil], hwa, by omega⟩, ⟨by rw [hB.eq, hwb, List.append_nil], hwb, by omega⟩⟩)
      clear hi0 hA hB hS0 h2 h3 hwa hwb hc
      go_wp2_with (first | ((first | with_reducible refine at_load ?_ | ((with_reducible refine at_load_g ?_ ?_); (· rfl))); first | refine nll hM ?_ | refine nlc hM ?_ | refine nlp hM ?_) | ((with_reducible refine at_store ?_); first | (refine nlw hM ?_; clear hM; intro wx hM) | (refine nls hM ?_; clear hM; intro wx hM) | (refine nlt hM ?_; clear hM; intro wx hM)) | ((with_reducible refine at_alloc ?_); refine nlz hM ?_; clear hM; intro gx wx hM) | ((with_reducible refine at_box ?_); first | (refine nlb hM ?_; clear hM; intro gx wx hM) | (refine nlx hM ?_; clear hM; intro gx wx hM)))
      have M0 := Lib.hid hM
      clear hM
      refine wp_loop (fun a' w' => ∃ (k : Nat), Hid (k ≤ 2) ∧ Mem [] w (⟨gn, 9, 3, #[.string annB, .string bobB, .string carB]⟩ :: ⟨ga, 32, 2, #[p1 A.r, p1 B.r]⟩ :: ⟨B.r, 31, 4, #[p1 B.g, .string B.nk, B.S, B.P]⟩ :: ⟨A.r, 31, 4, #[p1 A.g, .string A.nk, A.S, A.P]⟩ :: ⟨B.g, 57, 7, gwA B.rm abB B.nk B.V ((B.last : Nat) : Int) B.mm B.mr⟩ :: ⟨A.g, 57, 7, gwA A.rm abB A.nk A.V ((A.last : Nat) : Int) A.mm A.mr⟩ :: []) (lT A.V A.ws :: lT A.S A.said :: lT A.P A.posts :: lT B.V B.ws :: lT B.S B.said :: lT B.P B.posts :: mapT B.mr B.pr :: mapT B.mm B.pm :: mapT A.mr A.pr :: mapT A.mm A.pm :: []) w' ∧ a'.defers = [] ∧ a'.tmps.size = 342 ∧ Keeps a'.tmps [(7, p1 ga), (27, .int .i64 (k : Nat))]) (fun a' _ => 2 - (intOf (a'.tmps.getD 27 undef)).toNat) ?_ ?_
      · exact ⟨0, Lib.hid (Nat.zero_le _), M0.out, rfl, rfl, rfl, rfl, trivial⟩
      clear M0
      rintro a' wk ⟨k, hc4, hM, hd1, hd2, hd3⟩
      obtain ⟨u2, rfl⟩ := frD hd1 hd2 hd3
      clear hd1 hd2 hd3
      dsimp only
      have k0 : (0 : Int) ≤ (k : Int) := Int.natCast_nonneg _
      by_cases hk2 : k < 2
      · have k1 : (k : Int) < 2 := by omega
        obtain ⟨O, T, hpk⟩ := pick_ex hk2 A B
        have HPK := Lib.hid hpk
        have HIX := Lib.hid (pick_ix hpk)
        have hM2 := (pick_mem hpk).1 hM
        clear hM
        obtain ⟨⟨hsp, hws, hsl⟩, _⟩ := (hpk.both (fun a => a.said = a.posts ∧ a.ws = [] ∧ a.said.length ≤ 70)).1 HAB.out
        obtain ⟨AV, cv, hV, hcv⟩ := gT_form (hM2.thing (lT O.V O.ws) (by repeat (first | exact List.Mem.head _ | assumption | apply List.Mem.tail)))
        obtain ⟨SA, sc, hSv, hsc⟩ := gT_form (hM2.thing (lT O.S O.said) (by repeat (first | exact List.Mem.head _ | assumption | apply List.Mem.tail)))
        obtain ⟨PA, pc, hPv, hpc⟩ := gT_form (hM2.thing (lT O.P O.posts) (by repeat (first | exact List.Mem.head _ | assumption | apply List.Mem.tail)))
        obtain ⟨m, hm⟩ : ∃ m, O.posts.length = m := ⟨_, rfl⟩
        rw [hws, List.length_nil] at hV
        rw [hsp, hm] at hSv
        rw [hm] at hPv
        have m0 : (0 : Int) ≤ (m : Int) := Int.natCast_nonneg _
        have m1 : (m : Int) ≤ 70 := by rw [hsp] at hsl; omega
        have HM := Lib.hid hm
        have HSP := Lib.hid hsp
        have HWS := Lib.hid hws
        have hM := hM2
        clear hM2
        rw [hV, hSv, hPv] at hM
        have HWT := Lib.hid (fun w' (hM : Mem [] w (⟨gn, 9, 3, #[.string annB, .string bobB, .string carB]⟩ :: ⟨ga, 32, 2, #[p1 A.r, p1 B.r]⟩ :: ⟨T.r, 31, 4, #[p1 T.g, .string T.nk, T.S, T.P]⟩ :: ⟨O.r, 31, 4, #[p1 O.g, .string O.nk, (.slice SA m sc), (.slice PA m pc)]⟩ :: ⟨T.g, 57, 7, gwA T.rm abB T.nk T.V ((T.last : Nat) : Int) T.mm T.mr⟩ :: ⟨O.g, 57, 7, gwA O.rm abB O.nk (.slice AV 0 cv) ((O.last : Nat) : Int) O.mm O.mr⟩ :: []) (lT (.slice AV 0 cv) O.ws :: lT (.slice SA m sc) O.said :: lT (.slice PA m pc) O.posts :: lT T.V T.ws :: lT T.S T.said :: lT T.P T.posts :: mapT T.mr T.pr :: mapT T.mm T.pm :: mapT O.mr O.pr :: mapT O.mm O.pm :: []) w') => waiting_any O.g 0 cv O.rm abB O.nk AV O.last O.mm O.mr O.ws w' w [] _ _ hM (by repeat (first | exact List.Mem.head _ | assumption | apply List.Mem.tail)) (by repeat (first | exact List.Mem.head _ | assumption | apply List.Mem.tail)) (by rw [HWS.out]; exact Nat.zero_le _))
        clear hpk hcv hsc hpc hsp hws hsl hm
        go_upto_region 50 with (first | ((first | with_reducible refine at_load ?_ | ((with_reducible refine at_load_g ?_ ?_); (· rfl))); first | refine nll hM ?_ | refine nlc hM ?_ | refine nlp hM ?_) | ((with_reducible refine at_store ?_); first | (refine nlw hM ?_; clear hM; intro wx hM) | (refine nls hM ?_; clear hM; intro wx hM) | (refine nlt hM ?_; clear hM; intro wx hM)) | ((with_reducible refine at_alloc ?_); refine nlz hM ?_; clear hM; intro gx wx hM) | ((with_reducible refine at_box ?_); first | (refine nlb hM ?_; clear hM; intro gx wx hM) | (refine nlx hM ?_; clear hM; intro gx wx hM)))
        refine wp_region_allN hM (by kernel_rfl) ?_
        clear hM
        intro wd hM
        refine wpAll_takes [0, 1, 7, 8] (by kernel_rfl) (fun _ _ _ _ _ h => h) (by kernel_rfl) ?_
        simp only [pickOps, List.filterMap_cons, List.filterMap_nil, List.getElem?_cons_zero, List.getElem?_cons_succ]
        repeat ((with_reducible apply wpPure_step); (· rfl); (· (intro w; go_simp; rfl)); intro K hK; go_simp; (with_reducible refine hK _ ?_); clear hK K)
        refine wpPure_nil ?_
        refine wpAll_of_T (fun w' => Below wd.heap.size wd w') 22 ?_
        have hS := Below.refl wd.heap.size wd
        have HM0 := Lib.hid hM
        refine wpAllT_takes [2, 3, 4, 5, 6, 9, 10, 11, 12, 13, 14, 15, 16, 17, 18, 19, 20, 21] (by kernel_rfl) (fun _ _ _ _ _ h => h) hS (by kernel_rfl) ?_
        simp only [pickOps, List.filterMap_cons, List.filterMap_nil, List.getElem?_cons_zero, List.getElem?_cons_succ]
        repeat (first | ((with_reducible apply wpHeld_stepG); (· rfl); (· (intro wq hSw; first | (go_simp; rfl) | (have hM' := HM0.out.step hSw; first | exact yields_load (C := fun _ => True) (nqc hM') rfl | exact yields_load (C := fun _ => True) (nql hM') rfl | exact yields_load (C := fun _ => True) (nqp hM') rfl | exact yields_load (C := fun _ => True) (nqc hM' (hv := HIX.out)) rfl))); intro K hK; go_simp; (with_reducible refine hK _ ?_); clear hK K) | ((with_reducible apply wpHeld_stepU); (· rfl); intro K hK; go_simp; (with_reducible refine hK _ ?_); clear hK K))
        refine wpHeld_nil ?_
        refine wpAllT_one 22 rfl (by kernel_rfl) ?_
        refine wpList_wanted rfl ?_
        go_wp2_with fail
        refine (HWT.out _ hM).mono ?_
        rintro e w1 ⟨A6, c6, rfl, hM1⟩
        go_wp2_with fail
        clear hM hS HM0 HWT
        have hM := hM1
        clear hM1
        refine then_normal ⟨.inl (by kernel_rfl), wpAllT_drop (by kernel_rfl) ?_⟩
        refine wpAll_takes [23, 24, 25] (by kernel_rfl) (fun _ _ _ _ _ h => h) (by kernel_rfl) ?_
        simp only [pickOps, List.filterMap_cons, List.filterMap_nil, List.getElem?_cons_zero, List.getElem?_cons_succ]
        repeat (first | ((with_reducible apply wpPure_step); (· rfl); (· (intro w; go_simp; rfl)); intro K hK; go_simp; (with_reducible refine hK _ ?_); clear hK K) | ((with_reducible apply wpPure_stepG); (· rfl); (· (intro w; go_simp; rfl)); intro K hK; go_simp; (with_reducible refine hK _ ?_); clear hK K))
        refine wpPure_nil ?_
        refine wpAll_done (by kernel_rfl) ?_
        go_wp2_with (first | ((first | with_reducible refine at_load ?_ | ((with_reducible refine at_load_g ?_ ?_); (· rfl))); first | refine nll hM ?_ | refine nlc hM ?_ | refine nlp hM ?_) | ((with_reducible refine at_store ?_); first | (refine nlw hM ?_; clear hM; intro wx hM) | (refine nls hM ?_; clear hM; intro wx hM) | (refine nlt hM ?_; clear hM; intro wx hM)) | ((with_reducible refine at_alloc ?_); refine nlz hM ?_; clear hM; intro gx wx hM) | ((with_reducible refine at_box ?_); first | (refine nlb hM ?_; clear hM; intro gx wx hM) | (refine nlx hM ?_; clear hM; intro gx wx hM)))
        have M0 := Lib.hid hM
        clear hM
        refine wp_loop (fun a' w' => ∃ (jj : Nat), Hid (jj ≤ m) ∧ Mem [] w (⟨gn, 9, 3, #[.string annB, .string bobB, .string carB]⟩ :: ⟨ga, 32, 2, #[p1 A.r, p1 B.r]⟩ :: ⟨T.r, 31, 4, #[p1 T.g, .string T.nk, T.S, T.P]⟩ :: ⟨O.r, 31, 4, #[p1 O.g, .string O.nk, (.slice SA m sc), (.slice PA m pc)]⟩ :: ⟨T.g, 57, 7, gwA T.rm abB T.nk T.V ((T.last : Nat) : Int) T.mm T.mr⟩ :: ⟨O.g, 57, 7, gwA O.rm abB O.nk (.slice AV 0 cv) ((O.last : Nat) : Int) O.mm O.mr⟩ :: []) (lT (.slice AV 0 cv) O.ws :: lT (.slice SA m sc) O.said :: lT (.slice PA m pc) O.posts :: lT T.V T.ws :: lT T.S T.said :: lT T.P T.posts :: mapT T.mr T.pr :: mapT T.mm T.pm :: mapT O.mr O.pr :: mapT O.mm O.pm :: []) w' ∧ a'.defers = [] ∧ a'.tmps.size = 342 ∧ Keeps a'.tmps [(7, p1 ga), (27, .int .i64 (k : Nat)), (28, .int .i64 (jj : Nat))]) (fun a' _ => m - (intOf (a'.tmps.getD 28 undef)).toNat) ?_ ?_
        · exact ⟨0, Lib.hid (Nat.zero_le _), M0.out, rfl, rfl, rfl, rfl, rfl, trivial⟩
        clear M0
        rintro a' wj ⟨jj, hc5, hM, hd1, hd2, hd3⟩
        obtain ⟨u3, rfl⟩ := frE hd1 hd2 hd3
        clear hd1 hd2 hd3
        dsimp only
        have jj0 : (0 : Int) ≤ (jj : Int) := Int.natCast_nonneg _
        by_cases hjm : jj < m
        · have jj1 : (jj : Int) < (m : Int) := by omega
          have hjl : jj < O.posts.length := by rw [HM.out]; exact hjm
          have hjs : jj < O.said.length := by rw [HSP.out]; exact hjl
          obtain ⟨gS, oS, rfl, _, _⟩ := gT_at cf_ln (hM.thing (lT (.slice SA m sc) O.said) (by repeat (first | exact List.Mem.head _ | assumption | apply List.Mem.tail))) (by omega)
          obtain ⟨gP, oP, rfl, _, _⟩ := gT_at cf_ln (hM.thing (lT (.slice PA m pc) O.posts) (by repeat (first | exact List.Mem.head _ | assumption | apply List.Mem.tail))) (by omega)
          obtain ⟨l, hl⟩ : ∃ l, O.posts[jj] = l := ⟨_, rfl⟩
          have hls : O.said[jj] = l := by rw [← hl]; exact List.getElem_of_eq HSP.out _
          have HXP := Lib.hid (show ∀ w', Mem [] w (⟨gn, 9, 3, #[.string annB, .string bobB, .string carB]⟩ :: ⟨ga, 32, 2, #[p1 A.r, p1 B.r]⟩ :: ⟨T.r, 31, 4, #[p1 T.g, .string T.nk, T.S, T.P]⟩ :: ⟨O.r, 31, 4, #[p1 O.g, .string O.nk, (.slice (some ⟨gS, oS, none⟩) m sc), (.slice (some ⟨gP, oP, none⟩) m pc)]⟩ :: ⟨T.g, 57, 7, gwA T.rm abB T.nk T.V ((T.last : Nat) : Int) T.mm T.mr⟩ :: ⟨O.g, 57, 7, gwA O.rm abB O.nk (.slice AV 0 cv) ((O.last : Nat) : Int) O.mm O.mr⟩ :: []) (lT (.slice AV 0 cv) O.ws :: lT (.slice (some ⟨gS, oS, none⟩) m sc) O.said :: lT (.slice (some ⟨gP, oP, none⟩) m pc) O.posts :: lT T.V T.ws :: lT T.S T.said :: lT T.P T.posts :: mapT T.mr T.pr :: mapT T.mm T.pm :: mapT O.mr O.pr :: mapT O.mm O.pm :: []) w' → ∀ q u, (#[.int .i64 (l.m : Nat), .string l.nick, .string l.text] : Array Value)[q]? = some u → w'.cell? ⟨gP, oP + jj * 3 + q, none⟩ = some u from fun w' h q u hu => by
            obtain ⟨g6, o6, e6, _, h6⟩ := gT_at cf_ln (h.thing (lT (.slice (some ⟨gP, oP, none⟩) m pc) O.posts) (by repeat (first | exact List.Mem.head _ | assumption | apply List.Mem.tail))) (by omega)
            injection e6 with e6
            injection e6 with e7 e8
            subst e7 e8
            exact h6 jj hjl q u (by rw [hl, ← hu]; simp [lnF, lnA]))
          have HXS := Lib.hid (show ∀ w', Mem [] w (⟨gn, 9, 3, #[.string annB, .string bobB, .string carB]⟩ :: ⟨ga, 32, 2, #[p1 A.r, p1 B.r]⟩ :: ⟨T.r, 31, 4, #[p1 T.g, .string T.nk, T.S, T.P]⟩ :: ⟨O.r, 31, 4, #[p1 O.g, .string O.nk, (.slice (some ⟨gS, oS, none⟩) m sc), (.slice (some ⟨gP, oP, none⟩) m pc)]⟩ :: ⟨T.g, 57, 7, gwA T.rm abB T.nk T.V ((T.last : Nat) : Int) T.mm T.mr⟩ :: ⟨O.g, 57, 7, gwA O.rm abB O.nk (.slice AV 0 cv) ((O.last : Nat) : Int) O.mm O.mr⟩ :: []) (lT (.slice AV 0 cv) O.ws :: lT (.slice (some ⟨gS, oS, none⟩) m sc) O.said :: lT (.slice (some ⟨gP, oP, none⟩) m pc) O.posts :: lT T.V T.ws :: lT T.S T.said :: lT T.P T.posts :: mapT T.mr T.pr :: mapT T.mm T.pm :: mapT O.mr O.pr :: mapT O.mm O.pm :: []) w' → ∀ q u, (#[.int .i64 (l.m : Nat), .string l.nick, .string l.text] : Array Value)[q]? = some u → w'.cell? ⟨gS, oS + jj * 3 + q, none⟩ = some u from fun w' h q u hu => by
            obtain ⟨g6, o6, e6, _, h6⟩ := gT_at cf_ln (h.thing (lT (.slice (some ⟨gS, oS, none⟩) m sc) O.said) (by repeat (first | exact List.Mem.head _ | assumption | apply List.Mem.tail))) (by omega)
            injection e6 with e6
            injection e6 with e7 e8
            subst e7 e8
            exact h6 jj hjs q u (by rw [hls, ← hu]; simp [lnF, lnA]))
          clear hl hls hjl hjs
          go_upto_region 55 with (first | ((with_reducible refine at_load ?_); refine nlc hM ?_ (hv := HIX.out)) | ((first | with_reducible refine at_load ?_ | ((with_reducible refine at_load_g ?_ ?_); (· rfl))); first | refine nll hM ?_ | refine nlc hM ?_ | refine nlp hM ?_) | ((with_reducible refine at_store ?_); first | (refine nlw hM ?_; clear hM; intro wx hM) | (refine nls hM ?_; clear hM; intro wx hM) | (refine nlt hM ?_; clear hM; intro wx hM)) | ((with_reducible refine at_alloc ?_); refine nlz hM ?_; clear hM; intro gx wx hM) | ((with_reducible refine at_box ?_); first | (refine nlb hM ?_; clear hM; intro gx wx hM) | (refine nlx hM ?_; clear hM; intro gx wx hM)))
          refine wp_region_allHB hM (by kernel_rfl) ?_
          clear hM
          intro wd hM
          have HM0 := Lib.hid hM
          have hS := Below.refl wd.heap.size wd
          refine wpAllH_takes [0, 1, 6, 9, 10, 15, 2, 3, 4, 5, 7, 8, 11, 12, 13, 14, 16, 17, 18] (by kernel_rfl) (fun _ _ _ _ _ h => h) hS (by kernel_rfl) ?_
          simp only [pickOps, List.filterMap_cons, List.filterMap_nil, List.getElem?_cons_zero, List.getElem?_cons_succ]
          repeat ((with_reducible apply wpHeld_step); (· rfl); (· (intro wq hSw; first | (go_simp; rfl) | (have hM' := HM0.out.step hSw; first | exact yields_load (C := fun _ => True) (nqc hM') rfl | exact yields_load (C := fun _ => True) (nql hM') rfl | exact yields_load (C := fun _ => True) (nqp hM') rfl | first | exact yields_load (C := fun _ => True) (nqc hM' (hv := HIX.out)) rfl | exact yreads (HXP.out _ hM') row_line rfl | exact yreads (HXS.out _ hM') row_line rfl))); intro K hK; go_simp; (with_reducible refine hK _ ?_); clear hK K)
          refine wpHeld_nil ?_
          clear hS HM0
          refine wpAllH_done (by kernel_rfl) ?_
          go_wp2_with (first | ((first | with_reducible refine at_load ?_ | ((with_reducible refine at_load_g ?_ ?_); (· rfl))); first | refine nll hM ?_ | refine nlc hM ?_ | refine nlp hM ?_) | ((with_reducible refine at_store ?_); first | (refine nlw hM ?_; clear hM; intro wx hM) | (refine nls hM ?_; clear hM; intro wx hM) | (refine nlt hM ?_; clear hM; intro wx hM)) | ((with_reducible refine at_alloc ?_); refine nlz hM ?_; clear hM; intro gx wx hM) | ((with_reducible refine at_box ?_); first | (refine nlb hM ?_; clear hM; intro gx wx hM) | (refine nlx hM ?_; clear hM; intro gx wx hM)))
          rw [cast1 jj]
          refine ⟨⟨jj + 1, Lib.hid hjm, hM, (by first | exact ⟨rfl, rfl, rfl, rfl, rfl, trivial⟩ | exact ⟨trivial, rfl, rfl, rfl, rfl, trivial⟩ | exact ⟨rfl, rfl, rfl, trivial⟩)⟩, ?_⟩
          exact msr hjm
        · have jj1 : ¬ (jj : Int) < (m : Int) := by omega
          go_wp2_with (first | ((with_reducible refine at_load ?_); refine nlc hM ?_ (hv := HIX.out)) | ((first | with_reducible refine at_load ?_ | ((with_reducible refine at_load_g ?_ ?_); (· rfl))); first | refine nll hM ?_ | refine nlc hM ?_ | refine nlp hM ?_) | ((with_reducible refine at_store ?_); first | (refine nlw hM ?_; clear hM; intro wx hM) | (refine nls hM ?_; clear hM; intro wx hM) | (refine nlt hM ?_; clear hM; intro wx hM)) | ((with_reducible refine at_alloc ?_); refine nlz hM ?_; clear hM; intro gx wx hM) | ((with_reducible refine at_box ?_); first | (refine nlb hM ?_; clear hM; intro gx wx hM) | (refine nlx hM ?_; clear hM; intro gx wx hM)))
          rw [← hV, ← hSv, ← hPv] at hM
          rw [cast1 k]
          refine ⟨⟨k + 1, Lib.hid hk2, (pick_mem HPK.out).2 hM, (by first | exact ⟨rfl, rfl, rfl, rfl, trivial⟩ | exact ⟨trivial, rfl, rfl, rfl, trivial⟩ | exact ⟨rfl, rfl, trivial⟩)⟩, ?_⟩
          exact msr hk2
      · have k1 : ¬ (k : Int) < 2 := by omega
        go_wp2_with (first | ((first | with_reducible refine at_load ?_ | ((with_reducible refine at_load_g ?_ ?_); (· rfl))); first | refine nll hM ?_ | refine nlc hM ?_ | refine nlp hM ?_) | ((with_reducible refine at_store ?_); first | (refine nlw hM ?_; clear hM; intro wx hM) | (refine nls hM ?_; clear hM; intro wx hM) | (refine nlt hM ?_; clear hM; intro wx hM)) | ((with_reducible refine at_alloc ?_); refine nlz hM ?_; clear hM; intro gx wx hM) | ((with_reducible refine at_box ?_); first | (refine nlb hM ?_; clear hM; intro gx wx hM) | (refine nlx hM ?_; clear hM; intro gx wx hM)))
        go_ret
        exact ⟨rfl, hM.below⟩
end Go.Proofs.YtlidpdjainmaiaaGreatDoor
