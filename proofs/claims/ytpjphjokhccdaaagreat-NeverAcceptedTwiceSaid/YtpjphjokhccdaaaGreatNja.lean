/- Seat n: wildmat: the star's characters, isStar, stands. -/
import Derived.Test.YtpjphjokhccdaaaGreatNgd
import Derived.Lib.Bytealg
import Derived.Shelf.Abstract
namespace Go.Proofs.YtpjphjokhccdaaaGreat
open Go Go.RowKit Go.Bul Go.Thg Go.Lin Go.Maps
abbrev nameB : ByteArray := { data := #[43, 45, 46, 48, 49, 50, 51, 52, 53, 54, 55, 56, 57, 95, 97, 98, 99, 100, 101, 102, 103, 104, 105, 106, 107, 108, 109, 110, 111, 112, 113, 114, 115, 116, 117, 118, 119, 120, 121, 122] }
set_option maxRecDepth 20000 in
theorem chars_any (w : World) : Calls Tryz.prog 142 #[.agg #[]] w fun e w' => e = .returned (.string nameB) ∧ Below w.heap.size w w' := by
  have hM := Mem.start [] w
  go_enter Tryz.func142, Tryz.ntmps142
  go_wp2_with (first | ((first | with_reducible refine at_load ?_ | ((with_reducible refine at_load_g ?_ ?_); (· rfl))); first | refine nll hM ?_ | refine nlc hM ?_ | refine nlp hM ?_) | ((with_reducible refine at_store ?_); first | (refine nlw hM ?_; clear hM; intro wx hM) | (refine nls hM ?_; clear hM; intro wx hM) | (refine nlt hM ?_; clear hM; intro wx hM)) | ((with_reducible refine at_alloc ?_); refine nlz hM ?_; clear hM; intro gx wx hM) | ((with_reducible refine at_box ?_); first | (refine nlb hM ?_; clear hM; intro gx wx hM) | (refine nlx hM ?_; clear hM; intro gx wx hM)))
  go_ret
  exact ⟨rfl, hM.below⟩
abbrev starV : Value := .iface 131 (.agg #[])
theorem run_mkstar (w : World) : (Instr.makeInterface 131 (.agg #[])).run Tryz.prog w = .ok starV w := by kernel_rfl
theorem run_asstar (w : World) : (Instr.typeAssert starV 182 131 true).run Tryz.prog w = .ok (.tuple #[.agg #[], .bool true]) w := by kernel_rfl
theorem zero_star : ZeroTy Tryz.prog 131 0 #[] := ⟨⟨.agg _, by kernel_rfl, rfl, rfl⟩⟩
set_option maxRecDepth 20000 in
theorem isStar_any (w : World) : Calls Tryz.prog 111 #[starV] w fun e w' => e = .returned (.bool true) ∧ Below w.heap.size w w' := by
  have hM := Mem.start [] w
  have ha := run_asstar
  go_enter Tryz.func111, Tryz.ntmps111
  go_wp2_with (first | ((with_reducible refine at_alloc ?_); refine nlz hM ?_ (hz := zero_star); clear hM; intro gx wx hM) | ((first | with_reducible refine at_load ?_ | ((with_reducible refine at_load_g ?_ ?_); (· rfl))); first | refine nll hM ?_ | refine nlc hM ?_ | refine nlp hM ?_) | ((with_reducible refine at_store ?_); first | (refine nlw hM ?_; clear hM; intro wx hM) | (refine nls hM ?_; clear hM; intro wx hM) | (refine nlt hM ?_; clear hM; intro wx hM)) | ((with_reducible refine at_alloc ?_); refine nlz hM ?_; clear hM; intro gx wx hM) | ((with_reducible refine at_box ?_); first | (refine nlb hM ?_; clear hM; intro gx wx hM) | (refine nlx hM ?_; clear hM; intro gx wx hM)))
  go_ret
  exact ⟨rfl, hM.below⟩
theorem upon_method {P : Program} {o : Oper} {a : Act} {K : Act → World → Prop} {Q : Exit → Act → World → Prop} {n : Nat} {t : TypeId} {v r : Value} {nm : String} {f : FuncId} {w : World} (hm : (method n t v nm).run P w = .ok (f, r) w) (he : ∀ args w, (callFunc f args).run P w = .ok (.enter f args) w)
    (h : Oper.upon P o a K Q (.ok (.enter f #[r]) w)) : Oper.upon P o a K Q (((method n t v nm).run P w).andThen fun a w' => (callFunc a.1 #[a.2]).run P w') := by
  rw [hm]
  show Oper.upon P o a K Q ((callFunc f #[r]).run P w)
  rw [he]
  exact h
set_option maxRecDepth 20000 in
theorem index_any (c : Nat) (hc : c = 97 ∨ c = 46 ∨ c = 98) (w : World) :
    Calls Tryz.prog 56 #[.string nameB, .int .u8 (c : Nat)] w fun e w' => (∃ z : Nat, e = .returned (.int .i64 (z : Nat))) ∧ w = w' := by
  have hr := fun (w : World) => Lib.run_indexByteString (P := Tryz.prog) nameB (c : Int) w
  have hp : ∃ z : Nat, Lib.indexByte nameB.data.toList (c : Int).toNat.toUInt8 = (z : Int) := by
    rcases hc with rfl | rfl | rfl
    · exact ⟨14, by decide +kernel⟩
    · exact ⟨2, by decide +kernel⟩
    · exact ⟨15, by decide +kernel⟩
  obtain ⟨z, hz⟩ := hp
  rw [hz] at hr
  clear hz hc
  go_enter Tryz.func56, Tryz.ntmps56
  go_wp2
  rw [run_callFunc_extern Tryz.func103 (by kernel_rfl) (by kernel_rfl) (by kernel_rfl) (e := Extern.BytealgIndexByte.indexByte) (by kernel_rfl), hr]
  simp only [Result.andThen]
  rw [Oper.upon_value]
  go_wp2
  go_ret
  exact ⟨⟨_, rfl⟩, rfl⟩
set_option maxRecDepth 20000 in
theorem stands_any (w : World) (c : Nat) (hc : c = 97 ∨ c = 46 ∨ c = 98) : Calls Tryz.prog 110 #[starV, .int .u8 (c : Nat)] w fun e w' => e = .returned (.bool true) ∧ Below w.heap.size w w' := by
  have hM := Mem.start [] w
  have HC := Lib.hid (fun w => chars_any w)
  have HX := Lib.hid (fun w => index_any c hc w)
  clear hc
  go_enter Tryz.func110, Tryz.ntmps110
  go_wp2_with fail
  refine upon_method (f := 142) (r := .agg #[]) (by kernel_rfl) (enters_of Tryz.func142 (by kernel_rfl) rfl) ?_
  rw [Oper.upon_enter]
  refine (HC.out _).mono ?_
  rintro e w1 ⟨rfl, hb⟩
  replace hM := hM.step hb
  clear hb
  go_wp2_with (first | ((with_reducible refine (HC.out _).mono ?_); rintro e w1 ⟨rfl, hb⟩; replace hM := hM.step hb; clear hb) | ((with_reducible refine (HX.out _).mono ?_); rintro e w1 ⟨⟨z, rfl⟩, rfl⟩; have z0 : (0 : Int) ≤ (z : Int) := Int.natCast_nonneg _) | ((first | with_reducible refine at_load ?_ | ((with_reducible refine at_load_g ?_ ?_); (· rfl))); first | refine nll hM ?_ | refine nlc hM ?_ | refine nlp hM ?_) | ((with_reducible refine at_store ?_); first | (refine nlw hM ?_; clear hM; intro wx hM) | (refine nls hM ?_; clear hM; intro wx hM) | (refine nlt hM ?_; clear hM; intro wx hM)) | ((with_reducible refine at_alloc ?_); refine nlz hM ?_; clear hM; intro gx wx hM) | ((with_reducible refine at_box ?_); first | (refine nlb hM ?_; clear hM; intro gx wx hM) | (refine nlx hM ?_; clear hM; intro gx wx hM)))
  go_ret
  exact ⟨rfl, hM.below⟩
end Go.Proofs.YtpjphjokhccdaaaGreat
