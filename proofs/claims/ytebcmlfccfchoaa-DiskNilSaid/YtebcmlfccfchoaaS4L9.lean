/- DiskNil: the row. -/
import Derived.Test.YtebcmlfccfchoaaS4D4R
import Derived.Test.YtebcmlfccfchoaaS4D4N
set_option maxRecDepth 10000
namespace Go.Vc.L9
open Go Go.Proofs Go.ChangeShapes Go.WideShapes Go.ChangeAt Go.RowKit Go.Proofs.Ytebcmlfccfchoaa

theorem contract (H : Type) (enc : TypeId × Value → H) (W : World) (base : Nat) (args : Array Value) (ds gs : List (DataW H)) (before : List MemPlace)
    (hval : ∀ (j : Nat) t v, Try.f9.params[j]? = some t → args[j]? = some v → Value.okWide Try.prog W .any base t v)
    (hW : DataW.Whole enc Try.prog Try.f9.params.toList Rows.diskNilSpec.vars false W args.toList ds gs before)
    (hsz : (DataW.weightsEach Try.prog (Try.f9.params.toList ++ []) (ds ++ gs)).all (· ≤ reachBytes) = true) :
    Calls Try.prog 9 args W fun e W' => ∃ v, e = .returned v ∧ Rows.diskNilSpec.post enc Try.prog Try.f9 false true false false W args v W' := by
  have hW' := hW
  obtain ⟨p, q, hA0, hV, rfl, hfz, hnd⟩ := hW
  have hp : Try.f9.params = #[3, 9, 28] := by kernel_rfl
  have hA : DataW.TrodAll enc Try.prog W 0 (fun _ => true) true [3, 9, 28] args.toList ds p := by rw [hp] at hA0; exact hA0
  rw [hp] at hval hsz
  obtain ⟨v0, v1, v2, d0, d1, d2, p0, p1, p2, rfl, rfl, rfl, h0, h1, h2⟩ := trodAll_three hA
  obtain ⟨rfl, rfl⟩ := trodVars_none hV
  obtain ⟨n0, rfl, hn0⟩ := int_in undInt (hval 0 3 v0 rfl rfl) h0
  obtain ⟨b1, rfl, rfl, _, hb1⟩ := Go.ChangeMaps.open_string undStr (hval 1 9 v1 rfl rfl) h1
  obtain ⟨p2', m2, c2, l2, rfl, hs2, ho2, hd2⟩ := fates_arg (hval 2 28 v2 rfl rfl) h2
  have hb2 := many_le hsz (j := 2) rfl rfl undFates bFate hd2
  have hk2 : l2.length = m2 := by have := hs2.1; simpa using this
  exact ends (s := Rows.diskNilSpec) rfl (by kernel_rfl) (by kernel_rfl) rfl hW' (nil_law n0 b1 W.heap)

theorem reads (os : Os) {H : Type} (enc : TypeId × Value → H) : ∃ places, DataW.whole enc Try.prog ((plainWorld os).forCall (fun _ _ => 0) ⟨#[], #[.int .i64 0, .string ByteArray.empty, .slice none 0 0], []⟩).memory Try.f9.params.toList Rows.diskNilSpec.vars false
    (#[.int .i64 0, .string ByteArray.empty, .slice none 0 0] : Array Value).toList 8 = some ([.lit (.int .i64 0), .lit (.string []), .nil], [], places) :=
  ⟨[], by kernel_rfl⟩

set_option maxRecDepth 100000 in
theorem lifted (os : Os) (started : os.Started) (H : Type) (enc : TypeId × Value → H) (F : Stop.Interp) :
    ReturnsInHanded {} Try.checked os 9 .any ((OpenSpec.ofChange Rows.diskNilSpec).preRow enc Try.prog Try.f9 Rows.diskNilRow.domain false Rows.diskNilRow.laid) (((OpenSpec.ofChange Rows.diskNilSpec).at F).post enc Try.prog Try.f9 false true false false) := by
  obtain ⟨places, hx⟩ := reads os enc
  refine returnsInHanded_of_row (C := Try.checked) (s := OpenSpec.ofChange Rows.diskNilSpec) own started (by kernel_rfl) Try.func9
    (witness_row_at (enc := enc) (C := Try.checked) false (plainWorld os) #[.int .i64 0, .string ByteArray.empty, .slice none 0 0] rfl (by kernel_rfl) (by kernel_rfl) (by kernel_rfl)
      (OpenSpec.preRow_of_cond 8 hx (by kernel_rfl) (fun k hk => by cases hk) (by kernel_rfl) ⟨[], rfl, List.nodup_nil, fun _ _ h => by cases h⟩)) ?_
  intro W base args ds gs before hval hW _ _ hsz _ _ _
  exact contract H enc W base args ds gs before hval hW hsz

theorem said : Rows.DiskNilSaid :=
  OpenClaim.holds_of_cond 9 Try.f9 rfl rfl rfl rfl rfl rfl rfl ⟨rfl, rfl, rfl, rfl, rfl⟩ rfl rfl rfl rfl rfl (by kernel_rfl) Try.func9 (by kernel_rfl)
    (of_decide_eq_true (by kernel_rfl)) (by unfold Func.isWrapper; first | (rw [if_pos (by decide +kernel)]; kernel_rfl) | (rw [if_neg (by decide +kernel)]; exact ⟨rfl, rfl⟩))
    (fun os started H enc _ F => by rw [OpenClaim.pre_eq_preRow]; exact lifted os started H enc F)

end Go.Vc.L9

namespace Go.Proofs.Ytebcmlfccfchoaa

/-- DiskNil, for every input that the row lets in. -/
theorem diskNil_said : Rows.DiskNilSaid := Go.Vc.L9.said

end Go.Proofs.Ytebcmlfccfchoaa
