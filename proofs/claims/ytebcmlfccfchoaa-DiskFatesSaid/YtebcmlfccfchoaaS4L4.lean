/- DiskFates: the row. -/
import Derived.Test.YtebcmlfccfchoaaS4D4R
import Derived.Test.YtebcmlfccfchoaaS4D4T
set_option maxRecDepth 10000
namespace Go.Vc.L4
open Go Go.Proofs Go.ChangeShapes Go.WideShapes Go.ChangeAt Go.RowKit Go.Proofs.Ytebcmlfccfchoaa

theorem contract (H : Type) (enc : TypeId × Value → H) (W : World) (base : Nat) (args : Array Value) (ds gs : List (DataW H)) (before : List MemPlace)
    (hval : ∀ (j : Nat) t v, Try.f4.params[j]? = some t → args[j]? = some v → Value.okWide Try.prog W .any base t v)
    (hW : DataW.Whole enc Try.prog Try.f4.params.toList Rows.diskFatesSpec.vars false W args.toList ds gs before)
    (hsz : (DataW.weightsEach Try.prog (Try.f4.params.toList ++ []) (ds ++ gs)).all (· ≤ reachBytes) = true) :
    Calls Try.prog 4 args W fun e W' => ∃ v, e = .returned v ∧ Rows.diskFatesSpec.post enc Try.prog Try.f4 false true false false W args v W' := by
  have hW' := hW
  obtain ⟨p, q, hA0, hV, rfl, hfz, hnd⟩ := hW
  have hp : Try.f4.params = #[22, 22, 28] := by kernel_rfl
  have hA : DataW.TrodAll enc Try.prog W 0 (fun _ => true) true [22, 22, 28] args.toList ds p := by rw [hp] at hA0; exact hA0
  rw [hp] at hval hsz
  obtain ⟨v0, v1, v2, d0, d1, d2, p0, p1, p2, rfl, rfl, rfl, h0, h1, h2⟩ := trodAll_three hA
  obtain ⟨rfl, rfl⟩ := trodVars_none hV
  obtain ⟨p0', m0, c0, l0, rfl, hs0, ho0, hd0⟩ := puts_arg (hval 0 22 v0 rfl rfl) h0
  have hb0 := many_le hsz (j := 0) rfl rfl undPuts bPut hd0
  have hk0 : l0.length = m0 := by have := hs0.1; simpa using this
  obtain ⟨p1', m1, c1, l1, rfl, hs1, ho1, hd1⟩ := puts_arg (hval 1 22 v1 rfl rfl) h1
  have hb1 := many_le hsz (j := 1) rfl rfl undPuts bPut hd1
  have hk1 : l1.length = m1 := by have := hs1.1; simpa using this
  obtain ⟨p2', m2, c2, l2, rfl, hs2, ho2, hd2⟩ := fates_arg (hval 2 28 v2 rfl rfl) h2
  have hb2 := many_le hsz (j := 2) rfl rfl undFates bFate hd2
  have hk2 : l2.length = m2 := by have := hs2.1; simpa using this
  exact ends (s := Rows.diskFatesSpec) rfl (by kernel_rfl) (by kernel_rfl) rfl hW' (fates_law l0 l1 l2 ho0 (by omega) (by omega) W.heap hs0 hs1 hs2)

theorem reads (os : Os) {H : Type} (enc : TypeId × Value → H) : ∃ places, DataW.whole enc Try.prog ((plainWorld os).forCall (fun _ _ => 0) ⟨#[], #[.slice none 0 0, .slice none 0 0, .slice none 0 0], []⟩).memory Try.f4.params.toList Rows.diskFatesSpec.vars false
    (#[.slice none 0 0, .slice none 0 0, .slice none 0 0] : Array Value).toList 8 = some ([.nil, .nil, .nil], [], places) :=
  ⟨[], by kernel_rfl⟩

set_option maxRecDepth 100000 in
theorem lifted (os : Os) (started : os.Started) (H : Type) (enc : TypeId × Value → H) (F : Stop.Interp) :
    ReturnsInHanded {} Try.checked os 4 .any ((OpenSpec.ofChange Rows.diskFatesSpec).preRow enc Try.prog Try.f4 Rows.diskFatesRow.domain false Rows.diskFatesRow.laid) (((OpenSpec.ofChange Rows.diskFatesSpec).at F).post enc Try.prog Try.f4 false true false false) := by
  obtain ⟨places, hx⟩ := reads os enc
  refine returnsInHanded_of_row (C := Try.checked) (s := OpenSpec.ofChange Rows.diskFatesSpec) own started (by kernel_rfl) Try.func4
    (witness_row_at (enc := enc) (C := Try.checked) false (plainWorld os) #[.slice none 0 0, .slice none 0 0, .slice none 0 0] rfl (by kernel_rfl) (by kernel_rfl) (by kernel_rfl)
      (OpenSpec.preRow_of_cond 8 hx (by kernel_rfl) (fun k hk => by cases hk) (by kernel_rfl) ⟨[], rfl, List.nodup_nil, fun _ _ h => by cases h⟩)) ?_
  intro W base args ds gs before hval hW _ _ hsz _ _ _
  exact contract H enc W base args ds gs before hval hW hsz

theorem said : Rows.DiskFatesSaid :=
  OpenClaim.holds_of_cond 4 Try.f4 rfl rfl rfl rfl rfl rfl rfl ⟨rfl, rfl, rfl, rfl, rfl⟩ rfl rfl rfl rfl rfl (by kernel_rfl) Try.func4 (by kernel_rfl)
    (of_decide_eq_true (by kernel_rfl)) (by unfold Func.isWrapper; first | (rw [if_pos (by decide +kernel)]; kernel_rfl) | (rw [if_neg (by decide +kernel)]; exact ⟨rfl, rfl⟩))
    (fun os started H enc _ F => by rw [OpenClaim.pre_eq_preRow]; exact lifted os started H enc F)

end Go.Vc.L4

namespace Go.Proofs.Ytebcmlfccfchoaa

/-- DiskFates, for every input that the row lets in. -/
theorem diskFates_said : Rows.DiskFatesSaid := Go.Vc.L4.said

end Go.Proofs.Ytebcmlfccfchoaa
