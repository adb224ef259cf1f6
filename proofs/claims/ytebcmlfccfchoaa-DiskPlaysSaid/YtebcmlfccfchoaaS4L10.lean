/- DiskPlays: the row. -/
import Derived.Test.YtebcmlfccfchoaaS4D4W
set_option maxRecDepth 10000
namespace Go.Vc.L10
open Go Go.Proofs Go.ChangeShapes Go.WideShapes Go.ChangeAt Go.RowKit Go.Proofs.Ytebcmlfccfchoaa

theorem contract (H : Type) (enc : TypeId × Value → H) (W : World) (base : Nat) (args : Array Value) (ds gs : List (DataW H)) (before : List MemPlace)
    (hval : ∀ (j : Nat) t v, Try.f10.params[j]? = some t → args[j]? = some v → Value.okWide Try.prog W .any base t v)
    (hW : DataW.Whole enc Try.prog Try.f10.params.toList Rows.diskPlaysSpec.vars false W args.toList ds gs before)
    (hsz : (DataW.weightsEach Try.prog (Try.f10.params.toList ++ []) (ds ++ gs)).all (· ≤ reachBytes) = true) :
    Calls Try.prog 10 args W fun e W' => ∃ v, e = .returned v ∧ Rows.diskPlaysSpec.post enc Try.prog Try.f10 false true false false W args v W' := by
  have hW' := hW
  obtain ⟨p, q, hA0, hV, rfl, hfz, hnd⟩ := hW
  have hp : Try.f10.params = #[3, 9, 66] := by kernel_rfl
  have hA : DataW.TrodAll enc Try.prog W 0 (fun _ => true) true [3, 9, 66] args.toList ds p := by rw [hp] at hA0; exact hA0
  rw [hp] at hval hsz
  obtain ⟨v0, v1, v2, d0, d1, d2, p0, p1, p2, rfl, rfl, rfl, h0, h1, h2⟩ := trodAll_three hA
  obtain ⟨rfl, rfl⟩ := trodVars_none hV
  obtain ⟨n0, rfl, hn0⟩ := int_in undInt (hval 0 3 v0 rfl rfl) h0
  obtain ⟨b1, rfl, rfl, _, hb1⟩ := Go.ChangeMaps.open_string undStr (hval 1 9 v1 rfl rfl) h1
  obtain ⟨p2', m2, c2, l2, rfl, hs2, ho2, hb2⟩ := ops_arg (hval 2 66 v2 rfl rfl) h2 (WOk.top hsz (j := 2) rfl rfl)
  exact ends (s := Rows.diskPlaysSpec) rfl (by kernel_rfl) (by kernel_rfl) rfl hW' (plays_law n0 b1 l2 hn0.1 hn0.2 hb1 hb2 W.heap ho2 hs2)

theorem reads (os : Os) {H : Type} (enc : TypeId × Value → H) : ∃ places, DataW.whole enc Try.prog ((plainWorld os).forCall (fun _ _ => 0) ⟨#[], #[.int .i64 0, .string ByteArray.empty, .slice none 0 0], []⟩).memory Try.f10.params.toList Rows.diskPlaysSpec.vars false
    (#[.int .i64 0, .string ByteArray.empty, .slice none 0 0] : Array Value).toList 8 = some ([.lit (.int .i64 0), .lit (.string []), .nil], [], places) :=
  ⟨[], by kernel_rfl⟩

set_option maxRecDepth 100000 in
theorem lifted (os : Os) (started : os.Started) (H : Type) (enc : TypeId × Value → H) (F : Stop.Interp) :
    ReturnsInHanded {} Try.checked os 10 .any ((OpenSpec.ofChange Rows.diskPlaysSpec).preRow enc Try.prog Try.f10 Rows.diskPlaysRow.domain false Rows.diskPlaysRow.laid) (((OpenSpec.ofChange Rows.diskPlaysSpec).at F).post enc Try.prog Try.f10 false true false false) := by
  obtain ⟨places, hx⟩ := reads os enc
  refine returnsInHanded_of_row (C := Try.checked) (s := OpenSpec.ofChange Rows.diskPlaysSpec) own started (by kernel_rfl) Try.func10
    (witness_row_at (enc := enc) (C := Try.checked) false (plainWorld os) #[.int .i64 0, .string ByteArray.empty, .slice none 0 0] rfl (by kernel_rfl) (by kernel_rfl) (by kernel_rfl)
      (OpenSpec.preRow_of_cond 8 hx (by kernel_rfl) (fun k hk => by cases hk) (by kernel_rfl) ⟨[], rfl, List.nodup_nil, fun _ _ h => by cases h⟩)) ?_
  intro W base args ds gs before hval hW _ _ hsz _ _ _
  exact contract H enc W base args ds gs before hval hW hsz

theorem said : Rows.DiskPlaysSaid :=
  OpenClaim.holds_of_cond 10 Try.f10 rfl rfl rfl rfl rfl rfl rfl ⟨rfl, rfl, rfl, rfl, rfl⟩ rfl rfl rfl rfl rfl (by kernel_rfl) Try.func10 (by kernel_rfl)
    (of_decide_eq_true (by kernel_rfl)) (by unfold Func.isWrapper; first | (rw [if_pos (by decide +kernel)]; kernel_rfl) | (rw [if_neg (by decide +kernel)]; exact ⟨rfl, rfl⟩))
    (fun os started H enc _ F => by rw [OpenClaim.pre_eq_preRow]; exact lifted os started H enc F)

end Go.Vc.L10

namespace Go.Proofs.Ytebcmlfccfchoaa

/-- DiskPlays, for every input that the row lets in. -/
theorem diskPlays_said : Rows.DiskPlaysSaid := Go.Vc.L10.said

end Go.Proofs.Ytebcmlfccfchoaa
