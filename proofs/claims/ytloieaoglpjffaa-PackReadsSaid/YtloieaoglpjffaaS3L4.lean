/- PackReads: the row. -/
import Derived.Test.YtloieaoglpjffaaS3PkQ
import Derived.Test.YtloieaoglpjffaaS3PkJ
set_option maxRecDepth 10000
namespace Go.Vc.L4
open Go Go.Proofs Go.ChangeShapes Go.WideShapes Go.ChangeAt Go.RowKit Go.Proofs.Ytloieaoglpjffaa

theorem contract (H : Type) (enc : TypeId × Value → H) (W : World) (base : Nat) (args : Array Value) (ds gs : List (DataW H)) (before : List MemPlace)
    (hval : ∀ (j : Nat) t v, Try.f4.params[j]? = some t → args[j]? = some v → Value.okWide Try.prog W .any base t v)
    (hW : DataW.Whole enc Try.prog Try.f4.params.toList Rows.packReadsSpec.vars false W args.toList ds gs before)
    (hsz : (DataW.weightsEach Try.prog (Try.f4.params.toList ++ []) (ds ++ gs)).all (· ≤ reachBytes) = true) :
    Calls Try.prog 4 args W fun e W' => ∃ v, e = .returned v ∧ Rows.packReadsSpec.post enc Try.prog Try.f4 false true false false W args v W' := by
  have hW' := hW
  obtain ⟨p, q, hA0, hV, rfl, hfz, hnd⟩ := hW
  have hp : Try.f4.params = #[9, 9, 38] := by kernel_rfl
  have hA : DataW.TrodAll enc Try.prog W 0 (fun _ => true) true [9, 9, 38] args.toList ds p := by rw [hp] at hA0; exact hA0
  rw [hp] at hval hsz
  obtain ⟨v0, v1, v2, d0, d1, d2, p0, p1, p2, rfl, rfl, rfl, h0, h1, h2⟩ := trodAll_three hA
  obtain ⟨rfl, rfl⟩ := trodVars_none hV
  obtain ⟨b0, rfl, rfl, _, _⟩ := Go.ChangeMaps.open_string undStr (hval 0 9 v0 rfl rfl) h0
  have hb0 := (WOk.top hsz (j := 0) rfl rfl).text
  obtain ⟨b1, rfl, rfl, _, _⟩ := Go.ChangeMaps.open_string undStr (hval 1 9 v1 rfl rfl) h1
  have hb1 := (WOk.top hsz (j := 1) rfl rfl).text
  obtain ⟨p2', m2, c2, l2, rfl, hs2, ho2, hb2⟩ := wants_arg (hval 2 38 v2 rfl rfl) h2 (WOk.top hsz (j := 2) rfl rfl)
  exact ends (s := Rows.packReadsSpec) rfl (by kernel_rfl) (by kernel_rfl) rfl hW' (reads_law b0 b1 (by have h2 : reachBytes = 140737488351232 := rfl; rw [h2] at hb0; simpa using hb0) (by have h2 : reachBytes = 140737488351232 := rfl; rw [h2] at hb1; simpa using hb1) l2 ho2 hb2 W.heap hs2)

theorem reads (os : Os) {H : Type} (enc : TypeId × Value → H) : ∃ places, DataW.whole enc Try.prog ((plainWorld os).forCall (fun _ _ => 0) ⟨#[], #[.string ByteArray.empty, .string ByteArray.empty, .slice none 0 0], []⟩).memory Try.f4.params.toList Rows.packReadsSpec.vars false
    (#[.string ByteArray.empty, .string ByteArray.empty, .slice none 0 0] : Array Value).toList 8 = some ([.lit (.string []), .lit (.string []), .nil], [], places) :=
  ⟨[], by kernel_rfl⟩

set_option maxRecDepth 100000 in
theorem lifted (os : Os) (started : os.Started) (H : Type) (enc : TypeId × Value → H) (F : Stop.Interp) :
    ReturnsInHanded {} Try.checked os 4 .any ((OpenSpec.ofChange Rows.packReadsSpec).preRow enc Try.prog Try.f4 Rows.packReadsRow.domain false Rows.packReadsRow.laid) (((OpenSpec.ofChange Rows.packReadsSpec).at F).post enc Try.prog Try.f4 false true false false) := by
  obtain ⟨places, hx⟩ := reads os enc
  refine returnsInHanded_of_row (C := Try.checked) (s := OpenSpec.ofChange Rows.packReadsSpec) own started (by kernel_rfl) Try.func4
    (witness_row_at (enc := enc) (C := Try.checked) false (plainWorld os) #[.string ByteArray.empty, .string ByteArray.empty, .slice none 0 0] rfl (by kernel_rfl) (by kernel_rfl) (by kernel_rfl)
      (OpenSpec.preRow_of_cond 8 hx (by kernel_rfl) (fun k hk => by cases hk) (by kernel_rfl) ⟨[], rfl, List.nodup_nil, fun _ _ h => by cases h⟩)) ?_
  intro W base args ds gs before hval hW _ _ hsz _ _ _
  exact contract H enc W base args ds gs before hval hW hsz

theorem said : Rows.PackReadsSaid :=
  OpenClaim.holds_of_cond 4 Try.f4 rfl rfl rfl rfl rfl rfl rfl ⟨rfl, rfl, rfl, rfl, rfl⟩ rfl rfl rfl rfl rfl (by kernel_rfl) Try.func4 (by kernel_rfl)
    (of_decide_eq_true (by kernel_rfl)) (by unfold Func.isWrapper; first | (rw [if_pos (by decide +kernel)]; kernel_rfl) | (rw [if_neg (by decide +kernel)]; exact ⟨rfl, rfl⟩))
    (fun os started H enc _ F => by rw [OpenClaim.pre_eq_preRow]; exact lifted os started H enc F)

end Go.Vc.L4

namespace Go.Proofs.Ytloieaoglpjffaa

/-- PackReads, for every input that the row lets in. -/
theorem packReads_said : Rows.PackReadsSaid := Go.Vc.L4.said

end Go.Proofs.Ytloieaoglpjffaa
