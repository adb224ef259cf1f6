/- FrameKeeps: the row. -/
import Derived.Test.YtomdlmjibojcoaaDoorS5FrQ
import Derived.Test.YtomdlmjibojcoaaDoorS5FrP
set_option maxRecDepth 10000
namespace Go.Vc.L10
open Go Go.Proofs Go.ChangeShapes Go.WideShapes Go.ChangeAt Go.RowKit Go.Proofs.YtomdlmjibojcoaaDoor

theorem contract (H : Type) (enc : TypeId × Value → H) (W : World) (base : Nat) (args : Array Value) (ds gs : List (DataW H)) (before : List MemPlace)
    (hval : ∀ (j : Nat) t v, Tryd.f10.params[j]? = some t → args[j]? = some v → Value.okWide Tryd.prog W .any base t v)
    (hW : DataW.Whole enc Tryd.prog Tryd.f10.params.toList Rows.frameKeepsSpec.vars false W args.toList ds gs before) (hL : laidMetH Tryd.prog Rows.frameKeepsRow.laid W)
    (hsz : (DataW.weightsEach Tryd.prog (Tryd.f10.params.toList ++ []) (ds ++ gs)).all (· ≤ reachBytes) = true) :
    Calls Tryd.prog 10 args W fun e W' => ∃ v, e = .returned v ∧ Rows.frameKeepsSpec.post enc Tryd.prog Tryd.f10 false true false false W args v W' := by
  have hW' := hW
  obtain ⟨p, q, hA0, hV, rfl, hfz, hnd⟩ := hW
  have hp : Tryd.f10.params = #[43, 43] := by kernel_rfl
  have hA : DataW.TrodAll enc Tryd.prog W 0 (fun _ => true) true [43, 43] args.toList ds p := by rw [hp] at hA0; exact hA0
  rw [hp] at hval hsz
  obtain ⟨v0, v1, d0, d1, p0, p1, rfl, rfl, rfl, h0, h1⟩ := trodAll_two hA
  obtain ⟨rfl, rfl⟩ := trodVars_none hV
  obtain ⟨p0', m0, c0, l0, rfl, hs0, ho0, hb0⟩ := frms_arg (hval 0 43 v0 rfl rfl) h0 (WOk.top hsz (j := 0) rfl rfl)
  obtain ⟨p1', m1, c1, l1, rfl, hs1, ho1, hb1⟩ := frms_arg (hval 1 43 v1 rfl rfl) h1 (WOk.top hsz (j := 1) rfl rfl)
  exact ends (s := Rows.frameKeepsSpec) rfl (by kernel_rfl) (by kernel_rfl) rfl hW' (keeps_law l0 l1 ho0 ho1 hb0 W.heap (table hL) hs0 hs1)

theorem reads (os : Os) {H : Type} (enc : TypeId × Value → H) : ∃ places, DataW.whole enc Tryd.prog ((laidWorld os).forCall (fun _ _ => 0) ⟨#[], #[.slice none 0 0, .slice none 0 0], []⟩).memory Tryd.f10.params.toList Rows.frameKeepsSpec.vars false
    (#[.slice none 0 0, .slice none 0 0] : Array Value).toList 8 = some ([.nil, .nil], [], places) :=
  ⟨[], by kernel_rfl⟩

set_option maxRecDepth 100000 in
theorem lifted (os : Os) (started : os.Started) (H : Type) (enc : TypeId × Value → H) (F : Stop.Interp) :
    ReturnsInHanded {} Tryd.checked os 10 .any ((OpenSpec.ofChange Rows.frameKeepsSpec).preRow enc Tryd.prog Tryd.f10 Rows.frameKeepsRow.domain false Rows.frameKeepsRow.laid) (((OpenSpec.ofChange Rows.frameKeepsSpec).at F).post enc Tryd.prog Tryd.f10 false true false false) := by
  obtain ⟨places, hx⟩ := reads os enc
  refine returnsInHanded_of_row (C := Tryd.checked) (s := OpenSpec.ofChange Rows.frameKeepsSpec) own started (by kernel_rfl) Tryd.func10
    (witness_row_at (enc := enc) (C := Tryd.checked) false (laidWorld os) #[.slice none 0 0, .slice none 0 0] rfl (by kernel_rfl) (by kernel_rfl) (by kernel_rfl)
      (OpenSpec.preRow_of_cond 8 hx (by kernel_rfl) (fun k hk => by cases hk) (by kernel_rfl) (laid_met os _))) ?_
  intro W base args ds gs before hval hW _ _ hsz hL _ _
  exact contract H enc W base args ds gs before hval hW hL hsz

theorem said : Rows.FrameKeepsSaid :=
  OpenClaim.holds_of_cond 10 Tryd.f10 rfl rfl rfl rfl rfl rfl rfl ⟨rfl, rfl, rfl, rfl, rfl⟩ rfl rfl rfl rfl rfl (by kernel_rfl) Tryd.func10 (by kernel_rfl)
    (of_decide_eq_true (by kernel_rfl)) (by unfold Func.isWrapper; first | (rw [if_pos (by decide +kernel)]; kernel_rfl) | (rw [if_neg (by decide +kernel)]; exact ⟨rfl, rfl⟩))
    (fun os started H enc _ F => by rw [OpenClaim.pre_eq_preRow]; exact lifted os started H enc F)

theorem plain (f : FuncId) (fn : Func) (hf : Tryd.pinned.checked.prog.funcNamed "turnout/turnoutlaw05.FrameKeeps" = some f) (hfn : Tryd.pinned.checked.prog.funcs[f]? = some fn) :
    true = Tryd.pinned.checked.prog.looks [] ∧ ∀ (j : Nat) t, fn.params[j]? = some t → Tryd.pinned.checked.prog.wantsStandIn t = false := by
  obtain rfl : f = 10 := Option.some.inj ((show Tryd.prog.funcNamed "turnout/turnoutlaw05.FrameKeeps" = some 10 by kernel_rfl).symm.trans hf) |>.symm
  obtain rfl : fn = Tryd.f10 := (Option.some.inj (Tryd.func10.symm.trans hfn)).symm
  refine ⟨by kernel_rfl, fun j t ht => ?_⟩
  have h : (Tryd.f10.params.toList.all fun t => !Tryd.prog.wantsStandIn t) = true := by kernel_rfl
  have := List.all_eq_true.1 h t (by simpa using Array.mem_of_getElem? ht)
  exact (by simpa using this : Tryd.prog.wantsStandIn t = false)

theorem card : Rows.FrameKeepsCardSaid :=
  Claim7.holds_tied_plain_at .later [] _ _ _ _ said (fun _ h => by cases h) (by kernel_rfl) (fun _ h => by cases h) frameKeeps_row_tie rfl ⟨rfl, rfl⟩ (by kernel_rfl) rfl plain (by kernel_rfl)

end Go.Vc.L10

namespace Go.Proofs.YtomdlmjibojcoaaDoor

/-- FrameKeeps, for every input that the row lets in. -/
theorem frameKeeps_card : Rows.FrameKeepsCardSaid := Go.Vc.L10.card

end Go.Proofs.YtomdlmjibojcoaaDoor
