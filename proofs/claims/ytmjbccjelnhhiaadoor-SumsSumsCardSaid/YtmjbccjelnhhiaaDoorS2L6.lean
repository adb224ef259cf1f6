/- SumsSums: the row and its card. -/
import Derived.Test.YtmjbccjelnhhiaaDoorS2R
set_option maxRecDepth 10000
namespace Go.Vc.L6
open Go Go.Proofs Go.ChangeShapes Go.WideShapes Go.ChangeAt Go.RowKit Go.Proofs.YtmjbccjelnhhiaaDoor

theorem contract (H : Type) (enc : TypeId × Value → H) (W : World) (base : Nat) (args : Array Value) (ds gs : List (DataW H)) (before : List MemPlace)
    (hval : ∀ (j : Nat) t v, Tryd.f6.params[j]? = some t → args[j]? = some v → Value.okWide Tryd.prog W .any base t v)
    (hW : DataW.Whole enc Tryd.prog Tryd.f6.params.toList Rows.sumsSumsSpec.vars false W args.toList ds gs before) (hL : laidMetH Tryd.prog Rows.sumsSumsRow.laid W)
    (hsz : (DataW.weightsEach Tryd.prog (Tryd.f6.params.toList ++ []) (ds ++ gs)).all (· ≤ reachBytes) = true) :
    Calls Tryd.prog 6 args W fun e W' => ∃ v, e = .returned v ∧ Rows.sumsSumsSpec.post enc Tryd.prog Tryd.f6 false true false false W args v W' := by
  have hW' := hW
  obtain ⟨p, q, hA0, hV, rfl, hfz, hnd⟩ := hW
  have hp : Tryd.f6.params = #[23, 22, 9] := by kernel_rfl
  have hA : DataW.TrodAll enc Tryd.prog W 0 (fun _ => true) true [23, 22, 9] args.toList ds p := by rw [hp] at hA0; exact hA0
  rw [hp] at hval hsz
  obtain ⟨v0, v1, v2, d0, d1, d2, p0, p1, p2, rfl, rfl, rfl, h0, h1, h2⟩ := trodAll_three hA
  obtain ⟨rfl, rfl⟩ := trodVars_none hV
  obtain ⟨p, n, c, l, rfl, hseg, hl, _, hd0⟩ := strings_in und23 und9 cells9 (hval 0 23 v0 rfl rfl) h0
  obtain ⟨x, rfl⟩ := word_in und22 (hval 1 22 v1 rfl rfl) h1
  obtain ⟨b, rfl, _, _, hb⟩ := Go.ChangeMaps.open_string und9 (hval 2 9 v2 rfl rfl) h2
  have hn : l.length ≤ 8796093022207 := by
    rcases hd0 with rfl | ⟨rest, rfl⟩
    · simp
    · have := sized_slice hsz (j := 0) (t := 23) rfl rfl und23
      rw [bytes9] at this
      simp only [strs, List.length_map] at this
      have h2 : reachBytes = 140737488351232 := rfl
      omega
  exact ends (s := Rows.sumsSumsSpec) rfl (by kernel_rfl) (by kernel_rfl) rfl hW' (law_6 l hl hn x b hb W.heap (table hL) hseg)

theorem reads (os : Os) {H : Type} (enc : TypeId × Value → H) : ∃ places, DataW.whole enc Tryd.prog ((laidWorld os).forCall (fun _ _ => 0) ⟨#[], #[.slice none 0 0, .int .u32 0, .string ByteArray.empty], []⟩).memory Tryd.f6.params.toList Rows.sumsSumsSpec.vars false
    #[Value.slice none 0 0, .int .u32 0, .string ByteArray.empty].toList 8 = some ([.nil, .lit (.int .u32 0), .lit (.string [])], [], places) :=
  ⟨[], by kernel_rfl⟩

set_option maxRecDepth 100000 in
theorem lifted (os : Os) (started : os.Started) (H : Type) (enc : TypeId × Value → H) (F : Stop.Interp) :
    ReturnsInHanded {} Tryd.checked os 6 .any ((OpenSpec.ofChange Rows.sumsSumsSpec).preRow enc Tryd.prog Tryd.f6 Rows.sumsSumsRow.domain false Rows.sumsSumsRow.laid) (((OpenSpec.ofChange Rows.sumsSumsSpec).at F).post enc Tryd.prog Tryd.f6 false true false false) := by
  obtain ⟨places, hx⟩ := reads os enc
  refine returnsInHanded_of_row (C := Tryd.checked) (s := OpenSpec.ofChange Rows.sumsSumsSpec) own started (by kernel_rfl) Tryd.func6
    (witness_row_at (enc := enc) (C := Tryd.checked) false (laidWorld os) #[.slice none 0 0, .int .u32 0, .string ByteArray.empty] rfl (by kernel_rfl) (by kernel_rfl) (by kernel_rfl)
      (OpenSpec.preRow_of_cond 8 hx (by kernel_rfl) (fun k hk => by cases hk) (by kernel_rfl) (laid_met os _))) ?_
  intro W base args ds gs before hval hW _ _ hsz hL _ _
  exact contract H enc W base args ds gs before hval hW hL hsz

theorem said : Rows.SumsSumsSaid :=
  OpenClaim.holds_of_cond 6 Tryd.f6 rfl rfl rfl rfl rfl rfl rfl ⟨rfl, rfl, rfl, rfl, rfl⟩ rfl rfl rfl rfl rfl (by kernel_rfl) Tryd.func6 (by kernel_rfl)
    (of_decide_eq_true (by kernel_rfl)) (by unfold Func.isWrapper; first | (rw [if_pos (by decide +kernel)]; kernel_rfl) | (rw [if_neg (by decide +kernel)]; exact ⟨rfl, rfl⟩))
    (fun os started H enc _ F => by rw [OpenClaim.pre_eq_preRow]; exact lifted os started H enc F)

theorem plain (f : FuncId) (fn : Func) (hf : Tryd.pinned.checked.prog.funcNamed "turnout/turnoutlaw02.SumsSums" = some f) (hfn : Tryd.pinned.checked.prog.funcs[f]? = some fn) :
    false = Tryd.pinned.checked.prog.looks [] ∧ ∀ (j : Nat) t, fn.params[j]? = some t → Tryd.pinned.checked.prog.wantsStandIn t = false := by
  obtain rfl : f = 6 := Option.some.inj ((show Tryd.prog.funcNamed "turnout/turnoutlaw02.SumsSums" = some 6 by kernel_rfl).symm.trans hf) |>.symm
  obtain rfl : fn = Tryd.f6 := (Option.some.inj (Tryd.func6.symm.trans hfn)).symm
  refine ⟨by kernel_rfl, fun j t ht => ?_⟩
  have h : (Tryd.f6.params.toList.all fun t => !Tryd.prog.wantsStandIn t) = true := by kernel_rfl
  have := List.all_eq_true.1 h t (by simpa using Array.mem_of_getElem? ht)
  exact (by simpa using this : Tryd.prog.wantsStandIn t = false)

theorem card : Rows.SumsSumsCardSaid :=
  Claim7.holds_tied_plain_at .later [] _ _ _ _ said (fun _ h => by cases h) (by kernel_rfl) (fun _ h => by cases h) sumsSums_row_tie rfl ⟨rfl, rfl⟩ (by kernel_rfl) rfl plain (by kernel_rfl)

end Go.Vc.L6

namespace Go.Proofs.YtmjbccjelnhhiaaDoor

/-- SumsSums: Sum of any parts and More of any number and text answer as the document's answer does; what is handed in stays. -/
theorem sumsSums_card : Rows.SumsSumsCardSaid := Go.Vc.L6.card

end Go.Proofs.YtmjbccjelnhhiaaDoor
