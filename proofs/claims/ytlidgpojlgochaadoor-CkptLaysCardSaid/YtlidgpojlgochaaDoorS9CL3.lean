/- CkptLays: the row. -/
import Derived.Test.YtlidgpojlgochaaDoorS9CCkR
import Derived.Test.YtlidgpojlgochaaDoorS9CCkK
set_option maxRecDepth 10000
namespace Go.Vc.L3
open Go Go.Proofs Go.ChangeShapes Go.WideShapes Go.ChangeAt Go.RowKit Go.Proofs.YtlidgpojlgochaaDoor

theorem contract (H : Type) (enc : TypeId × Value → H) (W : World) (base : Nat) (args : Array Value) (ds gs : List (DataW H)) (before : List MemPlace)
    (hval : ∀ (j : Nat) t v, Tryd.f3.params[j]? = some t → args[j]? = some v → Value.okWide Tryd.prog W .any base t v)
    (hW : DataW.Whole enc Tryd.prog Tryd.f3.params.toList Rows.ckptLaysSpec.vars false W args.toList ds gs before) (hL : laidMetH Tryd.prog Rows.ckptLaysRow.laid W)
    (_hsz : (DataW.weightsEach Tryd.prog (Tryd.f3.params.toList ++ []) (ds ++ gs)).all (· ≤ reachBytes) = true) :
    Calls Tryd.prog 3 args W fun e W' => ∃ v, e = .returned v ∧ Rows.ckptLaysSpec.post enc Tryd.prog Tryd.f3 false true false false W args v W' := by
  have hW' := hW
  obtain ⟨p, q, hA0, hV, rfl, hfz, hnd⟩ := hW
  have hp : Tryd.f3.params = #[3, 3, 26, 22] := by kernel_rfl
  have hA : DataW.TrodAll enc Tryd.prog W 0 (fun _ => true) true [3, 3, 26, 22] args.toList ds p := by rw [hp] at hA0; exact hA0
  rw [hp] at hval
  obtain ⟨v0, v1, v2, v3, d0, d1, d2, d3, p0, p1, p2, p3, rfl, rfl, rfl, h0, h1, h2, h3⟩ := trodAll_four hA
  obtain ⟨rfl, rfl⟩ := trodVars_none hV
  obtain ⟨n0, rfl, hn0⟩ := int_in undInt (hval 0 3 v0 rfl rfl) h0
  obtain ⟨n1, rfl, hn1⟩ := int_in undInt (hval 1 3 v1 rfl rfl) h1
  obtain ⟨f2, rfl, ho2⟩ := hd_arg (hval 2 26 v2 rfl rfl) h2
  obtain ⟨x3, rfl, hx3⟩ := u64_in undU64 (hval 3 22 v3 rfl rfl) h3
  exact ends (s := Rows.ckptLaysSpec) rfl (by kernel_rfl) (by kernel_rfl) rfl hW' (lays_law n0 n1 f2 x3 hn1.1 hn1.2 W.heap (table hL))

theorem reads (os : Os) {H : Type} (enc : TypeId × Value → H) : ∃ places, DataW.whole enc Tryd.prog ((laidWorld os).forCall (fun _ _ => 0) ⟨#[], #[.int .i64 0, .int .i64 0, .agg #[.int .i64 0, .int .u64 0, .int .u64 0, .int .i64 0, .int .i64 0], .int .u64 0], []⟩).memory Tryd.f3.params.toList Rows.ckptLaysSpec.vars false
    (#[.int .i64 0, .int .i64 0, .agg #[.int .i64 0, .int .u64 0, .int .u64 0, .int .i64 0, .int .i64 0], .int .u64 0] : Array Value).toList 8 = some ([.lit (.int .i64 0), .lit (.int .i64 0), .agg [.lit (.int .i64 0), .lit (.int .u64 0), .lit (.int .u64 0), .agg [.lit (.int .i64 0), .lit (.int .i64 0)]], .lit (.int .u64 0)], [], places) :=
  ⟨[], by kernel_rfl⟩

set_option maxRecDepth 100000 in
theorem lifted (os : Os) (started : os.Started) (H : Type) (enc : TypeId × Value → H) (F : Stop.Interp) :
    ReturnsInHanded {} Tryd.checked os 3 .any ((OpenSpec.ofChange Rows.ckptLaysSpec).preRow enc Tryd.prog Tryd.f3 Rows.ckptLaysRow.domain false Rows.ckptLaysRow.laid) (((OpenSpec.ofChange Rows.ckptLaysSpec).at F).post enc Tryd.prog Tryd.f3 false true false false) := by
  obtain ⟨places, hx⟩ := reads os enc
  refine returnsInHanded_of_row (C := Tryd.checked) (s := OpenSpec.ofChange Rows.ckptLaysSpec) own started (by kernel_rfl) Tryd.func3
    (witness_row_at (enc := enc) (C := Tryd.checked) false (laidWorld os) #[.int .i64 0, .int .i64 0, .agg #[.int .i64 0, .int .u64 0, .int .u64 0, .int .i64 0, .int .i64 0], .int .u64 0] rfl (by kernel_rfl) (by kernel_rfl) (by kernel_rfl)
      (OpenSpec.preRow_of_cond 8 hx (by kernel_rfl) (fun k hk => by cases hk) (by kernel_rfl) (laid_met os _))) ?_
  intro W base args ds gs before hval hW _ _ hsz hL _ _
  exact contract H enc W base args ds gs before hval hW hL hsz

theorem said : Rows.CkptLaysSaid :=
  OpenClaim.holds_of_cond 3 Tryd.f3 rfl rfl rfl rfl rfl rfl rfl ⟨rfl, rfl, rfl, rfl, rfl⟩ rfl rfl rfl rfl rfl (by kernel_rfl) Tryd.func3 (by kernel_rfl)
    (of_decide_eq_true (by kernel_rfl)) (by unfold Func.isWrapper; first | (rw [if_pos (by decide +kernel)]; kernel_rfl) | (rw [if_neg (by decide +kernel)]; exact ⟨rfl, rfl⟩))
    (fun os started H enc _ F => by rw [OpenClaim.pre_eq_preRow]; exact lifted os started H enc F)

theorem plain (f : FuncId) (fn : Func) (hf : Tryd.pinned.checked.prog.funcNamed "turnout/turnoutlaw20.CkptLays" = some f) (hfn : Tryd.pinned.checked.prog.funcs[f]? = some fn) :
    true = Tryd.pinned.checked.prog.looks [] ∧ ∀ (j : Nat) t, fn.params[j]? = some t → Tryd.pinned.checked.prog.wantsStandIn t = false := by
  obtain rfl : f = 3 := Option.some.inj ((show Tryd.prog.funcNamed "turnout/turnoutlaw20.CkptLays" = some 3 by kernel_rfl).symm.trans hf) |>.symm
  obtain rfl : fn = Tryd.f3 := (Option.some.inj (Tryd.func3.symm.trans hfn)).symm
  refine ⟨by kernel_rfl, fun j t ht => ?_⟩
  have h : (Tryd.f3.params.toList.all fun t => !Tryd.prog.wantsStandIn t) = true := by kernel_rfl
  have := List.all_eq_true.1 h t (by simpa using Array.mem_of_getElem? ht)
  exact (by simpa using this : Tryd.prog.wantsStandIn t = false)

theorem card : Rows.CkptLaysCardSaid :=
  Claim7.holds_tied_plain_at .later [] _ _ _ _ said (fun _ h => by cases h) (by kernel_rfl) (fun _ h => by cases h) ckptLays_row_tie rfl ⟨rfl, rfl⟩ (by kernel_rfl) rfl plain (by kernel_rfl)

end Go.Vc.L3

namespace Go.Proofs.YtlidgpojlgochaaDoor

/-- CkptLays, for every input that the row lets in. -/
theorem ckptLays_card : Rows.CkptLaysCardSaid := Go.Vc.L3.card

end Go.Proofs.YtlidgpojlgochaaDoor
