/- Functions that defer somewhere in their midst, and the closure that recovers beside loads. -/
import Derived.Test.YtamhpfdcnfgngaaGreatVcK
set_option maxRecDepth 10000
namespace Go.Vc
open Go

def leaveV (P : Program) (rs : List ResultVar) (e : Env) (u : FrameMode) (h : Hp) (R : Ending → Hp → Prop) : Prop :=
  match e.d with
  | [] => match u with
    | .returning => backV P rs ⟨e.s, []⟩ h fun v => R (.returned v) h
    | .panicking ch => R (.panicked ch) h
    | _ => False
  | [d] => match d.target, d.args.toList with
    | .fn (.func g) ys, [] => cond (bodied P g) (DefH P g ys u h fun u' h3 => settle u' = .returning ∧ backV P rs ⟨e.s, []⟩ h3 fun v => R (.returned v) h3) False
    | _, _ => False
  | _ => False

def fnVG (P : Program) (mp : Bool) (fn : Func) (ann : Ann) (args : List Value) (h : Hp) (R : Ending → Hp → Prop) : Prop :=
  match fn.body with
  | some c => vc P mp c ann (fun ex e h' => match ex with
      | .normal => leaveV P fn.results.toList e .returning h' R
      | .ret => leaveV P fn.results.toList e .returning h' R
      | .panic ch => leaveV P fn.results.toList e (.panicking ch) h' R
      | _ => False) ⟨startS 0 args, []⟩ h
  | none => False

def okFG (P : Program) (mp : Bool) (okD : Bool → List Oper → Option (List Nat) → Option (Nat × List (List Nat)) → Bool) (fn : Func) (ann : Ann) (k : Nat) : Bool :=
  match fn.body with
  | some c => Nat.ble k fn.ntmps && okC P mp okD fn.ntmps c ann
  | none => false

theorem fnG_sound {P : Program} {mp : Bool} {okD : Bool → List Oper → Option (List Nat) → Option (Nat × List (List Nat)) → Bool} (hP : Fine P) (hD : ∀ m, DrawOk P false (fun c => c.wp P) m (okD m)) {f : FuncId} {fn : Func} (hf : P.funcs[f]? = some fn) {ann : Ann} {args : List Value} {h : Hp}
    {R : Ending → Hp → Prop} (hok : okFG P mp okD fn ann args.length = true) (hv : fnVG P mp fn ann args h R) : CallsH P f args.toArray h R := by
  intro w hw
  subst hw
  unfold okFG at hok
  unfold fnVG at hv
  split at hv
  · rename_i c hb
    rw [hb] at hok
    simp only [Bool.and_eq_true] at hok
    obtain ⟨hle, hok⟩ := hok
    have hle' : args.length ≤ fn.ntmps := Nat.le_of_ble_eq_true hle
    refine calls_of_wp_defers hf hb (Code.wp_mono ?_ (vc_sound (w0 := w) hP hD c ann _ ⟨startS 0 args, []⟩ _ w hok ⟨?_, rfl, ?_⟩ (Rest.refl w) hv))
    · intro ex a' w' hu
      obtain ⟨hrest, _, _, e, hr, hp⟩ := hu
      have lv : ∀ u : FrameMode, u ≠ .run → leaveV P fn.results.toList e u w'.heap R → Leaves P fn a'.tmps (fun e w' => e ≠ .outgrown ∧ Rest w w' ∧ R e w'.heap) a'.defers u w' := by
        intro u hu hl
        have hr0 : ∀ h3 w3, h3 = w3.heap → ∀ K, backV P fn.results.toList ⟨e.s, []⟩ h3 K → ∃ v, (results fn a'.tmps).run P w3 = .ok v w3 ∧ K v := by
          rintro h3 w3 rfl K hb
          exact back_sound (e := ⟨e.s, []⟩) (a := ⟨a'.tmps, []⟩) ⟨hr.size, rfl, hr.slots⟩ hb
        unfold leaveV at hl
        split at hl
        · rename_i hd
          rw [hr.defers, hd]
          cases u with
          | returning =>
            obtain ⟨v, hrun, hR⟩ := hr0 _ w' rfl _ hl
            exact ⟨v, hrun, by simp, hrest, hR⟩
          | panicking ch => exact ⟨by simp, hrest, hl⟩
          | run => exact hl.elim
        · rename_i d hd
          rw [hr.defers, hd]
          split at hl
          · rename_i g ys h1 h2
            obtain ⟨hbod, hl⟩ := cond_elim hl
            obtain ⟨tgt, dargs⟩ := d
            simp only at h1 h2
            subst h1
            have : dargs = #[] := by rw [← Array.toArray_toList (xs := dargs), h2]
            subst this
            obtain ⟨fg, cg, hfg, hcg⟩ : ∃ fg cg, P.funcs[g]? = some fg ∧ fg.body = some cg := by
              unfold bodied at hbod
              split at hbod
              · rename_i fg hfg
                obtain ⟨cg, hcg⟩ := Option.isSome_iff_exists.1 hbod
                exact ⟨fg, cg, hfg, hcg⟩
              · cases hbod
            refine leaves_cons hu ?_ (CallsD.mono (hl w' rfl) ?_)
            · have := callFunc_run (w := w') hP hfg hcg ys
              simpa [invoke] using this
            · rintro e4 u' w4 ⟨⟨v, rfl⟩, hrest', hset, hbk⟩
              show Leaves P fn a'.tmps _ [] (settle u') w4
              rw [hset]
              obtain ⟨v, hrun, hR⟩ := hr0 _ w4 rfl _ hbk
              exact ⟨v, hrun, by simp, hrest.trans hrest', hR⟩
          · exact hl.elim
        · exact hl.elim
      cases ex with
      | normal => exact lv _ (by simp) hp
      | ret => exact lv _ (by simp) hp
      | panic ch => exact lv _ (by simp) hp
      | exit i => exact hp.elim
      | goto i => exact hp.elim
      | outgrown => exact hp.elim
    · simp; omega
    · intro t x hx
      obtain ⟨_, h2⟩ := look_start args 0 t x hx
      have hlt : t < args.length := by
        have := (List.getElem?_eq_some_iff.1 h2).1
        omega
      simp only [Nat.sub_zero] at h2
      rw [Array.getElem?_append_left (by simpa using hlt)]
      simpa using h2
  · exact hv.elim

theorem calls_vcG {P : Program} (hP : Fine P) (mp : Bool) {f : FuncId} {fn : Func} (hf : P.funcs[f]? = some fn) {ann : Ann} {args : List Value} {h : Hp} {R : Ending → Hp → Prop}
    (hok : okFG P mp (okDraw P) fn ann args.length = true) (hv : fnVG P mp fn ann args h R) : CallsH P f args.toArray h R :=
  fnG_sound hP (fun m => drawOk (reads P) hP m) hf hok hv

/-! ### A closure that recovers beside two loads, and hands all three on -/

inductive Pre3 where
  | load (t : TypeId) (a : Nat)
  | recov

def preOf (o : Oper) : Option (Pre3 × Nat) :=
  match o.op, o.dst, o.guard with
  | .load t (.tmp a), some d, none => some (.load t a, d)
  | .call { callee := .builtin .recover, args, .. }, some d, none => match args.toList with
    | [] => some (.recov, d)
    | _ => none
  | _, _, _ => none

def recDOf (ops : List Oper) : Option ((TypeId × Nat) × (TypeId × Nat) × FuncId × Nat × Nat × Nat) :=
  match ops with
  | [o0, o1, o2, o3] => match preOf o0, preOf o1, preOf o2, o3.op, o3.guard with
    | some (.load t0 a0, d0), some (.load t1 a1, d1), some (.recov, d2), .call { callee := .value (.func g), args, .. }, none =>
      match args.toList with
      | [.tmp x0, .tmp x1, .tmp x2] => cond (Nat.beq x0 d0 && Nat.beq x1 d1 && Nat.beq x2 d2) (some ((t0, a0), (t1, a1), g, d0, d1, d2)) none
      | _ => none
    | _, _, _, _, _ => none
  | _ => none

def fnVRD (P : Program) (fn : Func) (args : List Value) (x : Value) (u' : FrameMode) (h : Hp) (K : FrameMode → Hp → Prop) : Prop :=
  match fn.body with
  | some (.region _ ops true) => match recDOf ops.toList with
    | some ((t0, a0), (t1, a1), g, _, _, _) =>
      ev ⟨startS 0 args, []⟩ (.tmp a0) fun p0 => asPtr p0 fun b0 i0 => loadV P t0 (cellsAt h) b0 i0 fun v0 =>
      ev ⟨startS 0 args, []⟩ (.tmp a1) fun p1 => asPtr p1 fun b1 i1 => loadV P t1 (cellsAt h) b1 i1 fun v1 =>
      callV P false g [v0.val, v1.val, x] h (fun _ h' => K u' h') (fun _ _ => False)
    | none => False
  | _ => False

def okFRD (_ : Program) (fn : Func) (k : Nat) : Bool :=
  match fn.body with
  | some (.region _ ops true) => match recDOf ops.toList with
    | some ((_, a0), (_, a1), _, d0, d1, d2) => Nat.ble k fn.ntmps && okOps fn.ntmps ops.toList && fn.results.toList.isEmpty &&
        !Nat.beq d0 d1 && !Nat.beq d0 d2 && !Nat.beq d1 d2 && Nat.blt a0 k && Nat.blt a1 k && Nat.ble k d0 && Nat.ble k d1 && Nat.ble k d2 &&
        ((ops.toList[3]?.map (·.dst)) == some (some (d2 + 1)) || (ops.toList[3]?.map (·.dst)) == some none) && Region.noSelect ops &&
        (numb 0 ops.toList).all (fun p => p.2.after.all fun e => !Region.binds .any e || Nat.blt e.on p.1) &&
        (List.range 3).all fun i => ((masks [] ops.toList).getD 3 0).testBit i
    | none => false
  | _ => false

end Go.Vc
