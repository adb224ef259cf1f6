/- Functions that defer one call at their head, and functions that recover. -/
import Derived.Test.YtamhpfdcnfgngaaGreatVcE
import Derived.Recover
set_option maxRecDepth 10000
namespace Go.Vc
open Go

def DefH (P : Program) (g : FuncId) (args : Array Value) (u : FrameMode) (h : Hp) (K : FrameMode → Hp → Prop) : Prop :=
  ∀ w : World, w.heap = h → CallsD P g args u w fun e u' w' => (∃ v, e = .returned v) ∧ Rest w w' ∧ K u' w'.heap

theorem DefH.mono {P : Program} {g : FuncId} {args : Array Value} {u : FrameMode} {h : Hp} {K K' : FrameMode → Hp → Prop} (hd : DefH P g args u h K) (hk : ∀ u' h', K u' h' → K' u' h') : DefH P g args u h K' :=
  fun w hw => (hd w hw).mono fun _ _ _ ⟨h1, h2, h3⟩ => ⟨h1, h2, hk _ _ h3⟩

def deferOf (ops : List Oper) : Option (FuncId × List Operand × Nat) :=
  match ops with
  | [o0, o1] => match o0.op, o0.dst, o0.guard, o1.op, o1.dst, o1.guard with
    | .makeFunc (.func g) fst cap, some d, none, .defer { callee := .value (.tmp t), args, .. }, none, none =>
      match fst.toList, args.toList, Nat.beq d t with
      | [], [], true => some (g, cap.toList, d)
      | _, _, _ => none
    | _, _, _, _, _, _ => none
  | _ => none

def fnVD (P : Program) (mp : Bool) (fn : Func) (a0 a2 : Ann) (args : List Value) (h : Hp) (R : Ending → Hp → Prop) : Prop :=
  match fn.body with
  | some (.seq r0 (.seq (.region _ ops false) c)) => match deferOf ops.toList with
    | some (g, cap, d) => vc P mp r0 a0 (fun ex e h1 => match ex with
      | .normal => pv.evs e cap fun ys => vc P mp c a2 (fun ex' _ h' => match ex' with
          | .normal => DefH P g ys.toArray .returning h' fun u' h3 => settle u' = .returning ∧ backV P fn.results.toList ⟨keep e.s (d :: dsts c), []⟩ h3 fun v => R (.returned v) h3
          | .ret => DefH P g ys.toArray .returning h' fun u' h3 => settle u' = .returning ∧ backV P fn.results.toList ⟨keep e.s (d :: dsts c), []⟩ h3 fun v => R (.returned v) h3
          | .panic ch => DefH P g ys.toArray (.panicking ch) h' fun u' h3 => settle u' = .returning ∧ backV P fn.results.toList ⟨keep e.s (d :: dsts c), []⟩ h3 fun v => R (.returned v) h3
          | _ => False) ⟨(d, .v (.func (.func g) #[] ys.toArray)) :: e.s, [{ target := .fn (.func g) ys.toArray, args := #[] }]⟩ h1
      | _ => False) ⟨startS 0 args, []⟩ h
    | none => False
  | _ => False

def okFD (P : Program) (mp : Bool) (okD : Bool → List Oper → Option (List Nat) → Option (Nat × List (List Nat)) → Bool) (fn : Func) (a0 a2 : Ann) (k : Nat) : Bool :=
  match fn.body with
  | some (.seq r0 (.seq (.region _ ops false) c)) => match deferOf ops.toList with
    | some (g, _, _) => Nat.ble k fn.ntmps && noDef r0 && noDef c && okC P mp okD fn.ntmps r0 a0 && okOps fn.ntmps ops.toList && okC P mp okD fn.ntmps c a2 && bodied P g
    | none => false
  | _ => false

theorem deferOf_some {ops : List Oper} {g : FuncId} {cap : List Operand} {d : Nat} (h : deferOf ops = some (g, cap, d)) :
    ∃ o0 o1 cp fst cl, ops = [o0, o1] ∧ o0.op = .makeFunc (.func g) fst cp ∧ fst.toList = [] ∧ cp.toList = cap ∧ o0.dst = some d ∧ o0.guard = none ∧ o1.op = .defer cl ∧ cl.callee = .value (.tmp d) ∧ cl.args.toList = [] ∧ o1.dst = none ∧ o1.guard = none := by
  unfold deferOf at h
  split at h
  · rename_i o0 o1
    split at h
    · rename_i g' fst cp d' t args _ e1 e2 e3 e4 e5 e6
      split at h
      · rename_i f1 f2 f3
        cases h
        obtain rfl := Nat.eq_of_beq_eq_true f3
        exact ⟨o0, o1, cp, fst, _, rfl, e1, f1, rfl, e2, e3, e4, rfl, f2, e5, e6⟩
      · cases h
    · cases h
  · cases h

theorem fnD_sound {P : Program} {mp : Bool} {okD : Bool → List Oper → Option (List Nat) → Option (Nat × List (List Nat)) → Bool} (hP : Fine P) (hD : ∀ m, DrawOk P false (fun c => c.wp P) m (okD m)) {f : FuncId} {fn : Func} (hf : P.funcs[f]? = some fn) {a0 a2 : Ann} {args : List Value} {h : Hp}
    {R : Ending → Hp → Prop} (hok : okFD P mp okD fn a0 a2 args.length = true) (hv : fnVD P mp fn a0 a2 args h R) : CallsH P f args.toArray h R := by
  intro w hw
  subst hw
  unfold okFD at hok
  unfold fnVD at hv
  split at hv
  · rename_i r0 id ops c hb
    rw [hb] at hok
    simp only at hok
    split at hv
    · rename_i g cap d hdf
      rw [hdf] at hok
      simp only [Bool.and_eq_true] at hok
      obtain ⟨⟨⟨⟨⟨⟨hle, hn0⟩, hnc⟩, hok0⟩, hok1⟩, hok2⟩, hbod⟩ := hok
      have hle' : args.length ≤ fn.ntmps := Nat.le_of_ble_eq_true hle
      refine calls_of_wp_defers hf hb (wp_seq (Code.wp_mono ?_ (vc_sound (w0 := w) hP hD r0 a0 _ ⟨startS 0 args, []⟩ _ w hok0 ⟨?_, rfl, ?_⟩ (Rest.refl w) hv)))
      · intro ex a1 w1 hu
        obtain ⟨hrest, _, hd1, e, hr, hp⟩ := hu
        cases ex with
        | normal =>
          have hd1' : a1.defers = [] := hd1 hn0
          obtain ⟨o0, o1, cp, fst, cl, ho, e1, e2, e3, e4, e5, f1, f2, f3, f4, f5⟩ := deferOf_some hdf
          generalize hK : (fun ys : List Value => vc P mp c a2 (fun ex' _ h' => match ex' with
            | .normal => DefH P g ys.toArray .returning h' fun u' h3 => settle u' = .returning ∧ backV P fn.results.toList ⟨keep e.s (d :: dsts c), []⟩ h3 fun v => R (.returned v) h3
            | .ret => DefH P g ys.toArray .returning h' fun u' h3 => settle u' = .returning ∧ backV P fn.results.toList ⟨keep e.s (d :: dsts c), []⟩ h3 fun v => R (.returned v) h3
            | .panic ch => DefH P g ys.toArray (.panicking ch) h' fun u' h3 => settle u' = .returning ∧ backV P fn.results.toList ⟨keep e.s (d :: dsts c), []⟩ h3 fun v => R (.returned v) h3
            | _ => False) ⟨(d, .v (.func (.func g) #[] ys.toArray)) :: e.s, [{ target := .fn (.func g) ys.toArray, args := #[] }]⟩ w1.heap) = K at hp
          have hed : e.d = [] := by rw [← hr.defers]; exact hd1'
          have hrv : rv P mp none [] ops.toList (fun ex e' h' => ex = .normal ∧ h' = w1.heap ∧ ∃ ys, e' = ⟨(d, .v (.func (.func g) #[] ys.toArray)) :: e.s, [{ target := .fn (.func g) ys.toArray, args := #[] }]⟩ ∧ K ys) (numb 0 ops.toList) e w1.heap := by
            rw [ho]
            simp only [numb, rv, guardV, e1, e5, f1, f5, ov, pv, e2, e3, pv.evs, e4]
            refine evs_imp hp fun ys hys => ?_
            obtain ⟨callee, cargs, cts⟩ := cl
            simp only at f2 f3
            subst f2
            have hbd : Nat.beq d d = true := Nat.beq_refl d
            simp only [ev, Env.put, look, hbd, cond_true, f3, pv.evs, SV.val]
            refine ⟨trivial, trivial, ys, ?_, hys⟩
            rw [f4, hed]
            rfl
          refine wp_seq (Code.wp_mono ?_ (region_sound (reads P) hP hok1 hr hrest (fun h => by cases h) hrv))
          intro ex b w2 hu2
          obtain ⟨hrest2, hfr2, _, e', hr2, rfl, hh2, ys, rfl, hys⟩ := hu2
          rw [← hK, ← hh2] at hys
          refine Code.wp_mono ?_ (vc_sound hP hD c a2 _ _ b w2 hok2 hr2 hrest2 hys)
          intro ex3 a3 w3 hu3
          obtain ⟨hrest3, hfr3, hd3, e9, hr3, hp3⟩ := hu3
          have hds : a3.defers = [{ target := .fn (.func g) ys.toArray, args := #[] }] := (hd3 hnc).trans hr2.defers
          have hback : Rep fn.ntmps ⟨keep e.s (d :: dsts c), []⟩ ⟨a3.tmps, []⟩ := by
            refine ⟨hr3.size, rfl, fun t x hx => ?_⟩
            obtain ⟨h1, h2⟩ := look_keep _ _ _ _ hx
            have ht1 : t ∉ dsts c := fun hm => h2 (List.mem_cons_of_mem _ hm)
            have ht2 : t ∉ dstsO ops.toList := by
              rw [ho]
              intro hm
              obtain ⟨o, ho', hd'⟩ := List.mem_filterMap.1 hm
              simp at ho'
              rcases ho' with rfl | rfl
              · rw [e4] at hd'; cases hd'; exact h2 (by simp)
              · rw [f4] at hd'; cases hd'
            rw [hfr3 t ht1, hfr2 t ht2]
            exact hr.slots t x h1
          obtain ⟨fg, cg, hfg, hcg⟩ : ∃ fg cg, P.funcs[g]? = some fg ∧ fg.body = some cg := by
            unfold bodied at hbod
            split at hbod
            · rename_i fg hfg
              obtain ⟨cg, hcg⟩ := Option.isSome_iff_exists.1 hbod
              exact ⟨fg, cg, hfg, hcg⟩
            · cases hbod
          have lv : ∀ u : FrameMode, u ≠ .run → (DefH P g ys.toArray u w3.heap fun u' h3 => settle u' = .returning ∧ backV P fn.results.toList ⟨keep e.s (d :: dsts c), []⟩ h3 fun v => R (.returned v) h3) →
              Leaves P fn a3.tmps (fun e w' => e ≠ .outgrown ∧ Rest w w' ∧ R e w'.heap) a3.defers u w3 := by
            intro u hu hl
            rw [hds]
            refine leaves_cons hu ?_ (CallsD.mono (hl w3 rfl) ?_)
            · have := callFunc_run (w := w3) hP hfg hcg ys.toArray
              simpa [invoke] using this
            · rintro e4 u' w' ⟨⟨v, rfl⟩, hrest', hset, hbk⟩
              show Leaves P fn a3.tmps _ [] (settle u') w'
              rw [hset]
              obtain ⟨v, hrun, hR⟩ := back_sound (w := w') hback hbk
              exact ⟨v, hrun, by simp, hrest3.trans hrest', hR⟩
          cases ex3 with
          | normal => exact lv _ (by simp) hp3
          | ret => exact lv _ (by simp) hp3
          | panic ch => exact lv _ (by simp) hp3
          | exit i => exact hp3.elim
          | goto i => exact hp3.elim
          | outgrown => exact hp3.elim
        | _ => exact hp.elim
      · simp; omega
      · intro t x hx
        obtain ⟨_, h2⟩ := look_start args 0 t x hx
        have hlt : t < args.length := by
          have := (List.getElem?_eq_some_iff.1 h2).1
          omega
        simp only [Nat.sub_zero] at h2
        rw [Array.getElem?_append_left (by simpa using hlt)]
        simpa using h2
    · exact hv.elim
  · exact hv.elim

def recU : FrameMode → Value × FrameMode
  | .panicking ({ v, recovered := false, goexit := false } :: older) => (v, .panicking ({ v, recovered := true } :: older))
  | m => (.nilIface, m)

theorem recover_eq (c₀ : Frame) (cs : List Frame) : (recoverD (c₀ :: cs) = some ((recU c₀.mode).1, { c₀ with mode := (recU c₀.mode).2 } :: cs)) ∨ (recoverD (c₀ :: cs) = none ∧ (recU c₀.mode).1 = .nilIface ∧ (recU c₀.mode).2 = c₀.mode) := by
  simp only [recoverD]
  unfold recU
  split
  · rename_i h
    left
    simp only [h]
  · right
    rename_i h
    refine ⟨rfl, ?_⟩
    split
    · rename_i hm
      exact (h _ _ hm).elim
    · exact ⟨rfl, rfl⟩

def recOf (ops : List Oper) : Option (Nat × Nat) :=
  match ops with
  | [o0, o1] => match o0.op, o0.dst, o0.guard, o1.op, o1.dst, o1.guard with
    | .call { callee := .builtin .recover, args, .. }, some d0, none, .assign (.tmp t), some d1, none =>
      match args.toList, Nat.beq d0 t with
      | [], true => some (d0, d1)
      | _, _ => none
    | _, _, _, _, _, _ => none
  | _ => none

def fnVR (P : Program) (fn : Func) (ann : Ann) (args : List Value) (x : Value) (u' : FrameMode) (h : Hp) (K : FrameMode → Hp → Prop) : Prop :=
  match fn.body with
  | some (.seq (.region _ ops false) c) => match recOf ops.toList with
    | some (d0, d1) => vc P false c ann (fun ex e h' => match ex with
        | .normal => backV P fn.results.toList e h' fun _ => K u' h'
        | .ret => backV P fn.results.toList e h' fun _ => K u' h'
        | _ => False) ⟨(d1, .v x) :: (d0, .v x) :: startS 0 args, []⟩ h
    | none => False
  | _ => False

def okFR (P : Program) (okD : Bool → List Oper → Option (List Nat) → Option (Nat × List (List Nat)) → Bool) (fn : Func) (ann : Ann) (k : Nat) : Bool :=
  match fn.body with
  | some (.seq (.region _ ops false) c) => match recOf ops.toList with
    | some _ => Nat.ble k fn.ntmps && okOps fn.ntmps ops.toList && noDef c && okC P false okD fn.ntmps c ann
    | none => false
  | _ => false

theorem calls_vcD {P : Program} (hP : Fine P) (mp : Bool) {f : FuncId} {fn : Func} (hf : P.funcs[f]? = some fn) {a0 a2 : Ann} {args : List Value} {h : Hp} {R : Ending → Hp → Prop}
    (hok : okFD P mp (okDraw P) fn a0 a2 args.length = true) (hv : fnVD P mp fn a0 a2 args h R) : CallsH P f args.toArray h R :=
  fnD_sound hP (fun m => drawOk (reads P) hP m) hf hok hv

end Go.Vc
