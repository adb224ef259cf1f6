/- Deferred closures: those that recover where nothing is to be recovered, those that hold a loop over a function. -/
import Derived.Test.YtamhpfdcnfgngaaGreatVcI
set_option maxRecDepth 10000
namespace Go.Vc
open Go

/-! ### A closure whose first operation recovers, where there is no panic -/

def recHead (ops : List Oper) : Option Nat :=
  match ops with
  | o0 :: _ => match o0.op, o0.dst, o0.guard with
    | .call { callee := .builtin .recover, args, .. }, some d0, none => match args.toList with
      | [] => some d0
      | _ => none
    | _, _, _ => none
  | [] => none

def fnVN (P : Program) (fn : Func) (ann : Ann) (args : List Value) (h : Hp) (K : Hp → Prop) : Prop :=
  match fn.body with
  | some (.seq (.region _ ops false) c) => match recHead ops.toList with
    | some d0 => rv P false none [] ops.toList (fun ex e h' => match ex with
        | .normal => vc P false c ann (fun ex e h' => match ex with
          | .normal => backV P fn.results.toList e h' fun _ => K h'
          | .ret => backV P fn.results.toList e h' fun _ => K h'
          | _ => False) e h'
        | _ => False) ((numb 0 ops.toList).drop 1) ⟨(d0, .v .nilIface) :: startS 0 args, []⟩ h
    | none => False
  | _ => False

def okFN (P : Program) (okD : Bool → List Oper → Option (List Nat) → Option (Nat × List (List Nat)) → Bool) (fn : Func) (ann : Ann) (k : Nat) : Bool :=
  match fn.body with
  | some (.seq (.region _ ops false) c) => match recHead ops.toList with
    | some _ => Nat.ble k fn.ntmps && okOps fn.ntmps ops.toList && noDefO ops.toList && noDef c && okC P false okD fn.ntmps c ann
    | none => false
  | _ => false

theorem recHead_some {ops : List Oper} {d0 : Nat} (h : recHead ops = some d0) :
    ∃ o0 r cl, ops = o0 :: r ∧ o0.op = .call cl ∧ cl.callee = .builtin .recover ∧ cl.args.toList = [] ∧ o0.dst = some d0 ∧ o0.guard = none := by
  unfold recHead at h
  split at h
  · rename_i o0 r
    split at h
    · rename_i args _ d0' e1 e2 e3
      split at h
      · rename_i f1
        cases h
        exact ⟨o0, r, _, rfl, e1, rfl, f1, e2, e3⟩
      · cases h
    · cases h
  · cases h

theorem upon_eq_recover {P : Program} {o : Oper} {a : Act} {N : Act → World → Prop} {Q : Exit → Act → World → Prop} {w : World} : ¬ o.upon P a N Q (.ok .recover w) := by
  intro h
  exact h

theorem wpOpsS_of_list {P : Program} {ops : Array Oper} {Q : Exit → Act → List Frame → World → Prop} {Q' : Exit → Act → World → Prop} {cs : List Frame} (hq : ∀ e a w, Q' e a w → Q e a cs w) (hno : ∀ a w, ¬ Q' .outgrown a w) : ∀ (l : List Oper) (k : Nat) (a : Act) (w : World), (∀ j, l[j]? = ops[k + j]? ∨ l.length ≤ j) →
    wpList P ops Q' l a w → wpOpsS P ops Q (List.range' k l.length) a cs w
  | [], _, a, w, _, h => hq _ _ _ h
  | o :: l, k, a, w, hl, h => by
    have h0 : ops[k]? = some o := by
      rcases hl 0 with h | h
      · rw [Nat.add_zero] at h; rw [← h]; rfl
      · simp at h
    have hl' : ∀ j, l[j]? = ops[k + 1 + j]? ∨ l.length ≤ j := fun j => by
      rcases hl (j + 1) with h | h
      · left; rw [show k + 1 + j = k + (j + 1) by omega, ← h]; simp
      · right; simpa using h
    have ih := fun a w => wpOpsS_of_list (P := P) hq hno l (k + 1) a w hl'
    rw [List.length_cons, List.range'_succ]
    unfold wpList at h
    simp only [wpOpsS, h0]
    split
    · rename_i hw
      rw [if_pos hw] at h
      rcases h with h | ⟨_, a0, w0, h⟩
      · have h2 : o.wp P a w (fun a' w' => wpOpsS P ops Q (List.range' (k + 1) l.length) a' cs w') (fun e a' w' => Q e a' cs w') :=
          Oper.wp_mono' (fun a' w' h' => ih a' w' h') hq h
        unfold Oper.wp at h2
        generalize (execOp a.eval o).run P w = r at *
        split
        · exact (upon_eq_recover h2).elim
        · exact h2
      · exact (hno _ _ h).elim
    · rename_i hw
      rw [if_neg hw] at h
      exact ih _ _ h

theorem fnN_sound {P : Program} {okD : Bool → List Oper → Option (List Nat) → Option (Nat × List (List Nat)) → Bool} (hP : Fine P) (hD : ∀ m, DrawOk P false (fun c => c.wp P) m (okD m)) {f : FuncId} {fn : Func} (hf : P.funcs[f]? = some fn) {ann : Ann} {args : List Value} {h : Hp}
    {K : Hp → Prop} (hok : okFN P okD fn ann args.length = true) (hv : fnVN P fn ann args h K) : DefH P f args.toArray .returning h fun u' h' => u' = .returning ∧ K h' := by
  intro w hw
  subst hw
  unfold okFN at hok
  unfold fnVN at hv
  split at hv
  · rename_i id ops c hb
    rw [hb] at hok
    simp only at hok
    split at hv
    · rename_i d0 hrc
      rw [hrc] at hok
      simp only [Bool.and_eq_true] at hok
      obtain ⟨⟨⟨⟨hle, hok1⟩, hno⟩, hnc⟩, hok2⟩ := hok
      have hle' : args.length ≤ fn.ntmps := Nat.le_of_ble_eq_true hle
      obtain ⟨o0, r, cl, ho, e1, e2, e3, e4, e5⟩ := recHead_some hrc
      obtain ⟨hd0, hokr⟩ := okOps_cons (by rw [ho] at hok1; exact hok1)
      have hd0 := hd0 d0 e4
      have hnor : noDefO r = true := by rw [ho] at hno; exact (noDefO_cons hno).2
      refine callsD_of_wpS hf hb fun c₀ cs hu => wpS_seq (wpS_region ?_)
      obtain ⟨callee, cargs, cts⟩ := cl
      simp only at e2 e3
      subst e2
      have hca : cargs = #[] := by rw [← Array.toArray_toList (xs := cargs), e3]
      subst hca
      generalize ha : ({ tmps := args.toArray ++ Array.replicate (fn.ntmps - args.toArray.size) undef, defers := [] } : Act) = a
      have hrep : Rep fn.ntmps ⟨startS 0 args, []⟩ a := by
        subst ha
        refine ⟨by simp; omega, rfl, ?_⟩
        intro t x hx
        obtain ⟨_, h2⟩ := look_start args 0 t x hx
        have hlt : t < args.length := (List.getElem?_eq_some_iff.1 h2).1
        simp only [Nat.sub_zero] at h2
        rw [Array.getElem?_append_left (by simpa using hlt)]
        simpa using h2
      have hx0 : (execOp a.eval o0).run P w = .ok .recover w := by
        simp [execOp, e1, resolve]
        simp [invoke, builtin]
      have hw0 : Region.wanted o0 (yielded ops a.tmps) = true := by simp [Region.wanted, e5]
      have hsz : ops.size = r.length + 1 := by rw [← Array.length_toList, ho]; rfl
      have g0 : ops[0]? = some o0 := by rw [← Array.getElem?_toList, ho]; rfl
      have hrg : List.range ops.size = 0 :: List.range' 1 r.length := by rw [hsz, List.range_eq_range', List.range'_succ]
      rw [hrg]
      simp only [wpOpsS, g0, hw0, if_true, hx0]
      have hrec : recoverD (c₀ :: cs) = none := by
        rcases recover_eq c₀ cs with h | h
        · exfalso
          simp only [recoverD, hu] at h
          cases h
        · exact h.1
      rw [hrec]
      show wpOpsS P ops _ (List.range' 1 r.length) (a.put o0.dst .nilIface) (c₀ :: cs) w
      have hr1 : Rep fn.ntmps ⟨(d0, .v .nilIface) :: startS 0 args, []⟩ (a.put o0.dst .nilIface) := by
        rw [e4]; exact hrep.put (d := some d0) (x := .v .nilIface) (fun t ht => by cases ht; exact hd0)
      have hdf : (a.put o0.dst .nilIface).defers = [] := by rw [put_defers]; exact hrep.defers
      have hnum : (numb 0 ops.toList).drop 1 = numb 1 r := by rw [ho]; rfl
      rw [hnum] at hv
      have hmd : ∀ o ∈ r, ∀ d, o.dst = some d → d ∈ dstsO ops.toList := fun o ho' d hd => mem_dstsO (by rw [ho]; simp [ho']) hd
      refine wpOpsS_of_list ?_ ?_ r 1 _ w (fun j => .inl (by rw [← Array.getElem?_toList, ho, Nat.add_comm]; rfl)) (rv_sound (nd := true) (w0 := w) hP r 1 _ _ w hokr hmd (fun _ => hnor) hr1 (Rest.refl w) (fun _ _ => rfl) (fun _ => rfl) hv)
      · rintro ex a1 w1 ⟨hrest1, _, hd1, e1', hr2, hp⟩
        cases ex with
        | normal =>
          refine wpS_of_wp (Code.wp_mono ?_ (vc_sound (w0 := w) hP hD c ann _ _ _ w1 hok2 hr2 hrest1 hp))
          rintro ex a2 w2 ⟨hrest2, _, hd2, e2', hr3, hp2⟩
          have hd' : a2.defers = [] := by rw [hd2 hnc, hd1 rfl, hdf]
          have hmode : c₀ = { c₀ with mode := .returning } := by rw [← hu]
          cases ex with
          | normal =>
            obtain ⟨v, hrun, hK⟩ := back_sound hr3 hp2
            exact ⟨hd', .returning, by rw [← hmode], v, hrun, ⟨v, rfl⟩, hrest2, rfl, hK⟩
          | ret =>
            obtain ⟨v, hrun, hK⟩ := back_sound hr3 hp2
            exact ⟨hd', .returning, by rw [← hmode], v, hrun, ⟨v, rfl⟩, hrest2, rfl, hK⟩
          | panic ch => exact hp2.elim
          | exit i => exact hp2.elim
          | goto i => exact hp2.elim
          | outgrown => exact hp2.elim
        | _ => exact hp.elim
      · rintro a' w' ⟨_, _, _, _, _, hp⟩
        exact hp
    · exact hv.elim
  · exact hv.elim

theorem calls_vcN {P : Program} (hP : Fine P) {f : FuncId} {fn : Func} (hf : P.funcs[f]? = some fn) {ann : Ann} {args : List Value} {h : Hp} {K : Hp → Prop}
    (hok : okFN P (okDraw P) fn ann args.length = true) (hv : fnVN P fn ann args h K) : DefH P f args.toArray .returning h fun u' h' => u' = .returning ∧ K h' :=
  fnN_sound hP (fun m => drawOk (reads P) hP m) hf hok hv

/-! ### A closure with a loop over a function in it, that is deferred -/

theorem marks_steps {P : Program} : ∀ (ds : List Deferred) (w w0 : World) (fr : Frame) (cs : List Frame) (K : Hp → Prop), Rest w0 w → fr.mode ≠ .run → fr.defers = ds → marksV ds w.heap K →
    ∃ w', Steps P (lone fr cs w) (lone { fr with defers := [] } cs w') ∧ Rest w0 w' ∧ K w'.heap
  | [], w, w0, fr, cs, K, hw, _, hd, h => ⟨w, by rw [show ({ fr with defers := [] } : Frame) = fr from by rw [← hd]]; exact Steps.refl P _, hw, h⟩
  | d :: ds, w, w0, fr, cs, K, hw, hm, hd, h => by
    unfold marksV at h
    split at h
    · rename_i D ht
      obtain ⟨hD, h⟩ := h
      have h1 := step_collected (P := P) (cs := cs) hm hd ht (run_takeDeferred hD)
      obtain ⟨w', hs, hr, hK⟩ := marks_steps ds _ w0 { fr with defers := [] ++ ds } cs K (hw.trans (putObj_rest _ _ _)) hm rfl (h _ (putObj_heap _ _ _))
      exact ⟨w', .head h1 hs, hr, hK⟩
    · exact h.elim

theorem fnID_sound {P : Program} {okD : Bool → List Oper → Option (List Nat) → Option (Nat × List (List Nat)) → Bool} (hP : Fine P) (hD : ∀ m, DrawOk P false (fun c => c.wp P) m (okD m)) (hDI : ∀ l m, DrawOk P true (fun c => c.wpIn (rnd l) 0 P) m (okD m)) {f : FuncId} {fn : Func} (hf : P.funcs[f]? = some fn) {ann : Ann} {args : List Value} {u : FrameMode} {h : Hp}
    {K : Hp → Prop} (hok : okFI P false okD fn ann args.length = true) (hv : fnVI P false fn ann args h fun e h' => (∃ v, e = .returned v) ∧ K h') : DefH P f args.toArray u h fun u' h' => u' = u ∧ K h' := by
  intro w hw
  subst hw
  unfold okFI at hok
  unfold fnVI at hv
  cases hb : fn.body with
  | none => rw [hb] at hok; cases hok
  | some c =>
    simp only [hb, Bool.and_eq_true] at hok hv
    obtain ⟨hle, hok⟩ := hok
    have hle' : args.length ≤ fn.ntmps := Nat.le_of_ble_eq_true hle
    intro c₀ cs hu
    let b : Frame := { (default : Frame) with fn := f, kind := .deferred }
    have henter : Frame.enter P f args.toArray .deferred =
        b.at { tmps := args.toArray ++ Array.replicate (fn.ntmps - args.toArray.size) undef, defers := [] } [.code c] := by
      simp [Frame.enter, Frame.at, hf, hb, b]
    have hc : ({ c₀ with mode := u } : Frame) = c₀ := by subst hu; rfl
    have hwp := vc_soundW (w0 := w) (reads P) hP hD (fun c ann w0 Q e a w h _ hr hw hv => special_sound hP hDI c ann w0 Q e a w h hr hw hv) c ann _ ⟨startS 0 args, []⟩ { tmps := args.toArray ++ Array.replicate (fn.ntmps - args.toArray.size) undef, defers := [] } w hok (fun h => by cases h) ⟨by simp; omega, rfl, (by
      intro t x hx
      obtain ⟨_, h2⟩ := look_start args 0 t x hx
      have hlt : t < args.length := (List.getElem?_eq_some_iff.1 h2).1
      simp only [Nat.sub_zero] at h2
      rw [Array.getElem?_append_left (by simpa using hlt)]
      simpa using h2)⟩ (Rest.refl w) hv
    obtain ⟨ex, a', w', hq, harr⟩ := hwp b [] (c₀ :: cs)
    rw [← henter] at harr
    obtain ⟨hrest, _, _, e, hr, hp⟩ := hq
    have fin : ∀ todo, Steps P (lone (Frame.enter P f args.toArray .deferred) (c₀ :: cs) w) (lone { b.at a' todo with mode := .returning } (c₀ :: cs) w') → (marksV e.d w'.heap fun h2 => backV P fn.results.toList e h2 fun v => (∃ v', Ending.returned v = .returned v') ∧ K h2) →
        ∃ e u' w' fr, ((∃ v, e = .returned v) ∧ Rest w w' ∧ u' = u ∧ K w'.heap) ∧ Comes P (lone (Frame.enter P f args.toArray .deferred) (c₀ :: cs) w) (lone fr ({ c₀ with mode := u' } :: cs) w') e ∧ fr.kind = .deferred ∧ fr.going P w' e := by
      intro todo hs hp
      rw [← hr.defers] at hp
      obtain ⟨w2, hs2, hr2, hb2⟩ := marks_steps (P := P) a'.defers w' w { b.at a' todo with mode := .returning } (c₀ :: cs) _ hrest (by simp) rfl hp
      obtain ⟨v, hrun, _, hK⟩ := back_sound (w := w2) hr hb2
      exact ⟨.returned v, u, w2, _, ⟨⟨v, rfl⟩, hr2, rfl, hK⟩, (by rw [hc]; exact Steps.trans hs hs2), rfl, rfl, rfl, fn, hf, hrun⟩
    cases ex with
    | normal => exact fin [] (Steps.trans harr (.one step_end)) hp
    | ret =>
      obtain ⟨todo, hs⟩ := harr
      exact fin todo hs hp
    | panic ch =>
      exfalso
      have hp : marksV e.d w'.heap fun h2 => (∃ v, Ending.panicked ch = .returned v) ∧ K h2 := hp
      have : ∀ (ds : List Deferred) (h : Hp), (marksV ds h fun h2 => (∃ v, Ending.panicked ch = .returned v) ∧ K h2) → False := by
        intro ds
        induction ds with
        | nil => rintro h ⟨⟨v, hv⟩, _⟩; cases hv
        | cons d ds ih =>
          intro h hm
          unfold marksV at hm
          split at hm
          · exact ih _ (hm.2 _ rfl)
          · exact hm
      exact this _ _ hp
    | exit i => exact hp.elim
    | goto i => exact hp.elim
    | outgrown => exact hp.elim

theorem calls_vcID {P : Program} (hP : Fine P) {f : FuncId} {fn : Func} (hf : P.funcs[f]? = some fn) {ann : Ann} {args : List Value} {u : FrameMode} {h : Hp} {K : Hp → Prop}
    (hok : okFI P false (okDraw P) fn ann args.length = true) (hv : fnVI P false fn ann args h fun e h' => (∃ v, e = .returned v) ∧ K h') : DefH P f args.toArray u h fun u' h' => u' = u ∧ K h' :=
  fnID_sound hP (fun m => drawOk (reads P) hP m) (fun l m => drawOk (reads_in P l) hP m) hf hok hv

end Go.Vc
