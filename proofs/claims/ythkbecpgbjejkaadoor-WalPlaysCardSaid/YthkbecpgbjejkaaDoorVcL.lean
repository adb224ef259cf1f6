/- Functions that defer somewhere in their midst, and the closure that recovers beside loads. -/
import Derived.Test.YthkbecpgbjejkaaDoorVcK
set_option maxRecDepth 10000
namespace Go.Vc
open Go

/-- How a function is left, with what it has deferred. -/
def leaveV (P : Program) (rs : List ResultVar) (e : Env) (u : FrameMode) (h : Hp) (R : Ending → Hp → Prop) : Prop :=
  match e.d with
  | [] => match u with
    | .returning => backV P rs ⟨e.s, []⟩ h fun v => R (.returned v) h
    | .panicking ch => R (.panicked ch) h
    | _ => False
  | [d] => match d.target, d.args.toList with
    | .fn (.func g) ys, [] => cond (bodied P g) (DefH P g ys u h fun u' h3 => settle u' = .returning ∧ backV P rs ⟨e.s, []⟩ h3 fun v => R (.returned v) h3) False
    | _, _ => False
  | _ => False

/-- The verification condition of a function that may defer one call. -/
def fnVG (P : Program) (mp : Bool) (fn : Func) (ann : Ann) (args : List Value) (h : Hp) (R : Ending → Hp → Prop) : Prop :=
  match fn.body with
  | some c => vc P mp c ann (fun ex e h' => match ex with
      | .normal => leaveV P fn.results.toList e .returning h' R
      | .ret => leaveV P fn.results.toList e .returning h' R
      | .panic ch => leaveV P fn.results.toList e (.panicking ch) h' R
      | _ => False) ⟨startS 0 args, []⟩ h
  | none => False

def okFG (P : Program) (mp : Bool) (okD : Bool → List Oper → Option (List Nat) → Option (Nat × List (List Nat)) → Bool) (fn : Func) (ann : Ann) (k : Nat) : Bool :=
  match fn.body with
  | some c => Nat.ble k fn.ntmps && okC P mp okD fn.ntmps c ann
  | none => false

theorem fnG_sound {P : Program} {mp : Bool} {okD : Bool → List Oper → Option (List Nat) → Option (Nat × List (List Nat)) → Bool} (hP : Fine P) (hD : ∀ m, DrawOk P false (fun c => c.wp P) m (okD m)) {f : FuncId} {fn : Func} (hf : P.funcs[f]? = some fn) {ann : Ann} {args : List Value} {h : Hp}
    {R : Ending → Hp → Prop} (hok : okFG P mp okD fn ann args.length = true) (hv : fnVG P mp fn ann args h R) : CallsH P f args.toArray h R := by
  intro w hw
  subst hw
  unfold okFG at hok
  unfold fnVG at hv
  split at hv
  · rename_i c hb
    rw [hb] at hok
    simp only [Bool.and_eq_true] at hok
    obtain ⟨hle, hok⟩ := hok
    have hle' : args.length ≤ fn.ntmps := Nat.le_of_ble_eq_true hle
    refine calls_of_wp_defers hf hb (Code.wp_mono ?_ (vc_sound (w0 := w) hP hD c ann _ ⟨startS 0 args, []⟩ _ w hok ⟨?_, rfl, ?_⟩ (Rest.refl w) hv))
    · intro ex a' w' hu
      obtain ⟨hrest, _, _, e, hr, hp⟩ := hu
      have lv : ∀ u : FrameMode, u ≠ .run → leaveV P fn.results.toList e u w'.heap R → Leaves P fn a'.tmps (fun e w' => e ≠ .outgrown ∧ Rest w w' ∧ R e w'.heap) a'.defers u w' := by
        intro u hu hl
        have hr0 : ∀ h3 w3, h3 = w3.heap → ∀ K, backV P fn.results.toList ⟨e.s, []⟩ h3 K → ∃ v, (results fn a'.tmps).run P w3 = .ok v w3 ∧ K v := by
          rintro h3 w3 rfl K hb
          exact back_sound (e := ⟨e.s, []⟩) (a := ⟨a'.tmps, []⟩) ⟨hr.size, rfl, hr.slots⟩ hb
        unfold leaveV at hl
        split at hl
        · rename_i hd
          rw [hr.defers, hd]
          cases u with
          | returning =>
            obtain ⟨v, hrun, hR⟩ := hr0 _ w' rfl _ hl
            exact ⟨v, hrun, by simp, hrest, hR⟩
          | panicking ch => exact ⟨by simp, hrest, hl⟩
          | run => exact hl.elim
        · rename_i d hd
          rw [hr.defers, hd]
          split at hl
          · rename_i g ys h1 h2
            obtain ⟨hbod, hl⟩ := cond_elim hl
            obtain ⟨tgt, dargs⟩ := d
            simp only at h1 h2
            subst h1
            have : dargs = #[] := by rw [← Array.toArray_toList (xs := dargs), h2]
            subst this
            obtain ⟨fg, cg, hfg, hcg⟩ : ∃ fg cg, P.funcs[g]? = some fg ∧ fg.body = some cg := by
              unfold bodied at hbod
              split at hbod
              · rename_i fg hfg
                obtain ⟨cg, hcg⟩ := Option.isSome_iff_exists.1 hbod
                exact ⟨fg, cg, hfg, hcg⟩
              · cases hbod
            refine leaves_cons hu ?_ (CallsD.mono (hl w' rfl) ?_)
            · have := callFunc_run (w := w') hP hfg hcg ys
              simpa [invoke] using this
            · rintro e4 u' w4 ⟨⟨v, rfl⟩, hrest', hset, hbk⟩
              show Leaves P fn a'.tmps _ [] (settle u') w4
              rw [hset]
              obtain ⟨v, hrun, hR⟩ := hr0 _ w4 rfl _ hbk
              exact ⟨v, hrun, by simp, hrest.trans hrest', hR⟩
          · exact hl.elim
        · exact hl.elim
      cases ex with
      | normal => exact lv _ (by simp) hp
      | ret => exact lv _ (by simp) hp
      | panic ch => exact lv _ (by simp) hp
      | exit i => exact hp.elim
      | goto i => exact hp.elim
      | outgrown => exact hp.elim
    · simp; omega
    · intro t x hx
      obtain ⟨_, h2⟩ := look_start args 0 t x hx
      have hlt : t < args.length := by
        have := (List.getElem?_eq_some_iff.1 h2).1
        omega
      simp only [Nat.sub_zero] at h2
      rw [Array.getElem?_append_left (by simpa using hlt)]
      simpa using h2
  · exact hv.elim

theorem calls_vcG {P : Program} (hP : Fine P) (mp : Bool) {f : FuncId} {fn : Func} (hf : P.funcs[f]? = some fn) {ann : Ann} {args : List Value} {h : Hp} {R : Ending → Hp → Prop}
    (hok : okFG P mp (okDraw P) fn ann args.length = true) (hv : fnVG P mp fn ann args h R) : CallsH P f args.toArray h R :=
  fnG_sound hP (fun m => drawOk (reads P) hP m) hf hok hv

/-! ### A closure that recovers beside two loads, and hands all three on -/

/-- The three operations ahead of the call: what each yields is known by its number. -/
inductive Pre3 where
  | load (t : TypeId) (a : Nat)
  | recov

def preOf (o : Oper) : Option (Pre3 × Nat) :=
  match o.op, o.dst, o.guard with
  | .load t (.tmp a), some d, none => some (.load t a, d)
  | .call { callee := .builtin .recover, args, .. }, some d, none => match args.toList with
    | [] => some (.recov, d)
    | _ => none
  | _, _, _ => none

def recDOf (ops : List Oper) : Option ((TypeId × Nat) × (TypeId × Nat) × FuncId × Nat × Nat × Nat) :=
  match ops with
  | [o0, o1, o2, o3] => match preOf o0, preOf o1, preOf o2, o3.op, o3.guard with
    | some (.load t0 a0, d0), some (.load t1 a1, d1), some (.recov, d2), .call { callee := .value (.func g), args, .. }, none =>
      match args.toList with
      | [.tmp x0, .tmp x1, .tmp x2] => cond (Nat.beq x0 d0 && Nat.beq x1 d1 && Nat.beq x2 d2) (some ((t0, a0), (t1, a1), g, d0, d1, d2)) none
      | _ => none
    | _, _, _, _, _ => none
  | _ => none

/-- The condition of such a closure. -/
def fnVRD (P : Program) (fn : Func) (args : List Value) (x : Value) (u' : FrameMode) (h : Hp) (K : FrameMode → Hp → Prop) : Prop :=
  match fn.body with
  | some (.region _ ops true) => match recDOf ops.toList with
    | some ((t0, a0), (t1, a1), g, _, _, _) =>
      ev ⟨startS 0 args, []⟩ (.tmp a0) fun p0 => asPtr p0 fun b0 i0 => loadV P t0 (cellsAt h) b0 i0 fun v0 =>
      ev ⟨startS 0 args, []⟩ (.tmp a1) fun p1 => asPtr p1 fun b1 i1 => loadV P t1 (cellsAt h) b1 i1 fun v1 =>
      callV P false g [v0.val, v1.val, x] h (fun _ h' => K u' h') (fun _ _ => False)
    | none => False
  | _ => False

def okFRD (_ : Program) (fn : Func) (k : Nat) : Bool :=
  match fn.body with
  | some (.region _ ops true) => match recDOf ops.toList with
    | some ((_, a0), (_, a1), _, d0, d1, d2) => Nat.ble k fn.ntmps && okOps fn.ntmps ops.toList && fn.results.toList.isEmpty &&
        !Nat.beq d0 d1 && !Nat.beq d0 d2 && !Nat.beq d1 d2 && Nat.blt a0 k && Nat.blt a1 k && Nat.ble k d0 && Nat.ble k d1 && Nat.ble k d2 &&
        ((ops.toList[3]?.map (·.dst)) == some (some (d2 + 1)) || (ops.toList[3]?.map (·.dst)) == some none) && Region.noSelect ops &&
        (numb 0 ops.toList).all (fun p => p.2.after.all fun e => !Region.binds .any e || Nat.blt e.on p.1) &&
        (List.range 3).all fun i => ((masks [] ops.toList).getD 3 0).testBit i
    | none => false
  | _ => false

theorem preOf_load {o : Oper} {t : TypeId} {a d : Nat} (h : preOf o = some (.load t a, d)) : o.op = .load t (.tmp a) ∧ o.dst = some d ∧ o.guard = none := by
  unfold preOf at h
  split at h
  · rename_i h1 h2 h3
    cases h
    exact ⟨h1, h2, h3⟩
  · split at h <;> cases h
  · cases h

theorem preOf_rec {o : Oper} {d : Nat} (h : preOf o = some (.recov, d)) : (∃ cl, o.op = .call cl ∧ cl.callee = .builtin .recover ∧ cl.args.toList = []) ∧ o.dst = some d ∧ o.guard = none := by
  unfold preOf at h
  split at h
  · cases h
  · rename_i h1 h2 h3
    split at h
    · rename_i h4
      cases h
      exact ⟨⟨_, h1, rfl, h4⟩, h2, h3⟩
    · cases h
  · cases h

theorem wpS_region_draw {P : Program} {Q : Exit → Act → List Frame → World → Prop} {id : Nat} {ops : Array Oper} {a : Act} {cs : List Frame} {w : World}
    (h : ∀ t : Nat, wpOpsS P ops Q (Region.schedule (P.follows .mixedOrders) ops t) a cs { w with drawn := w.drawn + 1 }) : (Code.region id ops true).wpS P Q a cs w :=
  fun b k hb hr => let ⟨e, a', cs', w', q, r⟩ := wp_opsS _ a cs _ (h _) b k hb hr; ⟨e, a', cs', w', q, .of_steps (.one step_region_draw) r⟩

/-- A list of all numbers up to the last one, that the last one ends. -/
theorem last_last {ops : Array Oper} {m : Nat} (hm : ops.size = m + 1) (hord : ∀ j oj, ops[j]? = some oj → ∀ e ∈ oj.after, Region.binds .any e = true → e.on < j)
    (hdl : ∀ i, i < m → Dp ops i m) {l : List Nat} (htopo : Topo ops (Array.replicate ops.size false) l) (hend : l.length = ops.size ∨ Region.ready .any ops (afterL (Array.replicate ops.size false) l) = []) :
    ∃ l1, l = l1 ++ [m] ∧ l1.Nodup ∧ ∀ i, i ∈ l1 ↔ i < m := by
  have hperm := topo_all hord htopo hend
  have hnd := topo_nodup htopo
  have hclosed : Closed ops (Array.replicate ops.size false) := by
    intro j oj hj h
    have hjs : j < ops.size := (Array.getElem?_eq_some_iff.1 hj).1
    simp [hjs] at h
  have hdep : ∀ x y, [y, x].Sublist l → ¬ Dp ops x y := fun x y => topo_dep htopo hclosed x y
  have hml : m ∈ l := hperm.mem_iff.2 (List.mem_range.2 (by omega))
  obtain ⟨l1, l2, hl12⟩ := List.append_of_mem hml
  have hl2 : l2 = [] := by
    cases l2 with
    | nil => rfl
    | cons y l2 =>
      exfalso
      have hyl : y ∈ l := by rw [hl12]; simp
      have hyn : y < ops.size := List.mem_range.1 (hperm.mem_iff.1 hyl)
      have hne : y ≠ m := by
        intro e
        rw [hl12] at hnd
        have := (List.nodup_append.1 hnd).2.1
        simp [e] at this
      refine hdep y m ?_ (hdl y (by omega))
      rw [hl12]
      exact List.Sublist.trans (List.Sublist.cons_cons _ (List.singleton_sublist.2 (by simp))) (List.sublist_append_right l1 _)
  subst hl2
  refine ⟨l1, hl12, ?_, fun i => ?_⟩
  · rw [hl12] at hnd; exact (List.nodup_append.1 hnd).1
  · constructor
    · intro hi
      have h1 : i < ops.size := List.mem_range.1 (hperm.mem_iff.1 (by rw [hl12]; simp [hi]))
      have hne : i ≠ m := by
        intro e
        rw [hl12] at hnd
        have := (List.nodup_append.1 hnd).2.2 i hi m (by simp)
        exact this e
      omega
    · intro hi
      have h1 : i ∈ l := hperm.mem_iff.2 (List.mem_range.2 (by omega))
      rw [hl12] at h1
      rcases List.mem_append.1 h1 with h1 | h1
      · exact h1
      · simp at h1; omega

theorem numb_mem : ∀ (l : List Oper) (k i : Nat) (o : Oper), l[i]? = some o → (k + i, o) ∈ numb k l
  | [], _, _, _, h => by simp at h
  | x :: l, k, 0, o, h => by simp at h; subst h; simp [numb]
  | x :: l, k, i + 1, o, h => by
    have := numb_mem l (k + 1) i o (by simpa using h)
    rw [show k + 1 + i = k + (i + 1) from by omega] at this
    simp [numb, this]

theorem fnRD_sound {P : Program} (hP : Fine P) {f : FuncId} {fn : Func} (hf : P.funcs[f]? = some fn) {args : List Value} {u : FrameMode} {h : Hp}
    {K : FrameMode → Hp → Prop} (hok : okFRD P fn args.length = true) (hv : fnVRD P fn args (recU u).1 (recU u).2 h K) : DefH P f args.toArray u h K := by
  intro w hw
  subst hw
  unfold okFRD at hok
  unfold fnVRD at hv
  split at hv
  · rename_i id ops hb
    rw [hb] at hok
    simp only at hok
    split at hv
    · rename_i t0 a0 t1 a1 g d0 d1 d2 hrc
      rw [hrc] at hok
      simp only [Bool.and_eq_true] at hok
      obtain ⟨⟨⟨⟨⟨⟨⟨⟨⟨⟨⟨⟨⟨⟨hle, hok1⟩, hres⟩, h01⟩, h02⟩, h12⟩, ha0⟩, ha1⟩, hd0⟩, hd1⟩, hd2⟩, _⟩, hsel⟩, hord⟩, hmask⟩ := hok
      have hle' : args.length ≤ fn.ntmps := Nat.le_of_ble_eq_true hle
      have h01 : d0 ≠ d1 := fun e => by rw [e] at h01; simp at h01
      have h02 : d0 ≠ d2 := fun e => by rw [e] at h02; simp at h02
      have h12 : d1 ≠ d2 := fun e => by rw [e] at h12; simp at h12
      have ha0 : a0 < args.length := by simpa using ha0
      have ha1 : a1 < args.length := by simpa using ha1
      have hd0 : args.length ≤ d0 := Nat.le_of_ble_eq_true hd0
      have hd1 : args.length ≤ d1 := Nat.le_of_ble_eq_true hd1
      have hd2 : args.length ≤ d2 := Nat.le_of_ble_eq_true hd2
      obtain ⟨o0, o1, o2, o3, cl, ho, hp0, hp1, hp2, e3, e3g, hcal, hargs⟩ : ∃ o0 o1 o2 o3 cl, ops.toList = [o0, o1, o2, o3] ∧ preOf o0 = some (.load t0 a0, d0) ∧ preOf o1 = some (.load t1 a1, d1) ∧ preOf o2 = some (.recov, d2) ∧
          o3.op = .call cl ∧ o3.guard = none ∧ cl.callee = .value (.func g) ∧ cl.args.toList = [.tmp d0, .tmp d1, .tmp d2] := by
        unfold recDOf at hrc
        split at hrc
        · rename_i o0 o1 o2 o3 hol
          split at hrc
          · rename_i g1 g2 g3 g4 g5
            split at hrc
            · rename_i x0 x1 x2 g6
              cases hc : (Nat.beq x0 _ && Nat.beq x1 _ && Nat.beq x2 _) with
              | false => rw [hc] at hrc; cases hrc
              | true =>
                rw [hc] at hrc
                cases hrc
                simp only [Bool.and_eq_true] at hc
                obtain rfl := Nat.eq_of_beq_eq_true hc.1.1
                obtain rfl := Nat.eq_of_beq_eq_true hc.1.2
                obtain rfl := Nat.eq_of_beq_eq_true hc.2
                exact ⟨o0, o1, o2, o3, _, hol, g1, g2, g3, g4, g5, rfl, g6⟩
            · cases hrc
          · cases hrc
        · cases hrc
      have hsz : ops.size = 4 := by rw [← Array.length_toList, ho]; rfl
      have g0 : ops[0]? = some o0 := by rw [← Array.getElem?_toList, ho]; rfl
      have g1 : ops[1]? = some o1 := by rw [← Array.getElem?_toList, ho]; rfl
      have g2 : ops[2]? = some o2 := by rw [← Array.getElem?_toList, ho]; rfl
      have g3 : ops[3]? = some o3 := by rw [← Array.getElem?_toList, ho]; rfl
      obtain ⟨q0, r0, s0⟩ := preOf_load hp0
      obtain ⟨q1, r1, s1⟩ := preOf_load hp1
      obtain ⟨⟨c2, q2, q2c, q2a⟩, r2, s2⟩ := preOf_rec hp2
      -- the slots at the start
      generalize ha : ({ tmps := args.toArray ++ Array.replicate (fn.ntmps - args.toArray.size) undef, defers := [] } : Act) = a
      have hrep : Rep fn.ntmps ⟨startS 0 args, []⟩ a := by
        subst ha
        refine ⟨by simp; omega, rfl, ?_⟩
        intro t x hx
        obtain ⟨_, h2⟩ := look_start args 0 t x hx
        have hlt : t < args.length := by
          have := (List.getElem?_eq_some_iff.1 h2).1
          omega
        simp only [Nat.sub_zero] at h2
        rw [Array.getElem?_append_left (by simpa using hlt)]
        simpa using h2
      obtain ⟨x0, hx0, hv⟩ := ev_sound hrep hv
      obtain ⟨b0, i0, hxp0, hv⟩ := asPtr_sound hv
      obtain ⟨vs0, v0, hc0, hv, hrun0⟩ := loadV_sound hv
      obtain ⟨x1, hx1, hv⟩ := ev_sound hrep hv
      obtain ⟨b1, i1, hxp1, hv⟩ := asPtr_sound hv
      obtain ⟨vs1, v1, hc1, hv, hrun1⟩ := loadV_sound hv
      have hord' : ∀ j oj, ops[j]? = some oj → ∀ e ∈ oj.after, Region.binds .any e = true → e.on < j := by
        intro j oj hj e' he hb'
        have hmem : (j, oj) ∈ numb 0 ops.toList := by simpa using numb_mem ops.toList 0 j oj (by simpa using hj)
        have := List.all_eq_true.1 hord _ hmem
        have := Array.all_eq_true_iff_forall_mem.1 this e' he
        simp only [hb', Bool.not_true, Bool.false_or] at this
        simpa using this
      have hdl : ∀ i, i < 3 → Dp ops i 3 := fun i hi =>
        masks_sound ops.toList [] (by simp) (fun _ _ h => by simp at h) _ i (by have := List.all_eq_true.1 hmask i (List.mem_range.2 hi); simpa using this)
      refine callsD_of_wpS hf hb fun c₀ cs hu => wpS_region_draw fun t => ?_
      rw [ha]
      simp only [Region.schedule, hP.mixed, Bool.true_or, if_true]
      obtain ⟨l, hl, htopo, hend⟩ := lin_topo ops ops.size t (Array.replicate ops.size false)
      show wpOpsS P ops _ (Region.linearise.go .any ops ops.size t (Array.replicate ops.size false) []) a _ _
      rw [hl]
      obtain ⟨l1, rfl, hnd1, hmem1⟩ := last_last hsz hord' hdl htopo hend
      generalize hw2 : ({ w with drawn := w.drawn + 1 } : World) = w2
      have hh2 : w2.heap = w.heap := by rw [← hw2]
      have hrest2 : Rest w w2 := by rw [← hw2]; exact ⟨rfl, rfl, rfl⟩
      -- whatever is left to be done
      have key : ∀ (r : List Nat) (a' : Act) (cs' : List Frame), r.Nodup → (∀ i ∈ r, i < 3) → a'.defers = [] → a'.tmps.size = fn.ntmps → (∀ t, t < args.length → a'.tmps[t]? = a.tmps[t]?) →
          (0 ∉ r → a'.tmps[d0]? = some v0.val) → (1 ∉ r → a'.tmps[d1]? = some v1.val) → (2 ∉ r → a'.tmps[d2]? = some (recU u).1 ∧ cs' = { c₀ with mode := (recU u).2 } :: cs) → (2 ∈ r → cs' = c₀ :: cs) →
          wpOpsS P ops (bodyPostS P fn c₀ cs fun e u' w' => (∃ v, e = .returned v) ∧ Rest w w' ∧ K u' w'.heap) (r ++ [3]) a' cs' w2 := by
        intro r
        induction r with
        | nil =>
          intro a' cs' _ _ hdf hsz' _ k0 k1 k2 _
          have k0 := k0 (by simp)
          have k1 := k1 (by simp)
          obtain ⟨k3, rfl⟩ := k2 (by simp)
          have hr' : Rep fn.ntmps ⟨[(d0, v0), (d1, v1), (d2, .v (recU u).1)], []⟩ a' := by
            refine ⟨hsz', hdf, fun t x hx => ?_⟩
            simp only [look] at hx
            cases hb0 : Nat.beq d0 t with
            | true => rw [hb0] at hx; cases hx; rw [← Nat.eq_of_beq_eq_true hb0]; exact k0
            | false =>
              rw [hb0] at hx
              cases hb1 : Nat.beq d1 t with
              | true => rw [hb1] at hx; cases hx; rw [← Nat.eq_of_beq_eq_true hb1]; exact k1
              | false =>
                rw [hb1] at hx
                cases hb2 : Nat.beq d2 t with
                | true => rw [hb2] at hx; cases hx; rw [← Nat.eq_of_beq_eq_true hb2]; exact k3
                | false => rw [hb2] at hx; cases hx
          have hov : ov P false o3 ⟨[(d0, v0), (d1, v1), (d2, .v (recU u).1)], []⟩ w2.heap (cellsAt w2.heap) (fun _ h' => K (recU u).2 h') (fun _ _ => False) := by
            obtain ⟨dst3, op3, ty3, pos3, aft3, gd3⟩ := o3
            simp only at e3
            subst e3
            obtain ⟨callee, cargs, cts⟩ := cl
            simp only at hcal hargs
            subst hcal
            simp only [ov, hargs, pv.evs, ev, look]
            have b01 : Nat.beq d0 d1 = false := by cases hb : Nat.beq d0 d1 with | false => rfl | true => exact (h01 (Nat.eq_of_beq_eq_true hb)).elim
            have b02 : Nat.beq d0 d2 = false := by cases hb : Nat.beq d0 d2 with | false => rfl | true => exact (h02 (Nat.eq_of_beq_eq_true hb)).elim
            have b12 : Nat.beq d1 d2 = false := by cases hb : Nat.beq d1 d2 with | false => rfl | true => exact (h12 (Nat.eq_of_beq_eq_true hb)).elim
            simp only [b01, b02, b12, Nat.beq_refl, cond_true, cond_false, hh2]
            exact hv
          have hgoal : o3.wp P a' w2 (fun a'' w' => wpOpsS P ops (bodyPostS P fn c₀ cs fun e u' w' => (∃ v, e = .returned v) ∧ Rest w w' ∧ K u' w'.heap) [] a'' ({ c₀ with mode := (recU u).2 } :: cs) w')
              (fun e a'' w' => bodyPostS P fn c₀ cs (fun e u' w' => (∃ v, e = .returned v) ∧ Rest w w' ∧ K u' w'.heap) e a'' ({ c₀ with mode := (recU u).2 } :: cs) w') := by
            refine Oper.wp_mono' ?_ ?_ (ov_sound (w0 := w) hP hr' hrest2 hov)
            · rintro a'' w' ⟨x, rfl, hrest', hK⟩
              have hbk : backV P fn.results.toList ⟨[], []⟩ w'.heap fun _ => K (recU u).2 w'.heap := by
                have : fn.results.toList = [] := by simpa using hres
                rw [this]
                exact hK
              have hr'' : Rep fn.ntmps ⟨[], []⟩ (a'.put o3.dst x.val) := by
                refine ⟨?_, by rw [put_defers]; exact hdf, fun _ _ h => by cases h⟩
                cases o3.dst <;> simp [Act.put, hsz']
              obtain ⟨v, hrun, hK⟩ := back_sound hr'' hbk
              exact ⟨by rw [put_defers]; exact hdf, _, rfl, v, hrun, ⟨v, rfl⟩, hrest', hK⟩
            · rintro ex a'' w' ⟨c, _, _, _, hf⟩
              exact hf.elim
          unfold Oper.wp at hgoal
          have hw3 : Region.wanted o3 (yielded ops a'.tmps) = true := by simp [Region.wanted, e3g]
          rw [List.nil_append]
          unfold wpOpsS
          simp only [g3, hw3, if_true]
          split
          · rename_i hr; rw [hr] at hgoal; simp [Oper.upon] at hgoal
          · exact hgoal
        | cons i r ih =>
          intro a' cs' hnd hlt hdf hsz' hsl k0 k1 k2 k2'
          obtain ⟨hir, hnd'⟩ := List.nodup_cons.1 hnd
          have hi3 := hlt i (by simp)
          have hlt' : ∀ j ∈ r, j < 3 := fun j hj => hlt j (by simp [hj])
          have put_self : ∀ (d : Nat) (v : Value), d < fn.ntmps → (a'.put (some d) v).tmps[d]? = some v := by
            intro d v hd
            simp only [Act.put]
            rw [Array.getElem?_setIfInBounds_self, if_pos (by rw [hsz']; exact hd)]
          have put_ne : ∀ (d t : Nat) (v : Value), t ≠ d → (a'.put (some d) v).tmps[t]? = a'.tmps[t]? := fun d t v h => put_frame fun s hs => by cases hs; exact h
          have put_sz : ∀ (d : Nat) (v : Value), (a'.put (some d) v).tmps.size = fn.ntmps := by intro d v; simp [Act.put, hsz']
          have dlt : ∀ (o : Oper) (d : Nat), o ∈ ops.toList → o.dst = some d → d < fn.ntmps := fun o d ho' hd => okOps_mem hok1 o ho' d hd
          have dl0 := dlt o0 d0 (by rw [ho]; simp) r0
          have dl1 := dlt o1 d1 (by rw [ho]; simp) r1
          have dl2 := dlt o2 d2 (by rw [ho]; simp) r2
          rw [List.cons_append]
          unfold wpOpsS
          have ev0 : a'.eval (.tmp a0) = x0.val := by
            rw [← hx0]; simp only [Act.eval, Array.getD_eq_getD_getElem?, hsl a0 ha0]
          have ev1 : a'.eval (.tmp a1) = x1.val := by
            rw [← hx1]; simp only [Act.eval, Array.getD_eq_getD_getElem?, hsl a1 ha1]
          rcases (show i = 0 ∨ i = 1 ∨ i = 2 by omega) with rfl | rfl | rfl
          · have hw0 : Region.wanted o0 (yielded ops a'.tmps) = true := by simp [Region.wanted, s0]
            have hr : (execOp a'.eval o0).run P w2 = .ok (.value v0.val) w2 := by
              have := hrun0 w2 (by rw [hh2]; exact hc0)
              simp [execOp, q0, ev0, hxp0, this]
            simp only [g0, hw0, if_true, hr, Oper.upon, r0]
            refine ih _ _ hnd' hlt' (by rw [put_defers]; exact hdf) (put_sz _ _) (fun t ht => (put_ne _ _ _ (by omega)).trans (hsl t ht)) (fun _ => put_self _ _ dl0) (fun h => (put_ne _ _ _ h01.symm).trans (k1 (by simpa using h))) (fun h => ?_) (fun h => k2' (by simp [h]))
            have := k2 (by simpa using h)
            exact ⟨(put_ne _ _ _ h02.symm).trans this.1, this.2⟩
          · have hw0 : Region.wanted o1 (yielded ops a'.tmps) = true := by simp [Region.wanted, s1]
            have hr : (execOp a'.eval o1).run P w2 = .ok (.value v1.val) w2 := by
              have := hrun1 w2 (by rw [hh2]; exact hc1)
              simp [execOp, q1, ev1, hxp1, this]
            simp only [g1, hw0, if_true, hr, Oper.upon, r1]
            refine ih _ _ hnd' hlt' (by rw [put_defers]; exact hdf) (put_sz _ _) (fun t ht => (put_ne _ _ _ (by omega)).trans (hsl t ht)) (fun h => (put_ne _ _ _ h01).trans (k0 (by simpa using h))) (fun _ => put_self _ _ dl1) (fun h => ?_) (fun h => k2' (by simp [h]))
            have := k2 (by simpa using h)
            exact ⟨(put_ne _ _ _ h12.symm).trans this.1, this.2⟩
          · have hw0 : Region.wanted o2 (yielded ops a'.tmps) = true := by simp [Region.wanted, s2]
            obtain ⟨callee, cargs, cts⟩ := c2
            simp only at q2c q2a
            subst q2c
            have hca : cargs = #[] := by rw [← Array.toArray_toList (xs := cargs), q2a]
            subst hca
            have hr : (execOp a'.eval o2).run P w2 = .ok .recover w2 := by
              simp [execOp, q2, resolve]
              simp [invoke, builtin]
            obtain rfl := k2' (by simp)
            have fin : wpOpsS P ops (bodyPostS P fn c₀ cs fun e u' w' => (∃ v, e = .returned v) ∧ Rest w w' ∧ K u' w'.heap) (r ++ [3]) (a'.put (some d2) (recU u).1) ({ c₀ with mode := (recU u).2 } :: cs) w2 :=
              ih _ _ hnd' hlt' (by rw [put_defers]; exact hdf) (put_sz _ _) (fun t ht => (put_ne _ _ _ (by omega)).trans (hsl t ht)) (fun h => (put_ne _ _ _ h02).trans (k0 (by simpa using h))) (fun h => (put_ne _ _ _ h12).trans (k1 (by simpa using h))) (fun _ => ⟨put_self _ _ dl2, rfl⟩) (fun h => (hir h).elim)
            simp only [g2, hw0, if_true, hr, r2]
            rcases recover_eq c₀ cs with hrec | ⟨hrec, h1, h2⟩
            · rw [hrec]
              rw [hu]
              exact fin
            · rw [hrec]
              rw [← hu, h1, h2] at fin
              exact fin
      refine key l1 a (c₀ :: cs) hnd1 (fun i hi => (hmem1 i).1 hi) hrep.defers hrep.size (fun _ _ => rfl) (fun h => (h ((hmem1 0).2 (by decide))).elim) (fun h => (h ((hmem1 1).2 (by decide))).elim) (fun h => (h ((hmem1 2).2 (by decide))).elim) (fun _ => rfl)
    · exact hv.elim
  · exact hv.elim

theorem calls_vcRD {P : Program} (hP : Fine P) {f : FuncId} {fn : Func} (hf : P.funcs[f]? = some fn) {args : List Value} {u u' : FrameMode} {x : Value} (hx : recU u = (x, u')) {h : Hp} {K : FrameMode → Hp → Prop}
    (hok : okFRD P fn args.length = true) (hv : fnVRD P fn args x u' h K) : DefH P f args.toArray u h K := by
  have h1 : (recU u).1 = x := by rw [hx]
  have h2 : (recU u).2 = u' := by rw [hx]
  subst h1 h2
  exact fnRD_sound hP hf hok hv

end Go.Vc
