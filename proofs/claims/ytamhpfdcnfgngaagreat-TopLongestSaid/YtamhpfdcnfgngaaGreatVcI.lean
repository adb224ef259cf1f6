/- Rounds: loops over a function, functions that ask for rounds. -/
import Derived.Test.YtamhpfdcnfgngaaGreatVcL
import Derived.RangeFuncLeaves
import Derived.TacticsIn
set_option maxRecDepth 10000
namespace Go.Vc
open Go

abbrev rnd (l : Nat) : Fence := Fence.wide.inRound l

def Open (F : Fence) (nd : Bool) : Prop := F = Fence.wide ∨ (nd = true ∧ ∃ l, F = rnd l)

theorem Open.calls {F : Fence} {nd : Bool} (h : Open F nd) {P : Program} {n : Nat} {f : FuncId} {args : Array Value} {w : World} {R : Ending → World → Prop} (hc : Calls P f args w R) : CallsIn F n P f args w R := by
  rcases h with rfl | ⟨_, l, rfl⟩
  · exact callsIn_wide.2 hc
  · exact (callsIn_wide (n := n)).2 hc

theorem Open.rows {F : Fence} {nd : Bool} (h : Open F nd) {P : Program} {n : Nat} {row : String} {args : Array Value} {w : World} {R : Value → World → Prop} (hc : Rows P row args w R) : RowsIn F n P row args w R := by
  have key : RowsIn Fence.wide n P row args w R := fun c cs _ => let ⟨v, w', r, s⟩ := hc c cs; ⟨v, w', r, stepsIn_wide.2 s⟩
  rcases h with rfl | ⟨_, l, rfl⟩
  · exact key
  · exact key

theorem Open.fn {F : Fence} {nd : Bool} (h : Open F nd) (f : FuncId) : F.fn f := by
  rcases h with rfl | ⟨_, l, rfl⟩ <;> trivial

theorem Open.depth {F : Fence} {nd : Bool} (h : Open F nd) : F.depth = none := by
  rcases h with rfl | ⟨_, l, rfl⟩ <;> rfl

theorem noDef_one {o : Oper} (h : noDefO [o] = true) (c : Call) : o.op ≠ .defer c := by
  intro e
  unfold noDefO at h
  rw [e] at h
  cases h

theorem op_in {P : Program} {o : Oper} {a : Act} {w : World} {N : Act → World → Prop} {Q : Exit → Act → World → Prop} {F : Fence} {nd : Bool} (hF : Open F nd) (hd : nd = true → noDefO [o] = true) (h : o.wp P a w N Q) : o.wpIn F 0 P a w N Q := by
  refine ⟨fun f _ => hF.fn f, ?_⟩
  have hs : o.semAt F.round a.eval = execOp a.eval o := by
    rcases hF with rfl | ⟨hn, l, rfl⟩
    · rfl
    · exact Oper.semAt_some l a.eval o (noDef_one (hd hn))
  rw [hs]
  unfold Oper.wp at h
  generalize (execOp a.eval o).run P w = r at *
  cases r with
  | ok n w' =>
    cases n <;> simp only [Oper.upon] at h <;> simp only [Oper.uponIn]
    case value => exact h
    case skip => exact h
    case defer => exact h
    case enter => exact ⟨fun hd => (by rw [hF.depth] at hd; cases hd), hF.calls h⟩
    case row => exact ⟨fun hd => (by rw [hF.depth] at hd; cases hd), hF.rows h⟩
  | halt x w' => cases x <;> simp only [Oper.upon] at h <;> simp only [Oper.uponIn]; exact h

theorem noDefO_get {l : List Oper} (h : noDefO l = true) : ∀ o ∈ l, noDefO [o] = true := noDefO_mem h

theorem list_in {P : Program} {F : Fence} {nd : Bool} {ops : Array Oper} {Q : Exit → Act → World → Prop} (hF : Open F nd) (hno : ∀ a w, ¬ Q .outgrown a w) : ∀ (l : List Oper) (a : Act) (w : World), (nd = true → noDefO l = true) → wpList P ops Q l a w → wpListIn F 0 P ops Q l a w
  | [], _, _, _, h => h
  | o :: l, a, w, hd, h => by
    unfold wpList at h
    unfold wpListIn
    split at h
    · rename_i hw
      rw [if_pos hw]
      rcases h with h | ⟨_, a0, w0, h⟩
      · exact op_in hF (fun hn => (noDefO_cons (hd hn)).1) (Oper.wp_mono' (fun a' w' h' => list_in hF hno l a' w' (fun hn => (noDefO_cons (hd hn)).2) h') (fun _ _ _ h => h) h)
      · exact (hno _ _ h).elim
    · rename_i hw
      rw [if_neg hw]
      exact ⟨fun f _ => hF.fn f, list_in hF hno l _ _ (fun hn => (noDefO_cons (hd hn)).2) h⟩

theorem ops_in {P : Program} {F : Fence} {nd : Bool} {ops : Array Oper} {Q : Exit → Act → World → Prop} (hF : Open F nd) (hno : ∀ a w, ¬ Q .outgrown a w) (hd : nd = true → noDefO ops.toList = true) : ∀ (l : List Nat) (a : Act) (w : World), wpOps P ops Q l a w → wpOpsIn F 0 P ops Q l a w
  | [], _, _, h => h
  | i :: l, a, w, h => by
    unfold wpOps at h
    unfold wpOpsIn
    cases ho : ops[i]? with
    | none => rw [ho] at h; exact ops_in hF hno hd l a w h
    | some o =>
      simp only [ho] at h ⊢
      have hm : o ∈ ops.toList := by simpa using Array.mem_of_getElem? ho
      split at h
      · rename_i hw
        rw [if_pos hw]
        rcases h with h | ⟨_, a0, w0, h⟩
        · exact op_in hF (fun hn => noDefO_get (hd hn) o hm) (Oper.wp_mono' (fun a' w' h' => ops_in hF hno hd l a' w' h') (fun _ _ _ h => h) h)
        · exact (hno _ _ h).elim
      · rename_i hw
        rw [if_neg hw]
        exact ⟨fun f _ => hF.fn f, ops_in hF hno hd l _ _ h⟩

theorem reads_in (P : Program) (l : Nat) : Reads P true (fun c => c.wpIn (rnd l) 0 P) where
  mono := fun hq h => Code.wpIn_mono hq h
  skip := wpIn_skip
  ret := wpIn_ret
  exit := wpIn_exit
  seq := wpIn_seq
  condT := wpIn_cond_true
  condF := wpIn_cond_false
  block := wpIn_block
  loop := wpIn_loop
  list := fun h hl => wpIn_region_list (list_in (nd := true) (.inr ⟨rfl, l, rfl⟩) (h rfl).2 _ _ _ (fun _ => (h rfl).1) hl)
  draw := fun h hl => wpIn_region_draw fun t => ops_in (nd := true) (.inr ⟨rfl, l, rfl⟩) (h rfl).2 (fun _ => (h rfl).1) _ _ _ (hl t)

/-! ## Regions in which rounds are asked for -/

section
variable {P : Program} {n : Nat} {w0 : World} {Q : Post}

theorem yieldOf_some {o : Oper} {e : Env} {l : Nat} (h : yieldOf o e = some l) : ∃ t args ats fst cap, o.op = .call { callee := .value (.tmp t), args := args, argTypes := ats } ∧ look e.s t = some (.v (.func (.yield l) fst cap)) := by
  unfold yieldOf at h
  split at h
  · rename_i t args ats ho
    split at h
    · rename_i k fst cap hl
      cases h
      exact ⟨t, args, ats, fst, cap, ho, hl⟩
    · cases h
  · cases h

theorem yield_op {o : Oper} {a : Act} {w : World} {l : Nat} {N : Act → World → Prop} {Qp : Exit → Act → World → Prop} {x : Operand} {args : Array Operand} {ats : Array TypeId} {xs : List Value} {R : Ending → Hp → Prop}
    (ho : o.op = .call { callee := .value x, args := args, argTypes := ats }) (hx : a.eval x = .func (.yield l) #[] #[]) (hxs : args.toList.map a.eval = xs) (hy : YieldH P l xs w.heap R)
    (hN : ∀ v w', Rest w w' → R (.returned v) w'.heap → N (a.put o.dst v) w') (hp : ∀ c h, ¬ R (.panicked c) h) : o.wpIn Fence.wide 0 P a w N Qp := by
  obtain ⟨fn, tmps, assign, body, hrun, hround⟩ := hy w rfl
  have hr : (execOp a.eval o).run P w = .ok (.round l fn tmps assign body) w := by
    have : xs.toArray = args.map a.eval := by rw [← hxs, ← Array.toList_map, Array.toArray_toList]
    rw [this] at hrun
    simp [execOp, ho, resolve, hx, Deferred.ofValue, invoke, hrun]
  refine ⟨fun f _ => trivial, ?_⟩
  show o.uponIn Fence.wide 0 P a N Qp ((execOp a.eval o).run P w)
  rw [hr]
  refine ⟨fun h => (by cases h), hround.mono ?_⟩
  rintro e w' ⟨hne, hrest, hR⟩
  cases e with
  | returned v => exact hN v w' hrest hR
  | panicked c => exact (hp _ _ hR).elim
  | outgrown => exact (hne rfl).elim

theorem evs_map {e : Env} {a : Act} (hr : Rep n e a) {l : List Operand} {K : List Value → Prop} (h : pv.evs e l K) : ∃ xs, l.map a.eval = xs ∧ K xs := evs_sound hr h

theorem rvY_sound (hP : Fine P) {ops : Array Oper} {D : List Nat} {a0 : Act} : ∀ (l : List Oper) (e : Env) (a : Act) (w : World),
    okOps n l = true → (∀ o ∈ l, ∀ d, o.dst = some d → d ∈ D) → noDefO l = true → Rep n e a → Rest w0 w → (∀ t, t ∉ D → a.tmps[t]? = a0.tmps[t]?) → a.defers = a0.defers →
    rvY P ops.toList Q l e w.heap → wpListIn Fence.wide 0 P ops (Up n w0 D true a0 Q) l a w
  | [], e, a, w, _, _, _, hr, hw, hf, hdf, h => ⟨hw, hf, fun _ => hdf, e, hr, h⟩
  | o :: l, e, a, w, hok, hD, hnd, hr, hw, hf, hdf, h => by
    obtain ⟨hdst, hok'⟩ := okOps_cons hok
    have h : guardV ops.toList o e _ _ := h
    obtain ⟨e', hr', hc⟩ := guardV_sound hr h
    have hput : ∀ t, t ∉ D → ∀ s, o.dst = some s → t ≠ s := fun t ht s hs e => ht (by rw [e]; exact hD o (by simp) s hs)
    have ih := fun e a w => rvY_sound (a0 := a0) (ops := ops) hP l e a w hok' (fun o ho => hD o (by simp [ho])) (noDefO_cons hnd).2
    unfold wpListIn
    rcases hc with ⟨hwant, hc⟩ | ⟨hwant, hc⟩
    · rw [if_pos hwant]
      cases hy : yieldOf o e' with
      | some k =>
        simp only [hy] at hc
        obtain ⟨t, args, ats, fst, cap, ho, hl⟩ := yieldOf_some hy
        simp only [ho] at hc
        obtain ⟨v, hv, hc⟩ := ev_sound hr' hc
        obtain ⟨xs, hxs, hval, hc⟩ := evs_map hr' hc
        refine yield_op ho (by rw [hv, hval]) hxs hc ?_ ?_
        · rintro v w' hrest ⟨b, hb, hk⟩
          cases hb
          exact ih _ (a.put o.dst (.bool b)) w' (hr'.put (x := .v (.bool b)) hdst) (hw.trans hrest) (fun t ht => (put_frame (hput t ht)).trans (hf t ht)) ((put_defers _ _ _).trans hdf) hk
        · rintro c h ⟨b, hb, _⟩
          cases hb
      | none =>
        simp only [hy] at hc
        refine op_in (nd := false) (.inl rfl) (fun h => by cases h) (Oper.wp_mono' ?_ ?_ (stepV_sound hP hdst hr' hw hc))
        · rintro a' w' ⟨hrest, hfr, hdd, e2, hr2, hv⟩
          exact ih e2 a' w' hr2 hrest (fun t ht => (hfr t (hput t ht)).trans (hf t ht)) ((hdd (noDefO_cons hnd).1).trans hdf) hv
        · rintro ex a' w' ⟨c, rfl, rfl, hrest, hq⟩
          exact ⟨hrest, hf, fun _ => hdf, _, hr', hq⟩
    · rw [if_neg (by rw [hwant]; simp)]
      exact ⟨fun f _ => trivial, ih _ _ w (hr'.put hdst) hw (fun t ht => (put_frame (hput t ht)).trans (hf t ht)) ((put_defers _ _ _).trans hdf) hc⟩

end

/-! ## Loops over a function -/

theorem putObj_heap (w : World) (b : Nat) (o : Obj) : (w.putObj b o).heap = setO w.heap b o := rfl
theorem putObj_rest (w : World) (b : Nat) (o : Obj) : Rest w (w.putObj b o) := ⟨rfl, rfl, rfl⟩

def codeOf : Exit → Code
  | .exit i => .exit i
  | _ => .ret

def okShs : List Shape → Bool
  | [] => true
  | .one _ :: r => okShs r
  | .agg _ :: r => okShs r
  | _ => false

theorem allLeaf_all {l : Leaf} {K : SV → Prop} (h : ∀ x : Value, K (.v x)) : allLeaf l K := by cases l <;> simp only [allLeaf] <;> intros <;> exact h _
theorem allLeaves_all {l : List Leaf} : ∀ {K : List Value → Prop}, (∀ xs, K xs) → allLeaves l K := by
  induction l with
  | nil => exact fun h => h _
  | cons x r ih => exact fun h => allLeaf_all fun v => ih fun xs => h _
theorem allShapes_all : ∀ {l : List Shape} {K : List Value → Prop}, okShs l = true → (∀ xs, xs.length = l.length → K xs) → allShapes l K
  | [], _, _, h => h [] rfl
  | .one x :: r, _, ho, h => allLeaf_all fun v => allShapes_all (l := r) ho fun xs hl => h _ (by simp [hl])
  | .agg ls :: r, _, ho, h => allLeaves_all fun v => allShapes_all (l := r) ho fun xs hl => h _ (by simp [hl])
  | .arr _ _ :: _, _, ho, _ => by cases ho
  | .arrB _ :: _, _, ho, _ => by cases ho
  | .bad :: _, _, ho, _ => by cases ho

theorem zip_set : ∀ {ps : List Nat} {xs : List Value} {t0 : Array Value}, ps.Nodup → (∀ p ∈ ps, p < t0.size) → ps.length = xs.length →
    ((ps.zip xs).foldl (fun t (p : Nat × Value) => t.setIfInBounds p.1 p.2) t0).size = t0.size ∧
    (∀ t x, look (zipS ps xs) t = some x → ((ps.zip xs).foldl (fun t (p : Nat × Value) => t.setIfInBounds p.1 p.2) t0)[t]? = some x.val) ∧
    (∀ t, look (zipS ps xs) t = none → ((ps.zip xs).foldl (fun t (p : Nat × Value) => t.setIfInBounds p.1 p.2) t0)[t]? = t0[t]?) ∧ (∀ t, t ∉ ps → ((ps.zip xs).foldl (fun t (p : Nat × Value) => t.setIfInBounds p.1 p.2) t0)[t]? = t0[t]?)
  | [], xs, t0, _, _, hl => by
    cases xs with
    | nil => exact ⟨rfl, fun t x h => (by cases h), fun _ _ => rfl, fun _ _ => rfl⟩
    | cons _ _ => cases hl
  | p :: ps, xs, t0, hn, hlt, hl => by
    cases xs with
    | nil => cases hl
    | cons v vs =>
      obtain ⟨hp, hn⟩ := List.nodup_cons.1 hn
      have hl : ps.length = vs.length := by simpa using hl
      obtain ⟨h1, h2, h3, h4⟩ := zip_set (ps := ps) (xs := vs) (t0 := t0.setIfInBounds p v) hn (fun q hq => by simpa using hlt q (by simp [hq])) hl
      rw [List.zip_cons_cons, List.foldl_cons]
      refine ⟨by rw [h1]; simp, fun t x h => ?_, fun t h => ?_, fun t h => ?_⟩
      · simp only [zipS, look] at h
        cases hb : Nat.beq p t with
        | true =>
          rw [hb] at h; cases h
          obtain rfl := Nat.eq_of_beq_eq_true hb
          rw [h4 p hp]
          simp [hlt p (by simp)]
        | false => rw [hb] at h; exact h2 t x h
      · simp only [zipS, look] at h
        cases hb : Nat.beq p t with
        | true => rw [hb] at h; cases h
        | false =>
          rw [hb] at h
          rw [h3 t h, Array.getElem?_setIfInBounds_ne (fun e => by subst e; simp at hb)]
      · rw [h4 t (fun hm => h (by simp [hm])), Array.getElem?_setIfInBounds_ne (fun e => h (by simp [e]))]

theorem look_app_none {s r : Slots} {t : Nat} {x : SV} (h : look (s ++ r) t = some x) : look s t = some x ∨ (look s t = none ∧ look r t = some x) := by
  induction s with
  | nil => exact .inr ⟨rfl, h⟩
  | cons p s ih =>
    obtain ⟨k, y⟩ := p
    simp only [List.cons_append, look] at h ⊢
    cases hb : Nat.beq k t with
    | true => rw [hb] at h; exact .inl h
    | false => rw [hb] at h; exact ih h

section
variable {P : Program} {mp : Bool} {n : Nat} {w0 : World} {okD : Bool → List Oper → Option (List Nat) → Option (Nat × List (List Nat)) → Bool}

def okI (P : Program) (mp : Bool) (okD : Bool → List Oper → Option (List Nat) → Option (Nat × List (List Nat)) → Bool) (n : Nat) : Code → Ann → Bool
  | .region _ ops false, .yld => okOps n ops.toList && noDefO ops.toList
  | .rangeFunc _ ps x y, .range shs a b => okShs shs && Nat.beq ps.size shs.length && (ps.toList.all fun p => Nat.blt p n) && decide (ps.toList.Nodup) && noDef x && noDef y && okC P mp okD n x a && okC P mp okD n y b
  | _, _ => false

theorem round_sound (hP : Fine P) (hD : ∀ l m, DrawOk P true (fun c => c.wpIn (rnd l) 0 P) m (okD m)) {ps : Array Tmp} {x y : Code} {a b : Ann} {e : Env} {act : Act} (hr : Rep n e act) (hnx : noDef x = true) (hny : noDef y = true) (hox : okC P mp okD n x a = true) (hoy : okC P mp okD n y b = true)
    (hps : ∀ p ∈ ps.toList, p < n) (hnd : ps.toList.Nodup) {fn : FuncId} {L D : Nat} (rec : LoopState → Option Code → Loop) (hrec : rec = fun st pe => { state := st, pending := pe, fn, tmps := act.tmps, params := ps, assign := x, body := y, defers := D })
    {xs : List Value} (hxs : xs.length = ps.size) {hk : Hp} {R : Ending → Hp → Prop} (hl : hk[L]? = some (.loop (rec .ready none)))
    (hv : vc P mp x a (fun ex e1 h2 => match ex with
          | .normal => h2[L]? = some (.loop (rec .ready none)) ∧ ∀ hb, hb = setO h2 L (.loop (rec .busy none)) → vc P mp y b (fun ex _ h3 => h3[L]? = some (.loop (rec .busy none)) ∧ match ex with
              | .normal => R (.returned (.bool true)) (setO h3 L (.loop (rec .ready none)))
              | .ret => R (.returned (.bool false)) (setO h3 L (.loop (rec .done (some (codeOf .ret)))))
              | .exit i => R (.returned (.bool false)) (setO h3 L (.loop (rec .done (some (codeOf (.exit i))))))
              | _ => False) e1 hb
          | _ => False) ⟨zipS ps.toList xs ++ e.s, []⟩ hk) : YieldH P L xs hk R := by
  intro wk hwk
  subst hwk
  have hy := run_yield (P := P) (args := xs.toArray) hl (by rw [hrec]; simpa using hxs)
  rw [hrec] at hy
  refine ⟨fn, _, x, y, hy, roundIn_of_wpIn trivial ?_⟩
  have hfold : (ps.zip xs.toArray).foldl (fun t (p : Nat × Value) => t.setIfInBounds p.1 p.2) act.tmps = (ps.toList.zip xs).foldl (fun t (p : Nat × Value) => t.setIfInBounds p.1 p.2) act.tmps := by
    rw [← Array.foldl_toList]; simp
  obtain ⟨z1, z2, z3, z4⟩ := zip_set (ps := ps.toList) (xs := xs) (t0 := act.tmps) hnd (fun p hp => by rw [hr.size]; exact hps p hp) (by simpa using hxs.symm)
  rw [← hfold] at z1 z2 z3
  have hr1 : Rep n ⟨zipS ps.toList xs ++ e.s, []⟩ { tmps := (ps.zip xs.toArray).foldl (fun t (p : Nat × Value) => t.setIfInBounds p.1 p.2) act.tmps, defers := [] } := by
    refine ⟨by rw [z1]; exact hr.size, rfl, fun t v ht => ?_⟩
    rcases look_app_none ht with h | ⟨h1, h2⟩
    · exact z2 t v h
    · rw [z3 t h1]; exact hr.slots t v h2
  refine Code.wpIn_mono ?_ (vc_soundW (w0 := wk) (reads_in P L) hP (hD L) (fun _ _ _ _ _ _ _ h => by cases h) x a _ _ _ wk hox (fun _ => ⟨hnx, fun _ _ h => h⟩) hr1 (Rest.refl wk) hv)
  intro ex a1 w1 hu
  obtain ⟨hrest, _, hdf, e1, hr2, hp⟩ := hu
  cases ex with
  | normal =>
    obtain ⟨hl1, hp⟩ := hp
    refine ⟨_, run_beginRound hl1 (by rw [hrec]), ?_⟩
    have hl2 : (Obj.loop { rec .ready none with state := .busy }) = .loop (rec .busy none) := by rw [hrec]
    rw [hl2]
    refine Code.wpIn_mono ?_ (vc_soundW (w0 := wk) (reads_in P L) hP (hD L) (fun _ _ _ _ _ _ _ h => by cases h) y b _ _ _ _ hoy (fun _ => ⟨hny, fun _ _ h => h.2⟩) hr2 (hrest.trans (putObj_rest _ _ _)) (hp _ (putObj_heap _ _ _)))
    intro ex2 a2 w2 hu2
    obtain ⟨hrest2, _, _, e2, _, hl3, hp2⟩ := hu2
    have fin : ∀ jump : Option Code, (Instr.endRound L jump).run P w2 = .ok (.bool jump.isNone) (w2.putObj L (.loop (rec (if jump.isNone then .ready else .done) jump))) := fun jump => by
      have := run_endRound (P := P) jump hl3
      rw [this, hrec]
    cases ex2 with
    | normal => exact ⟨_, _, fin none, by simp, hrest2.trans (putObj_rest _ _ _), hp2⟩
    | ret => exact ⟨_, _, fin (some .ret), by simp, hrest2.trans (putObj_rest _ _ _), hp2⟩
    | exit i => exact ⟨_, _, fin (some (.exit i)), by simp, hrest2.trans (putObj_rest _ _ _), hp2⟩
    | goto i => exact hp2.elim
    | panic c => exact hp2.elim
    | outgrown => exact hp2.elim
  | _ => exact hp.elim

theorem special_sound (hP : Fine P) (hD : ∀ l m, DrawOk P true (fun c => c.wpIn (rnd l) 0 P) m (okD m)) (c : Code) (ann : Ann) (w0 : World) (Q : Post) (e : Env) (a : Act) (w : World) (hok : okI P mp okD n c ann = true) (hr : Rep n e a) (hw : Rest w0 w)
    (h : vc P mp c ann Q e w.heap) : c.wp P (Up n w0 (dsts c) (noDef c) a Q) a w := by
  unfold okI at hok
  split at hok
  · rename_i id ops
    simp only [Bool.and_eq_true] at hok
    have hn : noDef (.region id ops false) = true := hok.2
    rw [hn]
    exact (wpIn_wide (n := 0)).1 (wpIn_region_list (rvY_sound hP ops.toList e a w hok.1 (fun _ ho _ hd => mem_dstsO ho hd) hok.2 hr hw (fun _ _ => rfl) rfl h))
  · rename_i g ps x y shs b1 b2
    simp only [Bool.and_eq_true] at hok
    obtain ⟨⟨⟨⟨⟨⟨⟨hs, hsz⟩, hlt⟩, hnd⟩, hnx⟩, hny⟩, hox⟩, hoy⟩ := hok
    have hsz := Nat.eq_of_beq_eq_true hsz
    have hlt' : ∀ p ∈ ps.toList, p < n := fun p hp => by have := List.all_eq_true.1 hlt p hp; simpa using this
    have hnd := of_decide_eq_true hnd
    obtain ⟨v, hv, h⟩ := ev_sound hr h
    obtain ⟨gf, lb, hval, hbod, h⟩ := h
    refine (wpIn_wide (n := 0)).1 (wpIn_rangeFunc ?_)
    intro fn _
    obtain ⟨rec, hrec⟩ : ∃ rec : LoopState → Option Code → Loop, rec = fun st pe => { state := st, pending := pe, fn, tmps := a.tmps, params := ps, assign := x, body := y, defers := w.heap.size } := ⟨_, rfl⟩
    have hc := h w.heap.size (w.heap.size + 1) ((w.heap.push (.deferred (some []))).push (.loop (rec .ready none))) (.loop (rec .ready none)) (.loop (rec .busy none)) (.loop (rec .exhausted none)) (fun ex => .loop (rec .done (some (codeOf ex)))) (fun ex => .loop (rec .exhausted (some (codeOf ex)))) rfl rfl rfl
      (allShapes_all hs fun xs hxs hk R hl hv => round_sound hP hD hr hnx hny hox hoy hlt' hnd rec hrec (by rw [hsz]; exact hxs) hl hv)
    have hw1 : Rest w0 ((w.alloc (.deferred (some []))).alloc (.loop (rec .ready none))) := hw.trans ⟨rfl, rfl, rfl⟩
    have hr2 : Rep n ⟨e.s, { target := .collected w.heap.size, args := #[] } :: e.d⟩ { a with defers := [{ target := .collected w.heap.size, args := #[] }] ++ a.defers } := hr.defer _
    have heg : ∀ (args : Array Value) (w : World), (callFunc gf args).run P w = .ok (.enter gf args) w := fun args w => by
      unfold bodied at hbod
      split at hbod
      · rename_i fn' hf
        obtain ⟨c, hb⟩ := Option.isSome_iff_exists.1 hbod
        exact callFunc_run hP hf hb args
      · cases hbod
    refine ⟨w.heap.size + 1, [{ target := .collected w.heap.size, args := #[] }], (w.alloc (.deferred (some []))).alloc (.loop (rec .ready none)), { target := .fn (.func gf) lb, args := #[.func (.yield (w.heap.size + 1)) #[] #[]] }, (w.alloc (.deferred (some []))).alloc (.loop (rec .ready none)), gf,
      (.func (.yield (w.heap.size + 1)) #[] #[] :: lb.toList).toArray, (w.alloc (.deferred (some []))).alloc (.loop (rec .ready none)), ?_, ?_, fun _ _ => trivial, ?_, fun hd => (by cases hd), (callsIn_wide (n := 0 - 1)).2 ((hc ((w.alloc (.deferred (some []))).alloc (.loop (rec .ready none))) rfl).mono ?_)⟩
    · rw [hrec]; exact run_enterLoop_outer _ _ _ _ _
    · simp only [resolve, hv, hval]
      simp [go_sem]
    · have : (.func (.yield (w.heap.size + 1)) #[] #[] :: lb.toList).toArray = #[Value.func (.yield (w.heap.size + 1)) #[] #[]] ++ lb := by apply Array.toList_inj.1; simp
      rw [this]
      simp [invoke, heg]
    · rintro en w2 ⟨hne, hrest, ⟨v, rfl⟩, hcase⟩
      have hrest2 := hw1.trans hrest
      have fin : ∀ (st : LoopState) (pe : Option Code), st ≠ .busy → w2.heap[w.heap.size + 1]? = some (.loop (rec st pe)) → (Instr.endLoop (w.heap.size + 1)).run P w2 = .ok pe (w2.putObj (w.heap.size + 1) (.loop (rec .exhausted pe))) := fun st pe hb hl => by
        have hpe : (rec st pe).pending = pe := by rw [hrec]
        have hst : (rec st pe).state = st := by rw [hrec]
        have := run_endLoop (P := P) hl (by rw [hst]; exact hb)
        rw [this, hpe, hrec]
      have up : ∀ {ex : Exit} {pe : Option Code}, Q ex ⟨e.s, { target := .collected w.heap.size, args := #[] } :: e.d⟩ (setO w2.heap (w.heap.size + 1) (.loop (rec .exhausted pe))) →
          Up n w0 (dsts (.rangeFunc g ps x y)) (noDef (.rangeFunc g ps x y)) a Q ex { a with defers := [{ target := .collected w.heap.size, args := #[] }] ++ a.defers } (w2.putObj (w.heap.size + 1) (.loop (rec .exhausted pe))) := fun hq =>
        ⟨hrest2.trans (putObj_rest _ _ _), fun _ _ => rfl, fun h => (by cases h), _, hr2, hq⟩
      rcases hcase with ⟨hl, hq⟩ | ⟨hl, hq⟩ | ⟨i, hl, hq⟩
      · exact ⟨none, _, fin .ready none (by simp) hl, up (hq _ rfl)⟩
      · exact ⟨some .ret, _, fin .done (some .ret) (by simp) hl, wpIn_ret (up (hq _ rfl))⟩
      · exact ⟨some (.exit i), _, fin .done (some (.exit i)) (by simp) hl, wpIn_exit (up (hq _ rfl))⟩
  · cases hok

end

def marksV : List Deferred → Hp → (Hp → Prop) → Prop
  | [], h, K => K h
  | d :: r, h, K => match d.target with
    | .collected D => h[D]? = some (.deferred (some [])) ∧ ∀ h', h' = setO h D (.deferred none) → marksV r h' K
    | _ => False

def fnVI (P : Program) (mp : Bool) (fn : Func) (ann : Ann) (args : List Value) (h : Hp) (R : Ending → Hp → Prop) : Prop :=
  match fn.body with
  | none => False
  | some c => vc P mp c ann (fun ex e h' => match ex with
      | .normal => marksV e.d h' fun h2 => backV P fn.results.toList e h2 fun v => R (.returned v) h2
      | .ret => marksV e.d h' fun h2 => backV P fn.results.toList e h2 fun v => R (.returned v) h2
      | .panic ch => marksV e.d h' fun h2 => R (.panicked ch) h2
      | _ => False) ⟨startS 0 args, []⟩ h

def okFI (P : Program) (mp : Bool) (okD : Bool → List Oper → Option (List Nat) → Option (Nat × List (List Nat)) → Bool) (fn : Func) (ann : Ann) (k : Nat) : Bool :=
  match fn.body with
  | none => false
  | some c => Nat.ble k fn.ntmps && okCX P mp okD (okI P mp okD fn.ntmps) fn.ntmps c ann

theorem marks_sound {P : Program} {fn : Func} {tmps : Array Value} {R : Ending → World → Prop} {u : FrameMode} (hu : u ≠ .run) : ∀ (ds : List Deferred) (w w0 : World) (K : Hp → Prop), Rest w0 w → marksV ds w.heap K →
    (∀ w', Rest w0 w' → K w'.heap → LeavesIn Fence.wide 0 P fn tmps R [] u w') → LeavesInM Fence.wide 0 P fn tmps R ds u w
  | [], w, w0, K, hw, h, hK => hK w hw h
  | d :: ds, w, w0, K, hw, h, hK => by
    unfold marksV at h
    split at h
    · rename_i D ht
      obtain ⟨hd, h⟩ := h
      exact ⟨hu, .inl ⟨D, _, ht, run_takeDeferred hd, marks_sound hu ds _ w0 K (hw.trans (putObj_rest _ _ _)) (h _ (putObj_heap _ _ _)) hK⟩⟩
    · exact h.elim

theorem fnI_sound {P : Program} {mp : Bool} {okD : Bool → List Oper → Option (List Nat) → Option (Nat × List (List Nat)) → Bool} (hP : Fine P) (hD : ∀ m, DrawOk P false (fun c => c.wp P) m (okD m)) (hDI : ∀ l m, DrawOk P true (fun c => c.wpIn (rnd l) 0 P) m (okD m)) {f : FuncId} {fn : Func} (hf : P.funcs[f]? = some fn) {ann : Ann} {args : List Value} {h : Hp}
    {R : Ending → Hp → Prop} (hok : okFI P mp okD fn ann args.length = true) (hv : fnVI P mp fn ann args h R) : CallsH P f args.toArray h R := by
  intro w hw
  subst hw
  unfold okFI at hok
  unfold fnVI at hv
  cases hb : fn.body with
  | none => rw [hb] at hok; cases hok
  | some c =>
    simp only [hb, Bool.and_eq_true] at hok hv
    obtain ⟨hle, hok⟩ := hok
    have hle' : args.length ≤ fn.ntmps := Nat.le_of_ble_eq_true hle
    refine (callsIn_wide (n := 0)).1 (callsIn_of_wp_marks hf hb trivial ((wpIn_wide (n := 0)).2 (Code.wp_mono ?_ (vc_soundW (w0 := w) (reads P) hP hD (fun c ann w0 Q e a w h _ hr hw hv => special_sound hP hDI c ann w0 Q e a w h hr hw hv) c ann _ ⟨startS 0 args, []⟩ _ w hok (fun h => by cases h) ⟨?_, rfl, ?_⟩ (Rest.refl w) hv))))
    · intro ex a' w' hu
      obtain ⟨hrest, _, _, e, hr, hp⟩ := hu
      have ret : (marksV e.d w'.heap fun h2 => backV P fn.results.toList e h2 fun v => R (.returned v) h2) → LeavesInM Fence.wide 0 P fn a'.tmps (fun e w' => e ≠ .outgrown ∧ Rest w w' ∧ R e w'.heap) a'.defers .returning w' := fun hp => by
        rw [← hr.defers] at hp
        refine marks_sound (by simp) a'.defers w' w _ hrest hp fun w2 hr2 hb2 => ?_
        have hre : Rep fn.ntmps e { a' with defers := e.d } := ⟨hr.size, rfl, hr.slots⟩
        obtain ⟨v, hrun, hR⟩ := back_sound hre hb2
        exact ⟨v, hrun, by simp, hr2, hR⟩
      cases ex with
      | normal => exact ret hp
      | ret => exact ret hp
      | panic ch =>
        have hp : marksV e.d w'.heap fun h2 => R (.panicked ch) h2 := hp
        rw [← hr.defers] at hp
        exact marks_sound (by simp) a'.defers w' w _ hrest hp fun w2 hr2 hb2 => ⟨by simp, hr2, hb2⟩
      | exit i => exact hp.elim
      | goto i => exact hp.elim
      | outgrown => exact hp.elim
    · simp; omega
    · intro t x hx
      obtain ⟨_, h2⟩ := look_start args 0 t x hx
      have hlt : t < args.length := (List.getElem?_eq_some_iff.1 h2).1
      simp only [Nat.sub_zero] at h2
      rw [Array.getElem?_append_left (by simpa using hlt)]
      simpa using h2

theorem calls_vcI {P : Program} (hP : Fine P) (mp : Bool) {f : FuncId} {fn : Func} (hf : P.funcs[f]? = some fn) {ann : Ann} {args : List Value} {h : Hp} {R : Ending → Hp → Prop}
    (hok : okFI P mp (okDraw P) fn ann args.length = true) (hv : fnVI P mp fn ann args h R) : CallsH P f args.toArray h R :=
  fnI_sound hP (fun m => drawOk (reads P) hP m) (fun l m => drawOk (reads_in P l) hP m) hf hok hv

end Go.Vc
