/- The fourth part: functions. -/
import Derived.Test.YthkbecpgbjejkaaDoorVcC
set_option maxRecDepth 10000
namespace Go.Vc
open Go

theorem loadV_back {P : Program} {w : World} {t : TypeId} {b o : Nat} {K : SV → Prop} (h : loadV P t (cellsAt w.heap) b o K) :
    ∃ x : SV, (loadVar t ⟨b, o, none⟩).run P w = .ok x.val w ∧ K x := by
  obtain ⟨vs, x, hrd, hK, hrun⟩ := loadV_sound h
  exact ⟨x, by simpa [Instr.loadAt, Instr.sureAddr] using hrun w hrd, hK⟩

/-- How one result is read. -/
def readR (tmps : Array Value) : ResultVar → Sem Value
  | .tmp t => pure (tmps.getD t undef)
  | .cell a t => do loadVar t (← asAddr (tmps.getD a undef))

theorem one_sound {P : Program} {n : Nat} {e : Env} {a : Act} {w : World} (hr : Rep n e a) {r : ResultVar} {K : Value → Prop} (h : backV.one P e w.heap r K) :
    ∃ v, (readR a.tmps r).run P w = .ok v w ∧ K v := by
  unfold backV.one at h
  split at h
  · split at h
    · rename_i x hx
      exact ⟨_, by simp [readR, hr.slots _ x hx], h⟩
    · exact h.elim
  · split at h
    · rename_i x hx
      obtain ⟨b, o, hv, h⟩ := asPtr_sound h
      obtain ⟨y, hrun, hK⟩ := loadV_back h
      exact ⟨_, by simp [readR, hr.slots _ x hx, hv, asAddr, hrun], hK⟩
    · exact h.elim

theorem all_sound {P : Program} {n : Nat} {e : Env} {a : Act} {w : World} (hr : Rep n e a) : ∀ {rs : List ResultVar} {K : List Value → Prop}, backV.all P e w.heap rs K →
    ∃ vs, (rs.mapM (readR a.tmps)).run P w = .ok vs w ∧ vs.length = rs.length ∧ K vs
  | [], _, h => ⟨[], by simp, rfl, h⟩
  | r :: rs, _, h => by
    obtain ⟨v, hv, h⟩ := one_sound hr h
    obtain ⟨vs, hvs, hl, h⟩ := all_sound hr h
    exact ⟨v :: vs, by simp [hv, hvs], by simp [hl], h⟩

theorem back_sound {P : Program} {n : Nat} {e : Env} {a : Act} {w : World} (hr : Rep n e a) {fn : Func} {K : Value → Prop} (h : backV P fn.results.toList e w.heap K) :
    ∃ v, (results fn a.tmps).run P w = .ok v w ∧ K v := by
  have hres : results fn a.tmps = (do
      let vs ← fn.results.mapM (readR a.tmps)
      pure (if h : vs.size = 1 then vs[0] else .tuple vs)) := rfl
  have key : ∀ vs, (fn.results.toList.mapM (readR a.tmps)).run P w = .ok vs w → (results fn a.tmps).run P w = .ok (if h : vs.length = 1 then vs[0] else .tuple vs.toArray) w := by
    intro vs hvs
    rw [hres, ← Array.toArray_toList (xs := fn.results)]
    simp only [List.mapM_toArray, Sem.run_bind, Sem.run_map, hvs, Result.andThen_ok, Sem.run_pure]
    simp
  unfold backV at h
  split at h
  · rename_i r hl
    obtain ⟨v, hv, hK⟩ := one_sound hr h
    refine ⟨v, ?_, hK⟩
    have := key [v] (by rw [hl]; simp [hv])
    simpa using this
  · rename_i hne
    obtain ⟨vs, hvs, hlen, hK⟩ := all_sound hr h
    refine ⟨_, ?_, hK⟩
    have := key vs hvs
    rw [this]
    have h1 : vs.length ≠ 1 := by
      intro e1
      rw [e1] at hlen
      match hrs : fn.results.toList, hlen with
      | [r], _ => exact hne r hrs
    rw [dif_neg h1]

theorem look_start (vs : List Value) (i t : Nat) (x : SV) (h : look (startS i vs) t = some x) : i ≤ t ∧ vs[t - i]? = some x.val := by
  induction vs generalizing i with
  | nil => cases h
  | cons v r ih =>
    simp only [startS, look] at h
    cases hb : Nat.beq i t with
    | true =>
      rw [hb] at h
      cases h
      obtain rfl := Nat.eq_of_beq_eq_true hb
      simp
    | false =>
      rw [hb] at h
      obtain ⟨h1, h2⟩ := ih (i + 1) h
      refine ⟨by omega, ?_⟩
      rw [show t - i = (t - (i + 1)) + 1 from by omega]
      simpa using h2

/-- What is asked of a function's text. -/
def okF (P : Program) (mp : Bool) (okD : Bool → List Oper → Option (List Nat) → Option (Nat × List (List Nat)) → Bool) (fn : Func) (ann : Ann) (k : Nat) : Bool :=
  match fn.body with
  | none => false
  | some c => Nat.ble k fn.ntmps && noDef c && okC P mp okD fn.ntmps c ann

theorem fn_sound {P : Program} {mp : Bool} {okD : Bool → List Oper → Option (List Nat) → Option (Nat × List (List Nat)) → Bool} (hP : Fine P) (hD : ∀ m, DrawOk P false (fun c => c.wp P) m (okD m)) {f : FuncId} {fn : Func} (hf : P.funcs[f]? = some fn) {ann : Ann} {args : List Value} {h : Hp}
    {R : Ending → Hp → Prop} (hok : okF P mp okD fn ann args.length = true) (hv : fnV P mp fn ann args h R) : CallsH P f args.toArray h R := by
  intro w hw
  subst hw
  unfold okF at hok
  unfold fnV at hv
  cases hb : fn.body with
  | none => rw [hb] at hok; cases hok
  | some c =>
    simp only [hb, Bool.and_eq_true] at hok hv
    obtain ⟨⟨hle, hnd⟩, hok⟩ := hok
    have hle' : args.length ≤ fn.ntmps := Nat.le_of_ble_eq_true hle
    refine calls_of_wp hf hb (Code.wp_mono ?_ (vc_sound (w0 := w) hP hD c ann _ ⟨startS 0 args, []⟩ _ w hok ⟨?_, rfl, ?_⟩ (Rest.refl w) hv))
    · intro ex a' w' hu
      obtain ⟨hrest, _, hd, e, hr, hp⟩ := hu
      have hd' : a'.defers = [] := hd hnd
      cases ex with
      | normal =>
        obtain ⟨v, hrun, hR⟩ := back_sound hr hp
        exact ⟨hd', v, hrun, by simp, hrest, hR⟩
      | ret =>
        obtain ⟨v, hrun, hR⟩ := back_sound hr hp
        exact ⟨hd', v, hrun, by simp, hrest, hR⟩
      | panic ch => exact ⟨hd', by simp, hrest, hp⟩
      | exit i => exact hp.elim
      | goto i => exact hp.elim
      | outgrown => exact hp.elim
    · simp; omega
    · intro t x hx
      obtain ⟨_, h2⟩ := look_start args 0 t x hx
      have hlt : t < args.length := by
        have := (List.getElem?_eq_some_iff.1 h2).1
        omega
      simp only [Nat.sub_zero] at h2
      rw [Array.getElem?_append_left (by simpa using hlt)]
      simpa using h2

end Go.Vc
