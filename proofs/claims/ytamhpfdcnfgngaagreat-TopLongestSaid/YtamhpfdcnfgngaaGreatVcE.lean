/- The fifth part: regions that draw their order: the order of the text serves for all. -/
import Derived.Test.YtamhpfdcnfgngaaGreatVcD
set_option maxRecDepth 10000
namespace Go.Vc
open Go

theorem ov_pure {P : Program} {mp : Bool} {o : Oper} {e : Env} {h : Hp} {rd : Nat → Nat → List Value → Prop} {K : SV → Hp → Prop} {Kp : List PanicEntry → Hp → Prop}
    (h1 : chainO P o = false) (h2 : isLoadO o = false) (hv : ov P mp o e h rd K Kp) : pv P o.op e fun x => K x h := by
  obtain ⟨dst, op, ty, pos, after, guard⟩ := o
  cases op with
  | convert s d x =>
    simp only [ov] at hv
    simp only [chainO] at h1
    split at hv
    · rename_i ha hb; simp [ha, hb] at h1
    · rename_i ha hb; simp [ha, hb] at h1
    · exact hv
  | call c =>
    obtain ⟨callee, args, ats⟩ := c
    cases callee with
    | value f => simp [chainO] at h1
    | invoke r m => simp [chainO] at h1
    | builtin b =>
      cases b <;> first
        | exact hv
        | (simp [chainO] at h1; done)
        | (simp only [ov] at hv
           simp only [chainO] at h1
           split at hv
           · rename_i ha; simp [ha] at h1
           · exact hv)
  | makeMap t r => simp [chainO] at h1
  | binOp op t x y z =>
    simp only [ov] at hv
    simp only [chainO] at h1
    split at hv
    · rename_i ha; rw [ha] at h1; cases h1
    · exact hv
  | slice t x lo hi mx => cases mx <;> cases lo <;> cases hi <;> first | exact hv | (simp [chainO] at h1; done)
  | _ => first | exact hv | (simp [chainO] at h1; done) | (simp [isLoadO] at h2; done)

theorem ov_calm {P : Program} {o : Oper} {e : Env} {h : Hp} {rd : Nat → Nat → List Value → Prop} {K : SV → Hp → Prop} {Kp Kp' : List PanicEntry → Hp → Prop}
    (hv : ov P false o e h rd K Kp) : ov P false o e h rd K Kp' := by
  obtain ⟨dst, op, ty, pos, after, guard⟩ := o
  cases op with
  | call c =>
    obtain ⟨callee, args, ats⟩ := c
    cases callee with
    | value f => cases f <;> exact hv
    | invoke r m => exact hv
    | builtin b => cases b <;> exact hv
  | makeMap t r => cases r <;> exact hv
  | _ => exact hv

def memO (P : Program) (o : Oper) : Bool := isLoadO o || readO P o

theorem read_chain {P : Program} {o : Oper} (h : readO P o = true) : chainO P o = true := by
  obtain ⟨dst, op, ty, pos, after, guard⟩ := o
  cases op with
  | convert s d x =>
    simp only [readO] at h
    simp only [chainO]
    split at h
    · rename_i ha hb; simp [ha, hb]
    · cases h
  | lookup t x i k => rfl
  | call c =>
    obtain ⟨callee, args, ats⟩ := c
    cases callee with
    | value f => simp [readO] at h
    | invoke r m => simp [readO] at h
    | builtin b =>
      cases b <;> first
        | (simp [readO] at h; done)
        | (simp only [readO] at h
           simp only [chainO]
           split at h
           · simp
           · cases h)
  | _ => simp [readO] at h

section
variable (P : Program) (ops : Array Oper) (C : World → Prop) (st : List Nat) (Qp : Exit → Act → World → Prop)

def yields (o : Oper) (a : Act) (w : World) (v : Value) : Prop := (execOp a.eval o).run P w = .ok (.value v) w

def knows (i : Nat) (o : Oper) (w w' : World) : Prop := if memO P o then (if i ∈ st then C w' else w' = w) else True

def qC (i : Nat) (X : Act → World → Prop) (a : Act) (w : World) : Prop :=
  match ops[i]? with
  | none => X a w
  | some o => if Region.wanted o (yielded ops a.tmps) then
      if chS P st i o then o.wp P a w (fun a' w' => C w' ∧ X a' w') Qp
      else ∃ v, (∀ w', knows P C st i o w w' → yields P o a w' v) ∧ X (a.put o.dst v) w
    else X (a.put o.dst undef) w

def wpAnyC (Q : Exit → Act → World → Prop) : Nat → Array Bool → Act → World → Prop
  | 0, listed, a, w => Region.ready .any ops listed = [] ∧ Q .normal a w
  | f + 1, listed, a, w => (Region.ready .any ops listed = [] → Q .normal a w) ∧
      ∀ i ∈ Region.ready .any ops listed, qC P ops C st Qp i (wpAnyC Q f (listed.setIfInBounds i true)) a w
end

section
variable {P : Program} {ops : Array Oper} {C : World → Prop} {st : List Nat} {Qp : Exit → Act → World → Prop}

theorem qC_mono {i : Nat} {X X' : Act → World → Prop} {a : Act} {w : World} (hC : C w) (hx : ∀ a' w', C w' → X a' w' → X' a' w') (h : qC P ops C st Qp i X a w) : qC P ops C st Qp i X' a w := by
  unfold qC at *
  split
  · exact hx _ _ hC (by simpa [*] using h)
  · rename_i o ho
    simp only [ho] at h
    split
    · rename_i hw
      rw [if_pos hw] at h
      split
      · rename_i hc
        rw [if_pos hc] at h
        exact Oper.wp_mono' (fun a' w' ⟨h1, h2⟩ => ⟨h1, hx _ _ h1 h2⟩) (fun _ _ _ h => h) h
      · rename_i hc
        rw [if_neg hc] at h
        obtain ⟨v, h1, h2⟩ := h
        exact ⟨v, h1, hx _ _ hC h2⟩
    · rename_i hw
      rw [if_neg hw] at h
      exact hx _ _ hC h

theorem knows_self {i : Nat} {o : Oper} {w : World} (hC : C w) : knows P C st i o w w := by
  unfold knows
  split
  · split
    · exact hC
    · rfl
  · trivial

def Like (a : Act) (d : Option Tmp) (b : Act) : Prop := ∃ ds u, b = ({ a with defers := ds } : Act).put d u

theorem eval_defers (a : Act) (ds : List Deferred) : ({ a with defers := ds } : Act).eval = a.eval := by funext x; cases x <;> rfl

theorem like_exec {o : Oper} (hs : ∀ cs b, o.op ≠ .select cs b) {a b : Act} {d : Option Tmp} (hl : Like a d b) (h : ∀ t, d = some t → t ∉ o.looksAt ops) : execOp b.eval o = execOp a.eval o := by
  obtain ⟨ds, u, rfl⟩ := hl
  rw [execOp_put (ops := ops) o hs _ d u h, eval_defers]

theorem like_wanted {o : Oper} {a b : Act} {d : Option Tmp} (hl : Like a d b) (h : ∀ t, d = some t → t ∉ o.looksAt ops) :
    Region.wanted o (yielded ops b.tmps) = Region.wanted o (yielded ops a.tmps) := by
  obtain ⟨ds, u, rfl⟩ := hl
  rw [wanted_put o _ d u h]

theorem like_put (a : Act) (d : Option Tmp) (u : Value) : Like a d (a.put d u) := ⟨a.defers, u, rfl⟩

theorem wp_ahead {o : Oper} (hs : ∀ cs b, o.op ≠ .select cs b) {a : Act} {w : World} {d : Option Tmp} {v : Value} {N N' : Act → World → Prop} (h1 : ∀ t, d = some t → t ∉ o.looksAt ops)
    (h2 : ∀ t, d = some t → o.dst ≠ some t) (hins : ∀ ex a w, Qp ex (a.put d v) w → Qp ex a w) (hk : ∀ b w', Like a o.dst b → N (b.put d v) w' → N' b w') (h : o.wp P (a.put d v) w N Qp) : o.wp P a w N' Qp := by
  unfold Oper.wp at *
  rw [execOp_put (ops := ops) o hs a d v h1] at h
  generalize (execOp a.eval o).run P w = r at *
  have comm : ∀ (ds : List Deferred) (u : Value), (({ a.put d v with defers := ds } : Act).put o.dst u) = ((({ a with defers := ds } : Act).put o.dst u).put d v) := fun ds u => by
    rw [← Act.put_comm _ v u h2]
    congr 1
    cases d <;> rfl
  have comm' : ∀ (u : Value), ((a.put d v).put o.dst u) = (a.put o.dst u).put d v := fun u => Act.put_comm a v u h2
  cases r with
  | ok n w' =>
    cases n <;> simp only [Oper.upon] at h ⊢
    case value u => exact hk _ _ (like_put a _ u) (by rw [← comm']; exact h)
    case skip => exact hk _ _ (like_put a _ undef) (by rw [← comm']; exact h)
    case defer dd => exact hk _ _ ⟨_, undef, rfl⟩ (by rw [← comm, put_defers] at *; exact h)
    case enter f args =>
      refine h.mono fun e w'' he => ?_
      cases e with
      | returned u => exact hk _ _ (like_put a _ u) (by rw [← comm']; exact he)
      | panicked c => exact hins _ _ _ he
      | outgrown => exact he
    case row row args => exact h.mono fun u w'' he => hk _ _ (like_put a _ u) (by rw [← comm']; exact he)
  | halt x w' => cases x <;> simp only [Oper.upon] at h ⊢ <;> exact hins _ _ _ h

theorem wp_behind {o : Oper} (hs : ∀ cs b, o.op ≠ .select cs b) {a : Act} {w : World} {d : Option Tmp} {v : Value} {N N' : Act → World → Prop} (h1 : ∀ t, d = some t → t ∉ o.looksAt ops)
    (h2 : ∀ t, d = some t → o.dst ≠ some t) (hnp : ∀ ex a w, ¬ Qp ex a w) (hk : ∀ b w', Like a o.dst b → N b w' → N' (b.put d v) w') (h : o.wp P a w N Qp) : o.wp P (a.put d v) w N' Qp := by
  unfold Oper.wp at *
  rw [execOp_put (ops := ops) o hs a d v h1]
  generalize (execOp a.eval o).run P w = r at *
  have comm : ∀ (ds : List Deferred) (u : Value), (({ a.put d v with defers := ds } : Act).put o.dst u) = ((({ a with defers := ds } : Act).put o.dst u).put d v) := fun ds u => by
    rw [← Act.put_comm _ v u h2]
    congr 1
    cases d <;> rfl
  have comm' : ∀ (u : Value), ((a.put d v).put o.dst u) = (a.put o.dst u).put d v := fun u => Act.put_comm a v u h2
  cases r with
  | ok n w' =>
    cases n <;> simp only [Oper.upon] at h ⊢
    case value u => rw [comm']; exact hk _ _ (like_put a _ u) h
    case skip => rw [comm']; exact hk _ _ (like_put a _ undef) h
    case defer dd => rw [comm, put_defers]; exact hk _ _ ⟨_, undef, rfl⟩ h
    case enter f args =>
      refine h.mono fun e w'' he => ?_
      cases e with
      | returned u => show N' _ _; rw [comm']; exact hk _ _ (like_put a _ u) he
      | panicked c => exact (hnp _ _ _ he).elim
      | outgrown => obtain ⟨_, _, he⟩ := he; exact (hnp _ _ _ he).elim
    case row row args => exact h.mono fun u w'' he => by rw [comm']; exact hk _ _ (like_put a _ u) he
  | halt x w' => cases x <;> simp only [Oper.upon] at h ⊢ <;> exact (hnp _ _ _ h).elim

theorem wp_some {o : Oper} {a : Act} {w : World} {N : Act → World → Prop} (hnp : ∀ ex a w, ¬ Qp ex a w) (h : o.wp P a w N Qp) : ∃ b w', Like a o.dst b ∧ N b w' := by
  unfold Oper.wp at *
  generalize (execOp a.eval o).run P w = r at *
  cases r with
  | ok n w' =>
    cases n <;> simp only [Oper.upon] at h
    case value u => exact ⟨_, _, like_put a _ u, h⟩
    case skip => exact ⟨_, _, like_put a _ undef, h⟩
    case defer dd => exact ⟨_, _, ⟨_, undef, rfl⟩, h⟩
    case enter f args =>
      obtain ⟨e, w'', fr, he, _⟩ := h []
      cases e with
      | returned u => exact ⟨_, _, like_put a _ u, he⟩
      | panicked c => exact (hnp _ _ _ he).elim
      | outgrown => obtain ⟨_, _, he⟩ := he; exact (hnp _ _ _ he).elim
    case row row args =>
      obtain ⟨u, w'', he, _⟩ := h default []
      exact ⟨_, _, like_put a _ u, he⟩
  | halt x w' => cases x <;> simp only [Oper.upon] at h <;> exact (hnp _ _ _ h).elim

structure Ind (P : Program) (ops : Array Oper) (st : List Nat) (Qp : Exit → Act → World → Prop) (i j : Nat) (oi oj : Oper) : Prop where
  ap : oi.apart ops oj = true
  cc : ¬ (chS P st i oi = true ∧ chS P st j oj = true)
  cl : chS P st i oi = true → memO P oj = true → j ∈ st
  lc : chS P st j oj = true → memO P oi = true → i ∈ st
  np : chS P st i oi = true → ∀ ex a w, ¬ Qp ex a w
  ins : chS P st j oj = true → ∀ ex a w v, Qp ex (a.put oi.dst v) w → Qp ex a w

theorem qC_swap {i j : Nat} {oi oj : Oper} (hi : ops[i]? = some oi) (hj : ops[j]? = some oj) (hsi : ∀ cs b, oi.op ≠ .select cs b) (hsj : ∀ cs b, oj.op ≠ .select cs b)
    (hind : Ind P ops st Qp i j oi oj) {X : Act → World → Prop} {a : Act} {w : World} (hC : C w)
    (h : qC P ops C st Qp i (fun a w => qC P ops C st Qp j X a w) a w) : qC P ops C st Qp j (fun a w => qC P ops C st Qp i X a w) a w := by
  obtain ⟨h1, h2, h3⟩ := Oper.apart_spec hind.ap
  have h2' : ∀ t, oj.dst = some t → oi.dst ≠ some t := fun t ht e => h2 t e ht
  -- the second one, behind a slot of the first one's
  have ahead : ∀ (v : Value), qC P ops C st Qp j X (a.put oi.dst v) w →
      (∀ b w', Like a oj.dst b → C w' → (chS P st j oj = false → w' = w) → X (b.put oi.dst v) w' → qC P ops C st Qp i X b w') → qC P ops C st Qp j (fun a w => qC P ops C st Qp i X a w) a w := by
    intro v hq hk
    unfold qC at hq
    simp only [hj, wanted_put oj a oi.dst v h1] at hq
    conv => unfold qC
    simp only [hj]
    split
    · rename_i hw
      rw [if_pos hw] at hq
      split
      · rename_i hc
        rw [if_pos hc] at hq
        refine wp_ahead (ops := ops) hsj h1 h2 (fun ex a w => hind.ins hc ex a w v) ?_ hq
        rintro b w' hl ⟨hCw, hx⟩
        exact ⟨hCw, hk b w' hl hCw (fun e => by rw [hc] at e; cases e) hx⟩
      · rename_i hc
        rw [if_neg hc] at hq
        obtain ⟨u, hu, hx⟩ := hq
        refine ⟨u, fun w' hkn => ?_, hk _ w (like_put a _ u) hC (fun _ => rfl) (by rw [← Act.put_comm a v u h2]; exact hx)⟩
        have := hu w' hkn
        unfold yields at *
        rwa [execOp_put (ops := ops) oj hsj a oi.dst v h1] at this
    · rename_i hw
      rw [if_neg hw] at hq
      exact hk _ w (like_put a _ undef) hC (fun _ => rfl) (by rw [← Act.put_comm a v undef h2]; exact hq)
  unfold qC at h
  simp only [hi] at h
  split at h
  · rename_i hwi
    split at h
    · -- the first one is in the chain
      rename_i hci
      have hcj : chS P st j oj = false := by
        cases hc : chS P st j oj with
        | false => rfl
        | true => exact (hind.cc ⟨hci, hc⟩).elim
      have hnp := hind.np hci
      have hkn : ∀ w1 w2 w', knows P C st j oj w1 w' → knows P C st j oj w2 w' := fun w1 w2 w' hk => by
        unfold knows at *
        split
        · rename_i hl
          rw [if_pos hl, if_pos (hind.cl hci hl)] at hk
          rw [if_pos (hind.cl hci hl)]
          exact hk
        · trivial
      have hknC : ∀ w1 w', C w' → knows P C st j oj w1 w' := fun w1 w' hc => by
        unfold knows
        split
        · rename_i hl; rw [if_pos (hind.cl hci hl)]; exact hc
        · trivial
      -- what the first one leaves the second one
      have back : ∀ (v : Value), (∀ b w', Like a oi.dst b → C w' → qC P ops C st Qp j X b w' → X (b.put oj.dst v) w') → qC P ops C st Qp i X (a.put oj.dst v) w := by
        intro v hk
        conv => unfold qC
        simp only [hi, wanted_put oi a oj.dst v h3]
        rw [if_pos hwi, if_pos hci]
        refine wp_behind (ops := ops) hsi h3 h2' hnp ?_ h
        rintro b w' hl ⟨hCw, hx⟩
        exact ⟨hCw, hk b w' hl hCw hx⟩
      conv => unfold qC
      simp only [hj]
      by_cases hwj : Region.wanted oj (yielded ops a.tmps) = true
      · rw [if_pos hwj, if_neg (by rw [hcj]; simp)]
        obtain ⟨b0, w0, hl0, hC0, hq0⟩ := wp_some hnp h
        have hq0' := hq0
        unfold qC at hq0'
        simp only [hj, like_wanted hl0 h1, hwj, if_true, hcj, Bool.false_eq_true, if_false] at hq0'
        obtain ⟨vj, hvj, _⟩ := hq0'
        have hy : ∀ w1 w', knows P C st j oj w1 w' → yields P oj a w' vj := fun w1 w' hk => by
          have := hvj w' (hkn _ _ _ hk)
          unfold yields at *
          rwa [like_exec hsj hl0 h1] at this
        refine ⟨vj, hy w, back vj ?_⟩
        intro b w' hl hCw hx
        unfold qC at hx
        simp only [hj, like_wanted hl h1, hwj, if_true, hcj, Bool.false_eq_true, if_false] at hx
        obtain ⟨v', hv', hx⟩ := hx
        have e1 := hv' w' (knows_self hCw)
        have e2 := hy w' w' (hknC _ _ hCw)
        unfold yields at e1 e2
        rw [like_exec hsj hl h1, e2] at e1
        cases e1
        exact hx
      · rw [if_neg hwj]
        refine back undef ?_
        intro b w' hl hCw hx
        unfold qC at hx
        simp only [hj, like_wanted hl h1] at hx
        rwa [if_neg hwj] at hx
    · rename_i hci
      obtain ⟨v, hv, hq⟩ := h
      refine ahead v hq ?_
      intro b w' hl hCw hww hx
      conv => unfold qC
      simp only [hi, like_wanted hl h3]
      rw [if_pos hwi, if_neg hci]
      refine ⟨v, fun w'' hk => ?_, hx⟩
      have : knows P C st i oi w w'' := by
        unfold knows at *
        split
        · rename_i hl
          rw [if_pos hl] at hk
          split
          · rename_i hs; rwa [if_pos hs] at hk
          · rename_i hs
            rw [if_neg hs] at hk
            rw [hk]
            refine hww ?_
            cases hc : chS P st j oj with
            | false => rfl
            | true => exact (hs (hind.lc hc hl)).elim
        · trivial
      have := hv w'' this
      unfold yields at *
      rwa [like_exec hsi hl h3]
  · rename_i hwi
    refine ahead undef h ?_
    intro b w' hl hCw _ hx
    conv => unfold qC
    simp only [hi, like_wanted hl h3]
    rw [if_neg hwi]
    exact hx

end


inductive Dp (ops : Array Oper) : Nat → Nat → Prop where
  | one {i j : Nat} {o : Oper} {e : Edge} (ho : ops[j]? = some o) (he : e ∈ o.after) (hb : Region.binds .any e = true) (hi : e.on = i) : Dp ops i j
  | more {i j : Nat} {o : Oper} {e : Edge} (ho : ops[j]? = some o) (he : e ∈ o.after) (hb : Region.binds .any e = true) (hd : Dp ops i e.on) : Dp ops i j

def Closed (ops : Array Oper) (listed : Array Bool) : Prop :=
  ∀ j oj, ops[j]? = some oj → listed.getD j false = true → ∀ e ∈ oj.after, Region.binds .any e = true → listed.getD e.on false = true

theorem dep_listed {ops : Array Oper} {listed : Array Bool} (hc : Closed ops listed) {i j : Nat} (h : Dp ops i j) : listed.getD j false = true → listed.getD i false = true := by
  induction h with
  | one ho he hb hi => intro hl; rw [← hi]; exact hc _ _ ho hl _ he hb
  | more ho he hb _ ih => intro hl; exact ih (hc _ _ ho hl _ he hb)

theorem dep_ready {ops : Array Oper} {listed : Array Bool} (hc : Closed ops listed) {i j : Nat} (h : Dp ops i j) (hr : j ∈ Region.ready .any ops listed) : listed.getD i false = true := by
  obtain ⟨_, o, ho, hall⟩ := mem_ready.1 hr
  cases h with
  | one ho' he hb hi => rw [ho] at ho'; cases ho'; rw [← hi]; exact hall _ he hb
  | more ho' he hb hd => rw [ho] at ho'; cases ho'; exact dep_listed hc hd (hall _ he hb)

theorem Closed.set {ops : Array Oper} {listed : Array Bool} (hc : Closed ops listed) {i : Nat} (hi : i ∈ Region.ready .any ops listed) : Closed ops (listed.setIfInBounds i true) := by
  obtain ⟨_, oi, hoi, hall⟩ := mem_ready.1 hi
  intro j oj hj hl e he hb
  by_cases hij : i = j
  · subst hij
    rw [hoi] at hj; cases hj
    exact getD_set_true (hall e he hb)
  · rw [getD_set_ne false hij] at hl
    exact getD_set_true (hc j oj hj hl e he hb)

theorem unlisted {listed : Array Bool} {i : Nat} (h : listed.getD i true = false) : listed.getD i false = false := by
  rcases Nat.lt_or_ge i listed.size with h' | h'
  · simp [h'] at h ⊢; exact h
  · simp [Array.getElem?_eq_none h'] at h

inductive Topo (ops : Array Oper) : Array Bool → List Nat → Prop where
  | nil (listed : Array Bool) : Topo ops listed []
  | cons {listed : Array Bool} {i : Nat} {l : List Nat} (h : i ∈ Region.ready .any ops listed) (ht : Topo ops (listed.setIfInBounds i true) l) : Topo ops listed (i :: l)

def afterL (listed : Array Bool) (l : List Nat) : Array Bool := l.foldl (fun a i => a.setIfInBounds i true) listed

theorem lin_topo (ops : Array Oper) : ∀ (fuel t : Nat) (listed : Array Bool), ∃ l, Region.linearise.go .any ops fuel t listed [] = l ∧ Topo ops listed l ∧
    (l.length = fuel ∨ Region.ready .any ops (afterL listed l) = []) := by
  intro fuel
  induction fuel with
  | zero => intro t listed; exact ⟨[], by simp [Region.linearise.go], .nil _, .inl rfl⟩
  | succ fuel ih =>
    intro t listed
    have hgo : Region.linearise.go .any ops (fuel + 1) t listed [] = (match (Region.ready .any ops listed)[t % (Region.ready .any ops listed).length]? with
      | some i => Region.linearise.go .any ops fuel (t / (Region.ready .any ops listed).length) (listed.setIfInBounds i true) [i]
      | none => [].reverse) := rfl
    rw [hgo]
    cases hi : (Region.ready .any ops listed)[t % (Region.ready .any ops listed).length]? with
    | none =>
      have hnil : Region.ready .any ops listed = [] := by
        cases hr : Region.ready .any ops listed with
        | nil => rfl
        | cons x xs =>
          rw [hr] at hi
          have hlt : t % (x :: xs).length < (x :: xs).length := Nat.mod_lt _ (by simp)
          simp at hi
          simp at hlt
          omega
      exact ⟨[], rfl, .nil _, .inr hnil⟩
    | some i =>
      obtain ⟨l, h1, h2, h3⟩ := ih (t / (Region.ready .any ops listed).length) (listed.setIfInBounds i true)
      refine ⟨i :: l, ?_, .cons (List.mem_of_getElem? hi) h2, ?_⟩
      · simp only []
        rw [linearise_go_acc, h1]
        rfl
      · rcases h3 with h3 | h3
        · exact .inl (by simp [h3])
        · exact .inr h3

theorem getD_set_self {listed : Array Bool} {i : Nat} (h : i < listed.size) (d : Bool) : (listed.setIfInBounds i true).getD i d = true := by
  simp [h]

section
variable {ops : Array Oper}

theorem topo_unlisted {listed : Array Bool} {l : List Nat} (h : Topo ops listed l) : ∀ i ∈ l, listed.getD i true = false ∧ i < ops.size := by
  induction h with
  | nil => intro i hi; cases hi
  | cons hr ht ih =>
    rename_i listed i l
    intro j hj
    obtain ⟨h0, o, ho, _⟩ := mem_ready.1 hr
    rcases List.mem_cons.1 hj with rfl | hj
    · exact ⟨h0, (Array.getElem?_eq_some_iff.1 ho).1⟩
    · obtain ⟨h1, h2⟩ := ih j hj
      refine ⟨?_, h2⟩
      by_cases hij : i = j
      · subst hij
        rcases Nat.lt_or_ge i listed.size with h' | h'
        · rw [getD_set_self h'] at h1; cases h1
        · simp [Array.getElem?_eq_none h'] at h0
      · rwa [getD_set_ne true hij] at h1

theorem topo_nodup {listed : Array Bool} {l : List Nat} (h : Topo ops listed l) : l.Nodup := by
  induction h with
  | nil => exact List.nodup_nil
  | cons hr ht ih =>
    rename_i listed i l
    refine List.nodup_cons.2 ⟨fun hm => ?_, ih⟩
    have h1 := (topo_unlisted ht i hm).1
    have h0 := (mem_ready.1 hr).1
    rcases Nat.lt_or_ge i listed.size with h' | h'
    · rw [getD_set_self h'] at h1; cases h1
    · simp [Array.getElem?_eq_none h'] at h0

theorem topo_dep {listed : Array Bool} {l : List Nat} (h : Topo ops listed l) : Closed ops listed → ∀ x y, [y, x].Sublist l → ¬ Dp ops x y := by
  induction h with
  | nil => intro _ x y hs; cases hs
  | cons hr ht ih =>
    rename_i listed i l
    intro hc x y hs hd
    cases hs with
    | cons _ hs => exact ih (hc.set hr) x y hs hd
    | cons_cons _ hs =>
      have hx : x ∈ l := List.singleton_sublist.1 hs
      have h1 := (topo_unlisted (.cons hr ht) x (by simp [hx])).1
      have h2 := dep_ready hc hd hr
      rw [unlisted h1] at h2; cases h2

theorem after_size (l : List Nat) : ∀ listed : Array Bool, (afterL listed l).size = listed.size := by
  induction l with
  | nil => intro _; rfl
  | cons i l ih => intro listed; show (afterL (listed.setIfInBounds i true) l).size = _; rw [ih]; simp

theorem after_mem (l : List Nat) : ∀ (listed : Array Bool) (j : Nat), (afterL listed l).getD j false = true → listed.getD j false = true ∨ j ∈ l := by
  induction l with
  | nil => intro listed j h; exact .inl h
  | cons i l ih =>
    intro listed j h
    rcases ih _ j h with h | h
    · by_cases hij : i = j
      · exact .inr (by simp [hij])
      · rw [getD_set_ne false hij] at h; exact .inl h
    · exact .inr (by simp [h])

theorem len_le : ∀ (l m : List Nat), l.Nodup → l ⊆ m → l.length ≤ m.length
  | [], _, _, _ => Nat.zero_le _
  | a :: l, m, hn, hs => by
    obtain ⟨h1, h2⟩ := List.nodup_cons.1 hn
    have ha : a ∈ m := hs (by simp)
    have := len_le l (m.erase a) h2 fun x hx => (List.mem_erase_of_ne (fun e => by subst e; exact h1 hx)).2 (hs (by simp [hx]))
    rw [List.length_erase_of_mem ha] at this
    have : 0 < m.length := List.length_pos_of_mem ha
    simp only [List.length_cons]
    omega

theorem all_of_len {l : List Nat} {n : Nat} (hn : l.Nodup) (hlt : ∀ i ∈ l, i < n) (hl : l.length = n) : ∀ i, i < n → i ∈ l := by
  intro i hi
  apply Classical.byContradiction
  intro hm
  have := len_le l ((List.range n).erase i) hn fun x hx => (List.mem_erase_of_ne (fun e => by subst e; exact hm hx)).2 (List.mem_range.2 (hlt x hx))
  rw [List.length_erase_of_mem (List.mem_range.2 hi)] at this
  simp at this
  omega

theorem topo_all (hord : ∀ j oj, ops[j]? = some oj → ∀ e ∈ oj.after, Region.binds .any e = true → e.on < j) {l : List Nat} (ht : Topo ops (Array.replicate ops.size false) l)
    (hend : l.length = ops.size ∨ Region.ready .any ops (afterL (Array.replicate ops.size false) l) = []) : l.Perm (List.range ops.size) := by
  have hnd := topo_nodup ht
  have hlt : ∀ i ∈ l, i < ops.size := fun i hi => (topo_unlisted ht i hi).2
  have hperm : (∀ i, i < ops.size → i ∈ l) → l.Perm (List.range ops.size) := fun h =>
    (List.perm_ext_iff_of_nodup hnd List.nodup_range).2 fun i => ⟨fun hi => List.mem_range.2 (hlt i hi), fun hi => h i (List.mem_range.1 hi)⟩
  rcases hend with hend | hend
  · exact hperm (all_of_len hnd hlt hend)
  · have hall : ∀ n, n < ops.size → n ∈ l := by
      intro n
      induction n using Nat.strongRecOn with
      | _ n ih =>
        intro hn
        cases hm : (afterL (Array.replicate ops.size false) l).getD n true with
        | true =>
          have hsz := after_size l (Array.replicate ops.size false)
          have h2 : (afterL (Array.replicate ops.size false) l).getD n false = true := by
            have : n < (afterL (Array.replicate ops.size false) l).size := by rw [hsz]; simpa using hn
            simp [this] at hm ⊢; exact hm
          rcases after_mem l _ n h2 with h | h
          · simp [hn] at h
          · exact h
        | false =>
          exfalso
          have hok : ops[n]? = some ops[n] := Array.getElem?_eq_getElem hn
          have : n ∈ Region.ready .any ops (afterL (Array.replicate ops.size false) l) := by
            refine mem_ready.2 ⟨hm, _, hok, fun e he hb => ?_⟩
            have hlt' := hord n _ hok e he hb
            have hin := ih e.on hlt' (by omega)
            have key : ∀ (l : List Nat) (listed : Array Bool), e.on ∈ l → e.on < listed.size → (afterL listed l).getD e.on false = true := by
              intro l
              induction l with
              | nil => intro _ h; cases h
              | cons i l ih2 =>
                intro listed hm hs
                rcases List.mem_cons.1 hm with rfl | hm
                · have : ∀ (l : List Nat) (listed : Array Bool), listed.getD e.on false = true → (afterL listed l).getD e.on false = true := by
                    intro l
                    induction l with
                    | nil => intro _ h; exact h
                    | cons i l ih3 => intro listed h; exact ih3 _ (getD_set_true h)
                  exact this l _ (getD_set_self hs false)
                · exact ih2 _ hm (by simpa using hs)
            exact key l _ hin (by simp; omega)
          rw [hend] at this
          cases this
    exact hperm hall

end

section
variable {P : Program} {ops : Array Oper} {C : World → Prop} {st : List Nat} {Qp : Exit → Act → World → Prop}

def lexL (P : Program) (ops : Array Oper) (C : World → Prop) (st : List Nat) (Qp : Exit → Act → World → Prop) (Q : Exit → Act → World → Prop) : List Nat → Act → World → Prop
  | [], a, w => Q .normal a w
  | i :: l, a, w => qC P ops C st Qp i (lexL P ops C st Qp Q l) a w

def IndN (P : Program) (ops : Array Oper) (st : List Nat) (Qp : Exit → Act → World → Prop) (x y : Nat) : Prop :=
  ∀ ox oy, ops[x]? = some ox → ops[y]? = some oy → Ind P ops st Qp x y ox oy

theorem lexL_move {Q : Exit → Act → World → Prop} (hsel : ∀ (j : Nat) (o : Oper) cs b, ops[j]? = some o → o.op ≠ .select cs b) {x : Nat} (hx : x < ops.size) :
    ∀ (l1 l2 : List Nat) (a : Act) (w : World), C w → (∀ y ∈ l1, y < ops.size ∧ IndN P ops st Qp x y) → qC P ops C st Qp x (lexL P ops C st Qp Q (l1 ++ l2)) a w → lexL P ops C st Qp Q (l1 ++ x :: l2) a w
  | [], l2, a, w, _, _, h => h
  | y :: l1, l2, a, w, hC, hi, h => by
    obtain ⟨hy, hI⟩ := hi y (by simp)
    have hox : ops[x]? = some ops[x] := Array.getElem?_eq_getElem hx
    have hoy : ops[y]? = some ops[y] := Array.getElem?_eq_getElem hy
    have := qC_swap hox hoy (fun cs b => hsel x _ cs b hox) (fun cs b => hsel y _ cs b hoy) (hI _ _ hox hoy) hC h
    exact qC_mono hC (fun a' w' hC' hx' => lexL_move hsel hx l1 l2 a' w' hC' (fun z hz => hi z (by simp [hz])) hx') this

theorem lexL_perm {Q : Exit → Act → World → Prop} (hsel : ∀ (j : Nat) (o : Oper) cs b, ops[j]? = some o → o.op ≠ .select cs b) :
    ∀ (p l : List Nat) (a : Act) (w : World), C w → l.Perm p → (∀ x ∈ p, x < ops.size) → (∀ x y, [x, y].Sublist p → [y, x].Sublist l → IndN P ops st Qp x y) →
      lexL P ops C st Qp Q p a w → lexL P ops C st Qp Q l a w
  | [], l, a, w, _, hp, _, _, h => by rw [List.Perm.eq_nil hp]; exact h
  | x :: p, l, a, w, hC, hp, hlt, hd, h => by
    have hxl : x ∈ l := hp.mem_iff.2 (by simp)
    obtain ⟨l1, l2, rfl⟩ := List.append_of_mem hxl
    have hp' : (l1 ++ l2).Perm p := by
      have := List.perm_middle.symm.trans hp
      exact List.Perm.cons_inv this
    refine lexL_move hsel (hlt x (by simp)) l1 l2 a w hC ?_ ?_
    · intro y hy
      have hyp : y ∈ p := hp'.mem_iff.1 (by simp [hy])
      refine ⟨hlt y (by simp [hyp]), hd x y ?_ ?_⟩
      · exact List.Sublist.cons_cons _ (List.singleton_sublist.2 hyp)
      · obtain ⟨m1, m2, rfl⟩ := List.append_of_mem hy
        have : [y, x].Sublist (y :: (m2 ++ x :: l2)) := List.Sublist.cons_cons _ (List.singleton_sublist.2 (by simp))
        have h2 := List.Sublist.trans this (List.sublist_append_right m1 _)
        rw [List.append_assoc]
        exact h2
    · refine qC_mono hC (fun a' w' hC' hx => ?_) h
      refine lexL_perm hsel p (l1 ++ l2) a' w' hC' hp' (fun z hz => hlt z (by simp [hz])) ?_ hx
      intro u v h1 h2
      refine hd u v (List.Sublist.cons _ h1) (List.Sublist.trans h2 ?_)
      exact List.Sublist.append (List.Sublist.refl _) (List.sublist_cons_self _ _)

theorem wpOps_of_lexL2 {Qa Qb : Exit → Act → World → Prop} (hp : ∀ ex a w, Qp ex a w → Qb ex a w) {l2 : List Nat} (hn : ∀ a w, Qa .normal a w → wpOps P ops Qb l2 a w) :
    ∀ (l : List Nat) (a : Act) (w : World), C w → lexL P ops C st Qp Qa l a w → wpOps P ops Qb (l ++ l2) a w
  | [], a, w, _, h => hn a w h
  | i :: l, a, w, hC, h2 => by
    rw [List.cons_append, wpOps_cons]
    unfold lexL qC at h2
    unfold wpOp
    split
    · rename_i ho
      simp only [ho] at h2
      exact wpOps_of_lexL2 hp hn l _ _ hC h2
    · rename_i o ho
      simp only [ho] at h2
      split
      · rename_i hw
        rw [if_pos hw] at h2
        refine .inl ?_
        split at h2
        · exact Oper.wp_mono' (fun a' w' ⟨h1, h3⟩ => wpOps_of_lexL2 hp hn l _ _ h1 h3) hp h2
        · obtain ⟨v, hv, h3⟩ := h2
          unfold Oper.wp
          have := hv w (knows_self hC)
          unfold yields at this
          rw [this]
          exact wpOps_of_lexL2 hp hn l _ _ hC h3
      · rename_i hw
        rw [if_neg hw] at h2
        exact wpOps_of_lexL2 hp hn l _ _ hC h2

end

/-! ### What is looked at in a region's text -/

def maskOf (acc : List Nat) (o : Oper) : Nat := o.after.toList.foldl (fun s e => cond (Region.binds .any e) (s ||| 2 ^ e.on ||| acc.getD e.on 0) s) 0
def masks (acc : List Nat) : List Oper → List Nat
  | [] => acc
  | o :: r => masks (acc ++ [maskOf acc o]) r

theorem maskOf_sound {ops : Array Oper} {acc : List Nat} {o : Oper} {j : Nat} (ho : ops[j]? = some o) (hacc : ∀ k i, (acc.getD k 0).testBit i = true → Dp ops i k) {i : Nat}
    (h : (maskOf acc o).testBit i = true) : Dp ops i j := by
  have key : ∀ (l : List Edge) (s : Nat), (∀ e ∈ l, e ∈ o.after) → (s.testBit i = true → Dp ops i j) →
      (l.foldl (fun s e => cond (Region.binds .any e) (s ||| 2 ^ e.on ||| acc.getD e.on 0) s) s).testBit i = true → Dp ops i j := by
    intro l
    induction l with
    | nil => intro s _ hs h; exact hs h
    | cons e l ih =>
      intro s hl hs h
      refine ih _ (fun e' he' => hl e' (by simp [he'])) ?_ h
      intro hb
      dsimp only at hb
      cases hbi : Region.binds .any e with
      | false => rw [hbi] at hb; exact hs hb
      | true =>
        rw [hbi] at hb
        simp only [cond_true, Nat.testBit_or, Bool.or_eq_true] at hb
        rcases hb with (hb | hb) | hb
        · exact hs hb
        · rw [Nat.testBit_two_pow] at hb
          exact .one ho (hl e (by simp)) hbi (by simpa using hb)
        · exact .more ho (hl e (by simp)) hbi (hacc _ _ hb)
  exact key o.after.toList 0 (fun e he => by simpa using he) (fun h => by simp at h) h

theorem masks_sound {ops : Array Oper} : ∀ (l : List Oper) (acc : List Nat), (∀ j, l[j]? = ops[acc.length + j]?) → (∀ k i, (acc.getD k 0).testBit i = true → Dp ops i k) →
    ∀ k i, ((masks acc l).getD k 0).testBit i = true → Dp ops i k
  | [], acc, _, hacc => hacc
  | o :: l, acc, hl, hacc => by
    refine masks_sound l (acc ++ [maskOf acc o]) (fun j => ?_) ?_
    · have := hl (j + 1)
      simpa [Nat.add_assoc, Nat.add_comm 1 j] using this
    · intro k i hk
      have ho : ops[acc.length]? = some o := by simpa using (hl 0).symm
      rcases Nat.lt_trichotomy k acc.length with h | h | h
      · rw [List.getD_eq_getElem?_getD, List.getElem?_append_left h, ← List.getD_eq_getElem?_getD] at hk
        exact hacc k i hk
      · subst h
        rw [List.getD_eq_getElem?_getD, List.getElem?_append_right (Nat.le_refl _)] at hk
        simp only [Nat.sub_self, List.getElem?_cons_zero, Option.getD_some] at hk
        exact maskOf_sound ho hacc hk
      · rw [List.getD_eq_getElem?_getD, List.getElem?_eq_none (by simp; omega)] at hk
        simp at hk

def freeB (P : Program) (mp : Bool) (ops : Array Oper) (st : List Nat) (i j : Nat) (oi oj : Oper) : Bool :=
  oi.apart ops oj && (!(chS P st i oi && isLoadO oj) || hasN st j) && (!(chS P st j oj && isLoadO oi) || hasN st i) && !(mp && chS P st i oi)

def anyK : Nat := 1000000

def pairB (P : Program) (mp : Bool) (ops : Array Oper) (st : List Nat) (k : Option Nat) : Nat → List (Oper × Nat) → List (Nat × Oper) → Bool
  | _, [], _ => true
  | j, (oj, m) :: r, before => before.all (fun p => m.testBit p.1 || (freeB P mp ops st p.1 j p.2 oj && (!(chS P st p.1 p.2 && chS P st j oj) || k == some j || k == some anyK))) &&
      pairB P mp ops st k (j + 1) r ((j, oj) :: before)

def permsOf (P : Program) (st : List Nat) (l : List Oper) (k : Nat) : List (List Nat) :=
  (List.range l.length) :: ((List.range k).filter fun c => match nthO l c with
    | some o => chS P st c o
    | none => false).map fun c => List.range c ++ k :: ((List.range' c (l.length - c)).filter fun i => !(Nat.beq i k))

def beforeB (i j : Nat) : List Nat → Bool
  | [] => false
  | x :: r => cond (Nat.beq x i) (hasN r j) (beforeB i j r)

def permB (m : List Nat) (n : Nat) (p : List Nat) : Bool :=
  p.isPerm (List.range n) && (List.range n).all fun j => (List.range j).all fun i => !((m.getD j 0).testBit i) || beforeB i j p

def confs (P : Program) (st : List Nat) (m : List Nat) (l : List Oper) : List (Nat × Nat) :=
  (numb 0 l).flatMap fun y => ((numb 0 l).filter fun x => Nat.blt x.1 y.1 && (chS P st x.1 x.2 && (chS P st y.1 y.2 && !((m.getD y.1 0).testBit x.1)))).map fun x => (x.1, y.1)

def cycB (m : List Nat) (S : List (Nat × Nat)) : Bool :=
  S.any fun x => S.any fun y => Nat.beq x.2 y.1 && ((S.any fun z => Nat.beq z.1 y.2 && Nat.beq z.2 x.1) || (m.getD x.1 0).testBit y.2)

def coverB (m : List Nat) (n : Nat) : List (Nat × Nat) → List (Nat × Nat) → List (List Nat) → Bool
  | [], S, ps => (match ps with | [] => false | p :: _ => permB m n p) || cycB m S
  | x :: X, S, ps => coverB m n X (x :: S) (ps.filter (beforeB x.1 x.2)) && coverB m n X ((x.2, x.1) :: S) (ps.filter (beforeB x.2 x.1))

def okDraw (P : Program) (mp : Bool) (l : List Oper) (st : Option (List Nat)) (k : Option (Nat × List (List Nat))) : Bool :=
  Region.noSelect l.toArray &&
  (numb 0 l).all (fun p => p.2.after.all fun e => !Region.binds .any e || Nat.blt e.on p.1) &&
  pairB P mp l.toArray (st.getD []) (k.map (·.1)) 0 (l.zip (masks [] l)) [] &&
  (match k with
   | none => true
   | some (k, []) => Nat.beq k 0 && Nat.blt 0 l.length && (List.range (l.length - 1)).all fun i => ((masks [] l).getD (l.length - 1) 0).testBit i
   | some (k, ps) => !mp && cond (Nat.beq k anyK) (coverB (masks [] l) l.length (confs P (st.getD []) (masks [] l) l) [] ps) ((match nthO l k with
      | some o => o.after.all fun e => !Region.binds .any e
      | none => false) && (Nat.blt k anyK && ps == permsOf P (st.getD []) l k)))

theorem ev_imp {e : Env} {o : Operand} {K K' : SV → Prop} (h : ev e o K) (hk : ∀ x, K x → K' x) : ev e o K' := by
  cases o with
  | tmp t =>
    simp only [ev] at h ⊢
    split at h
    · exact hk _ h
    · exact h
  | const v => exact hk _ h
  | global g => exact hk _ h
  | func f => exact hk _ h

theorem evs_imp {e : Env} : ∀ {l : List Operand} {K K' : List Value → Prop}, pv.evs e l K → (∀ x, K x → K' x) → pv.evs e l K'
  | [], _, _, h, hk => hk _ h
  | _ :: _, _, _, h, hk => ev_imp h fun _ hx => evs_imp hx fun _ => hk _

theorem ov_rd {P : Program} {mp : Bool} {o : Oper} {e : Env} {h : Hp} {rd rd' : Nat → Nat → List Value → Prop} {K : SV → Hp → Prop} {Kp : List PanicEntry → Hp → Prop}
    (h2 : isLoadO o = false) (hv : ov P mp o e h rd K Kp) : ov P mp o e h rd' K Kp := by
  obtain ⟨dst, op, ty, pos, after, guard⟩ := o
  cases op with
  | load t a => simp [isLoadO] at h2
  | call c =>
    obtain ⟨callee, args, ats⟩ := c
    cases callee with
    | value f => cases f <;> exact hv
    | invoke r m => exact hv
    | builtin b => cases b <;> exact hv
  | slice t x lo hi mx => cases mx <;> cases lo <;> cases hi <;> exact hv
  | makeMap t r => cases r <;> exact hv
  | _ => exact hv

theorem ov_mono {P : Program} {mp : Bool} {o : Oper} {e : Env} {h : Hp} {rd : Nat → Nat → List Value → Prop} {K : SV → Hp → Prop} {Kp : List PanicEntry → Hp → Prop}
    (hv : ov P mp o e h rd K Kp) : ov P mp o e h rd K fun c h' => mp = true ∧ Kp c h' := by
  cases mp with
  | false => exact ov_calm hv
  | true => simpa using hv



def PairOk (P : Program) (mp : Bool) (ops : Array Oper) (st : List Nat) (k : Option Nat) (i j : Nat) (oi oj : Oper) (m : Nat) : Prop :=
  m.testBit i = true ∨ (freeB P mp ops st i j oi oj = true ∧ (¬ (chS P st i oi = true ∧ chS P st j oj = true) ∨ k = some j ∨ k = some anyK))

theorem pairB_sound {P : Program} {mp : Bool} {ops : Array Oper} {st : List Nat} {k : Option Nat} : ∀ (r : List (Oper × Nat)) (j : Nat) (before : List (Nat × Oper)), pairB P mp ops st k j r before = true →
    ∀ (t : Nat) (oj : Oper) (m : Nat), r[t]? = some (oj, m) → (∀ p ∈ before, PairOk P mp ops st k p.1 (j + t) p.2 oj m) ∧
      ∀ (s : Nat) (oi : Oper) (mi : Nat), s < t → r[s]? = some (oi, mi) → PairOk P mp ops st k (j + s) (j + t) oi oj m
  | [], _, _, _, _, _, _, h => by simp at h
  | (oj, m) :: r, j, before, hb, t, oj', m', ht => by
    simp only [pairB, Bool.and_eq_true] at hb
    obtain ⟨h1, h2⟩ := hb
    cases t with
    | zero =>
      simp only [List.getElem?_cons_zero, Option.some.injEq, Prod.mk.injEq] at ht
      obtain ⟨rfl, rfl⟩ := ht
      refine ⟨fun p hp => ?_, fun s oi mi hs => by omega⟩
      have := List.all_eq_true.1 h1 p hp
      simp only [Bool.or_eq_true, Bool.and_eq_true] at this
      rcases this with h | ⟨h, h'⟩
      · exact .inl h
      · refine .inr ⟨h, ?_⟩
        rcases h' with (h' | h') | h'
        · exact .inl fun hh => by
            obtain ⟨g1, g2⟩ := hh
            rw [Nat.add_zero] at g2
            simp [g1, g2] at h'
        · exact .inr (.inl (by simpa using h'))
        · exact .inr (.inr (by simpa using h'))
    | succ t =>
      have ht' : r[t]? = some (oj', m') := by simpa using ht
      obtain ⟨g1, g2⟩ := pairB_sound r (j + 1) ((j, oj) :: before) h2 t oj' m' ht'
      rw [show j + 1 + t = j + (t + 1) from by omega] at g1 g2
      refine ⟨fun p hp => g1 p (by simp [hp]), fun s oi mi hs hr => ?_⟩
      cases s with
      | zero =>
        simp only [List.getElem?_cons_zero, Option.some.injEq, Prod.mk.injEq] at hr
        obtain ⟨rfl, rfl⟩ := hr
        exact g1 (j, oj) (by simp)
      | succ s =>
        have := g2 s oi mi (by omega) (by simpa using hr)
        rwa [show j + 1 + s = j + (s + 1) from by omega] at this

theorem apart_symm {ops : Array Oper} {x y : Oper} (h : x.apart ops y = true) : y.apart ops x = true := by
  obtain ⟨h1, h2, h3⟩ := Oper.apart_spec h
  unfold Oper.apart
  cases hx : x.dst with
  | none =>
    cases hy : y.dst with
    | none => rfl
    | some d => simp [h3 d hy]
  | some e =>
    cases hy : y.dst with
    | none => simp [h1 e hx]
    | some d =>
      have := h2 e hx
      rw [hy] at this
      have hne : ¬ (e = d) := fun hh => this (by rw [hh])
      simp [h1 e hx, h3 d hy, hne]

theorem freeB_ind {P : Program} {mp : Bool} {ops : Array Oper} {st : List Nat} {Qp : Exit → Act → World → Prop} {i j : Nat} {oi oj : Oper} (hq : mp = false → ∀ ex a w, ¬ Qp ex a w)
    (hins : ∀ ex a w v, Qp ex (a.put oi.dst v) w → Qp ex a w)
    (h : freeB P mp ops st i j oi oj = true) (hc : ¬ (chS P st i oi = true ∧ chS P st j oj = true)) : Ind P ops st Qp i j oi oj ∧ (mp = false → Ind P ops st Qp j i oj oi) := by
  unfold freeB at h
  simp only [Bool.and_eq_true] at h
  obtain ⟨⟨⟨h1, h2⟩, h3⟩, h4⟩ := h
  have hin : ∀ (x : Nat) (ox : Oper), readO P ox = true → ¬ chS P st x ox = true → x ∈ st := fun x ox hr hn => by
    unfold chS at hn
    rw [read_chain hr, hr] at hn
    simpa using hn
  have e2 : chS P st i oi = true → memO P oj = true → j ∈ st := fun a b => by
    unfold memO at b
    cases hl : isLoadO oj with
    | true => exact (hasN_iff st j).1 (by simpa [a, hl] using h2)
    | false => exact hin j oj (by simpa [hl] using b) fun hj => hc ⟨a, hj⟩
  have e3 : chS P st j oj = true → memO P oi = true → i ∈ st := fun a b => by
    unfold memO at b
    cases hl : isLoadO oi with
    | true => exact (hasN_iff st i).1 (by simpa [a, hl] using h3)
    | false => exact hin i oi (by simpa [hl] using b) fun hj => hc ⟨hj, a⟩
  have e4 : chS P st i oi = true → ∀ ex a w, ¬ Qp ex a w := fun hh => hq (by
    cases mp with
    | false => rfl
    | true => simp [hh] at h4)
  exact ⟨⟨h1, hc, e2, e3, e4, fun _ => hins⟩, fun hm => ⟨apart_symm h1, fun hh => hc ⟨hh.2, hh.1⟩, e3, e2, fun _ => hq hm, fun _ ex a w v hh => (hq hm _ _ _ hh).elim⟩⟩

theorem masks_len : ∀ (l : List Oper) (acc : List Nat), (masks acc l).length = acc.length + l.length
  | [], acc => by simp [masks]
  | o :: l, acc => by rw [masks, masks_len l]; simp; omega

theorem pairs_of0 {P : Program} {mp : Bool} {ops : Array Oper} {st : List Nat} {k : Option Nat} {Qp : Exit → Act → World → Prop} (hq : mp = false → ∀ ex a w, ¬ Qp ex a w)
    {oi : Oper} (hins : ∀ ex a w v, Qp ex (a.put oi.dst v) w → Qp ex a w) (h : pairB P mp ops st k 0 (ops.toList.zip (masks [] ops.toList)) [] = true) {i j : Nat} {oj : Oper} (hi : ops[i]? = some oi) (hj : ops[j]? = some oj) (hij : i < j) (hnd : ((masks [] ops.toList).getD j 0).testBit i ≠ true)
    (hk : ¬ (chS P st i oi = true ∧ chS P st j oj = true) ∨ (k ≠ some j ∧ k ≠ some anyK)) : Ind P ops st Qp i j oi oj ∧ (mp = false → Ind P ops st Qp j i oj oi) := by
  have hlen := masks_len ops.toList []
  have hjs : j < ops.size := (Array.getElem?_eq_some_iff.1 hj).1
  have his : i < ops.size := by omega
  have hm : ∀ t o, ops[t]? = some o → (ops.toList.zip (masks [] ops.toList))[t]? = some (o, (masks [] ops.toList).getD t 0) := by
    intro t o ho
    have hts : t < ops.size := (Array.getElem?_eq_some_iff.1 ho).1
    rw [List.getElem?_zip_eq_some]
    refine ⟨by simpa using ho, ?_⟩
    have : t < (masks [] ops.toList).length := by rw [hlen]; simpa using hts
    simp [this]
  have := (pairB_sound _ 0 [] h j oj _ (hm j oj hj)).2 i oi _ hij (hm i oi hi)
  simp only [Nat.zero_add] at this
  rcases this with hb | ⟨hf, hc⟩
  · exact (hnd hb).elim
  · refine freeB_ind hq hins hf ?_
    rcases hc with hc | hc | hc
    · exact hc
    · rcases hk with hk | hk
      · exact hk
      · exact (hk.1 hc).elim
    · rcases hk with hk | hk
      · exact hk
      · exact (hk.2 hc).elim

theorem mask_dp {ops : Array Oper} {i j : Nat} (hb : ((masks [] ops.toList).getD j 0).testBit i = true) : Dp ops i j :=
  masks_sound ops.toList [] (by simp) (fun _ _ h => by simp at h) j i hb

theorem pairs_of {P : Program} {mp : Bool} {ops : Array Oper} {st : List Nat} {k : Option Nat} {Qp : Exit → Act → World → Prop} (hq : mp = false → ∀ ex a w, ¬ Qp ex a w)
    {oi : Oper} (hins : ∀ ex a w v, Qp ex (a.put oi.dst v) w → Qp ex a w) (h : pairB P mp ops st k 0 (ops.toList.zip (masks [] ops.toList)) [] = true) {i j : Nat} {oj : Oper} (hi : ops[i]? = some oi) (hj : ops[j]? = some oj) (hij : i < j) (hnd : ¬ Dp ops i j)
    (hk : ¬ (chS P st i oi = true ∧ chS P st j oj = true) ∨ (k ≠ some j ∧ k ≠ some anyK)) : Ind P ops st Qp i j oi oj ∧ (mp = false → Ind P ops st Qp j i oj oi) :=
  pairs_of0 hq hins h hi hj hij (fun hb => hnd (mask_dp hb)) hk

theorem beforeB_sub {i j : Nat} : ∀ {p : List Nat}, beforeB i j p = true → [i, j].Sublist p
  | [], h => by cases h
  | x :: r, h => by
    simp only [beforeB] at h
    cases hb : Nat.beq x i with
    | true =>
      rw [hb] at h
      obtain rfl := Nat.eq_of_beq_eq_true hb
      exact List.Sublist.cons_cons _ (List.singleton_sublist.2 ((hasN_iff r j).1 h))
    | false => rw [hb] at h; exact List.Sublist.cons _ (beforeB_sub h)

theorem okOps_mem {n : Nat} : ∀ {l : List Oper}, okOps n l = true → ∀ o ∈ l, ∀ t, o.dst = some t → t < n
  | [], _, _, h => by cases h
  | x :: l, h, o, ho => by
    obtain ⟨h1, h2⟩ := okOps_cons h
    rcases List.mem_cons.1 ho with rfl | ho
    · exact h1
    · exact okOps_mem h2 o ho

theorem noDefO_mem : ∀ {l : List Oper}, noDefO l = true → ∀ o ∈ l, noDefO [o] = true
  | [], _, _, h => by cases h
  | x :: l, h, o, ho => by
    obtain ⟨h1, h2⟩ := noDefO_cons h
    rcases List.mem_cons.1 ho with rfl | ho
    · exact h1
    · exact noDefO_mem h2 o ho

theorem pick_cons {ops : Array Oper} {i : Nat} {p : List Nat} {o : Oper} (h : ops[i]? = some o) : pickO ops.toList (i :: p) = (i, o) :: pickO ops.toList p := by
  have : nthO ops.toList i = some o := by rw [nthO_eq]; simpa using h
  simp [pickO, this]

theorem numb_pick (ops : Array Oper) : ∀ (l : List Oper) (k : Nat), (∀ j, l[j]? = ops[k + j]?) → numb k l = pickO ops.toList (List.range' k l.length)
  | [], _, _ => rfl
  | o :: l, k, h => by
    have ho : ops[k]? = some o := by simpa using (h 0).symm
    rw [List.length_cons, List.range'_succ, pick_cons ho]
    simp only [numb]
    rw [numb_pick ops l (k + 1) (fun j => by have := h (j + 1); simpa [Nat.add_assoc, Nat.add_comm 1 j] using this)]

section
variable {P : Program} {mp : Bool} {n : Nat} {w0 : World} {Q : Post} {ops : Array Oper} {a : Act} {D : Option (Hp → Prop)} {st : List Nat}

def ClassOf (D : Option (Hp → Prop)) (w : World) : Prop := ∀ C, D = some C → C w.heap
def PanOf (mp : Bool) (n : Nat) (w0 : World) (E : List Nat) (nd : Bool) (a : Act) (s0 : Slots) (Q : Post) : Exit → Act → World → Prop :=
  fun ex a' w' => mp = true ∧ ∃ c, ex = .panic c ∧ Rest w0 w' ∧ a'.tmps.size = n ∧ (∀ t, t ∉ E → a'.tmps[t]? = a.tmps[t]?) ∧ (nd = true → a'.defers = a.defers) ∧ Q (.panic c) ⟨keep s0 E, a'.defers⟩ w'.heap

theorem PanOf.ins {E : List Nat} {nd : Bool} {s0 : Slots} {ex : Exit} {a' : Act} {w' : World} {d : Option Nat} {v : Value} (hd : ∀ t, d = some t → t ∈ E) (h : PanOf mp n w0 E nd a s0 Q ex (a'.put d v) w') :
    PanOf mp n w0 E nd a s0 Q ex a' w' := by
  obtain ⟨hm, c, hc, h1, h2, h3, h4, h5⟩ := h
  refine ⟨hm, c, hc, h1, ?_, fun t ht => ?_, fun hh => ?_, ?_⟩
  · rw [← h2]; cases d <;> simp [Act.put]
  · rw [← h3 t ht]; exact (put_frame fun s hs e => ht (by rw [e]; exact hd s hs)).symm
  · rw [← h4 hh]; exact (put_defers _ _ _).symm
  · rwa [put_defers] at h5

theorem PanOf.up {E : List Nat} {nd : Bool} {e0 : Env} {ex : Exit} {a' : Act} {w' : World} (hr : Rep n e0 a) (h : PanOf mp n w0 E nd a e0.s Q ex a' w') : Up n w0 E nd a Q ex a' w' := by
  obtain ⟨hm, c, rfl, h1, h2, h3, h4, h5⟩ := h
  refine ⟨h1, h3, h4, _, ⟨h2, rfl, fun t x hx => ?_⟩, h5⟩
  obtain ⟨k1, k2⟩ := look_keep _ _ _ _ hx
  rw [h3 t k2]
  exact hr.slots t x k1

theorem readV_sound {P : Program} {n : Nat} {C : Option (Hp → Prop)} {o : Oper} {e : Env} {a : Act} {K : SV → Prop} (hr : Rep n e a) (h : readV P C o e K) :
    ∃ u : Value, (∀ w : World, clsW C w → yields P o a w u) ∧ K (.v u) := by
  unfold readV at h
  split at h
  · rename_i s d x ho
    obtain ⟨v, hv, h⟩ := ev_sound hr h
    obtain ⟨u, hu, hK⟩ := shaped_sound h
    exact ⟨u, fun w hw => by simp [yields, execOp, ho, hv, hu w hw], hK⟩
  · rename_i t x i k ho
    obtain ⟨v, hv, h⟩ := ev_sound hr h
    obtain ⟨v2, hv2, h⟩ := ev_sound hr h
    obtain ⟨u, hu, hK⟩ := shaped_sound h
    exact ⟨u, fun w hw => by simp [yields, execOp, ho, hv, hv2, hu w hw], hK⟩
  · rename_i args ats ho
    obtain ⟨xs, hxs, h⟩ := evs_sound hr h
    obtain ⟨u, hu, hK⟩ := shaped_sound h
    refine ⟨u, fun w hw => ?_, hK⟩
    have hx : execOp a.eval o = (do pure (.value (← Builtin.len_ ats o.type xs.toArray)) : Sem Next) := by
      subst hxs
      simp only [execOp, ho, resolve, ← Array.toList_map, Array.toArray_toList]
      rfl
    unfold yields
    rw [hx]
    simp [hu w hw]
  · exact h.elim

set_option maxHeartbeats 800000 in
theorem lexL_of {Q1 : Post} {E : List Nat} {s0 : Slots} (hP : Fine P) (hok : okOps n ops.toList = true) (hst : ∀ i, st.contains i = true → D.isSome = true) (hQ : ∀ c e h, Q1 (.panic c) e h → Q (.panic c) ⟨keep s0 E, e.d⟩ h) : ∀ (p : List Nat) (e1 : Env) (a1 : Act) (w1 : World), (∀ i ∈ p, i < ops.size ∧ ∀ o d, ops[i]? = some o → o.dst = some d → d ∈ E) →
    Rep n e1 a1 → Rest w0 w1 → ClassOf D w1 → (∀ t, t ∉ E → a1.tmps[t]? = a.tmps[t]?) → (noDefO ops.toList = true → a1.defers = a.defers) →
    rv P mp D st ops.toList Q1 (pickO ops.toList p) e1 w1.heap → lexL P ops (ClassOf D) st (PanOf mp n w0 E (noDefO ops.toList) a s0 Q) (Up n w0 E (noDefO ops.toList) a Q1) p a1 w1
  | [], e1, a1, w1, _, hr1, hw1, _, hf, hd, h => ⟨hw1, hf, hd, e1, hr1, h⟩
  | k :: p, e1, a1, w1, hlt, hr1, hw1, hC1, hf, hd, h => by
    have hks : k < ops.size := (hlt k (by simp)).1
    obtain ⟨o, hk⟩ : ∃ o, ops[k]? = some o := ⟨_, Array.getElem?_eq_getElem hks⟩
    have hmo : o ∈ ops.toList := by simpa using Array.mem_of_getElem? hk
    have hdst := okOps_mem hok o hmo
    have hmem : ∀ t, t ∉ E → ∀ s, o.dst = some s → t ≠ s := fun t ht s hs e => ht (by rw [e]; exact (hlt k (by simp)).2 o s hk hs)
    have hnext := fun e1 a1 w1 => lexL_of (Q1 := Q1) (E := E) (s0 := s0) hP hok hst hQ p e1 a1 w1 (fun i hi => hlt i (by simp [hi]))
    rw [pick_cons hk] at h
    have hv1 : guardV ops.toList o e1 (fun e2 => match o.op with
        | .defer { callee := .value x, args, .. } => ev e2 x fun x => pv.evs e2 args.toList fun xs =>
            match x.val with
            | .func f fst cap => rv P mp D st ops.toList Q1 (pickO ops.toList p) (Env.put ⟨e2.s, { target := .fn f cap, args := (fst.toList ++ xs).toArray } :: e2.d⟩ o.dst (.v undef)) w1.heap
            | _ => False
        | _ => cond (st.contains k && readO P o) (readV P D o e2 fun x => rv P mp D st ops.toList Q1 (pickO ops.toList p) (e2.put o.dst x) w1.heap)
          (ov P mp o e2 w1.heap (cond (st.contains k) (rdOf D w1.heap) (cellsAt w1.heap))
          (fun x h' => withO P D o h' (rv P mp D st ops.toList Q1 (pickO ops.toList p) (e2.put o.dst x) h'))
          (fun c h' => Q1 (.panic c) e2 h')))
        (fun e2 => rv P mp D st ops.toList Q1 (pickO ops.toList p) (e2.put o.dst (.v undef)) w1.heap) := h
    obtain ⟨e2, hr2, hc⟩ := guardV_sound hr1 hv1
    show qC P ops (ClassOf D) st (PanOf mp n w0 E (noDefO ops.toList) a s0 Q) k _ a1 w1
    unfold qC
    simp only [hk]
    rcases hc with ⟨hwant, hc⟩ | ⟨hwant, hc⟩
    · rw [if_pos hwant]
      by_cases hcs : chS P st k o = true
      · rw [if_pos hcs]
        obtain ⟨hch, hcr⟩ : chainO P o = true ∧ (st.contains k && readO P o) = false := by
          unfold chS at hcs
          simp only [Bool.and_eq_true, Bool.not_eq_true'] at hcs
          exact hcs
        rw [hcr] at hc
        have hnl : isLoadO o = false := by
          cases hl : isLoadO o with
          | false => rfl
          | true => unfold isLoadO at hl; unfold chainO at hch; split at hl <;> simp_all
        have hst' : stepV P mp o e2 w1.heap (cellsAt w1.heap) (fun e3 h3 => withO P D o h3 (rv P mp D st ops.toList Q1 (pickO ops.toList p) e3 h3))
            (fun c h' => mp = true ∧ Q1 (.panic c) e2 h') := by
          unfold stepV
          split at hc
          · rename_i ho
            simp only [ho]
            refine ev_imp hc fun _ hx => evs_imp hx fun _ h2 => ?_
            split at h2
            · rename_i hf
              simp only [hf]
              cases D with
              | none => exact h2
              | some D' => simp only [withO, hch]; exact ⟨hC1 D' rfl, h2⟩
            · exact h2.elim
          · rename_i hno
            split
            · rename_i ho
              exact (hno _ _ _ ho).elim
            · exact ov_mono (ov_rd hnl hc)
        refine Oper.wp_mono' ?_ ?_ (stepV_sound hP hdst hr2 hw1 hst')
        · rintro a' w' ⟨hrest, hfr, hdd, e3, hr3, hv2⟩
          have hC3 : ClassOf D w' := by
            intro C hD
            subst hD
            simp only [withO, hch] at hv2
            exact hv2.1
          have hv3 : rv P mp D st ops.toList Q1 (pickO ops.toList p) e3 w'.heap := by
            cases D with
            | none => exact hv2
            | some D' => simp only [withO, hch] at hv2; exact hv2.2
          exact ⟨hC3, hnext e3 a' w' hr3 hrest hC3 (fun t ht => (hfr t (hmem t ht)).trans (hf t ht)) (fun h => (hdd (noDefO_mem h o hmo)).trans (hd h)) hv3⟩
        · rintro ex a' w' ⟨c, rfl, rfl, hrest, hm, hq⟩
          exact ⟨hm, c, rfl, hrest, hr2.size, hf, hd, by rw [hr2.defers]; exact hQ c e2 _ hq⟩
      · rw [if_neg hcs]
        by_cases hrd : (st.contains k && readO P o) = true
        · have hro : readO P o = true := by simp only [Bool.and_eq_true] at hrd; exact hrd.2
          have hks2 : st.contains k = true := by simp only [Bool.and_eq_true] at hrd; exact hrd.1
          have hmem2 : k ∈ st := by simpa using hks2
          have hrv : readV P D o e2 fun x => rv P mp D st ops.toList Q1 (pickO ops.toList p) (e2.put o.dst x) w1.heap := by
            rw [hrd] at hc
            split at hc
            · rename_i ho; simp [readO, ho] at hro
            · exact hc
          obtain ⟨u, hrun, hK⟩ := readV_sound hr2 hrv
          refine ⟨u, fun w' hkn => ?_, hnext _ _ w1 (hr2.put (x := .v u) hdst) hw1 hC1 (fun t ht => (put_frame (hmem t ht)).trans (hf t ht)) (fun h => (put_defers _ _ _).trans (hd h)) hK⟩
          unfold knows at hkn
          rw [if_pos (by simp [memO, hro]), if_pos hmem2] at hkn
          exact hrun w' (by
            cases D with
            | none => trivial
            | some D' => exact hkn D' rfl)
        have hrd' : (st.contains k && readO P o) = false := by simpa using hrd
        have hch' : chainO P o = false := by
          unfold chS at hcs
          rw [hrd'] at hcs
          simpa using hcs
        have hch : ¬ chainO P o = true := by rw [hch']; simp
        rw [hrd'] at hc
        have hov : ov P mp o e2 w1.heap (cond (st.contains k) (rdOf D w1.heap) (cellsAt w1.heap))
            (fun x h' => withO P D o h' (rv P mp D st ops.toList Q1 (pickO ops.toList p) (e2.put o.dst x) h'))
            (fun c h' => Q1 (.panic c) e2 h') := by
          split at hc
          · rename_i ho; simp [chainO, ho] at hch
          · exact hc
        have fin : ∀ x : SV, withO P D o w1.heap (rv P mp D st ops.toList Q1 (pickO ops.toList p) (e2.put o.dst x) w1.heap) →
            lexL P ops (ClassOf D) st (PanOf mp n w0 E (noDefO ops.toList) a s0 Q) (Up n w0 E (noDefO ops.toList) a Q1) p (a1.put o.dst x.val) w1 := by
          intro x hx
          have hx' : rv P mp D st ops.toList Q1 (pickO ops.toList p) (e2.put o.dst x) w1.heap := by
            cases D with
            | none => exact hx
            | some D' => simp only [withO, hch'] at hx; exact hx
          exact hnext _ _ w1 (hr2.put hdst) hw1 hC1 (fun t ht => (put_frame (hmem t ht)).trans (hf t ht)) (fun h => (put_defers _ _ _).trans (hd h)) hx'
        cases hl : isLoadO o with
        | false =>
          obtain ⟨x, hrun, hK⟩ := pv_sound hr2 (ov_pure hch' hl hov)
          exact ⟨x.val, fun w' _ => hrun w', fin x hK⟩
        | true =>
          unfold isLoadO at hl
          split at hl
          · rename_i t y ho
            unfold ov at hov
            simp only [ho] at hov
            obtain ⟨v, hv, hov⟩ := ev_sound hr2 hov
            obtain ⟨b, i, hp, hov⟩ := asPtr_sound hov
            obtain ⟨vs, x, hrd, hK, hrun⟩ := loadV_sound hov
            refine ⟨x.val, fun w' hkn => ?_, fin x hK⟩
            have hcell : cellsAt w'.heap b i vs := by
              unfold knows at hkn
              rw [if_pos (by simp [memO, isLoadO, ho])] at hkn
              cases hm : st.contains k with
              | true =>
                rw [if_pos (by simpa using hm)] at hkn
                rw [hm] at hrd
                have := hst k hm
                cases D with
                | none => cases this
                | some D' => exact hrd _ (hkn D' rfl)
              | false =>
                rw [if_neg (by simpa using hm)] at hkn
                rw [hm] at hrd
                rw [hkn]; exact hrd
            unfold yields
            simp [execOp, ho, hv, hp, hrun w' hcell]
          · cases hl
    · rw [if_neg (by rw [hwant]; simp)]
      exact hnext _ _ w1 (hr2.put hdst) hw1 hC1 (fun t ht => (put_frame (hmem t ht)).trans (hf t ht)) (fun h => (put_defers _ _ _).trans (hd h)) hc

end

theorem mem_butLast : ∀ {l : List Oper} {i : Nat} {o : Oper}, i + 1 < l.length → l[i]? = some o → o ∈ butLast l
  | [], _, _, h, _ => by simp at h
  | [_], _, _, h, _ => by simp at h
  | x :: y :: r, 0, o, _, h => by simp at h; subst h; simp [butLast]
  | x :: y :: r, i + 1, o, hl, h => by
    have := mem_butLast (l := y :: r) (i := i) (o := o) (by simpa using hl) (by simpa using h)
    simp [butLast, this]

theorem butLast_mem : ∀ {l : List Oper} {o : Oper}, o ∈ butLast l → o ∈ l
  | [], _, h => by simp [butLast] at h
  | [_], _, h => by simp [butLast] at h
  | x :: y :: r, o, h => by
    rw [butLast] at h
    · rcases List.mem_cons.1 h with rfl | h
      · simp
      · exact List.mem_cons_of_mem _ (butLast_mem h)
    · simp

theorem sublist_range {m : Nat} {x y : Nat} (h : [x, y].Sublist (List.range m)) : x < y := by
  have := List.Pairwise.sublist h List.pairwise_lt_range
  simpa using this

theorem not_two {l : List Nat} (hn : l.Nodup) {x y : Nat} (h1 : [x, y].Sublist l) (h2 : [y, x].Sublist l) : False := by
  induction l with
  | nil => cases h1
  | cons z l ih =>
    obtain ⟨hz, hn'⟩ := List.nodup_cons.1 hn
    cases h1 with
    | cons _ h1 =>
      cases h2 with
      | cons _ h2 => exact ih hn' h1 h2
      | cons_cons _ h2 =>
        have : y ∈ l := h1.subset (by simp)
        exact hz this
    | cons_cons _ h1 =>
      cases h2 with
      | cons _ h2 =>
        have : x ∈ l := h2.subset (by simp)
        exact hz this
      | cons_cons _ h2 =>
        have : x ∈ l := List.singleton_sublist.1 h2
        exact hz this

theorem two_trans {l : List Nat} (hn : l.Nodup) {x y z : Nat} (h1 : [x, y].Sublist l) (h2 : [y, z].Sublist l) : [x, z].Sublist l := by
  induction l with
  | nil => cases h1
  | cons u l ih =>
    obtain ⟨hu, hn'⟩ := List.nodup_cons.1 hn
    cases h1 with
    | cons _ h1 =>
      cases h2 with
      | cons _ h2 => exact List.Sublist.cons _ (ih hn' h1 h2)
      | cons_cons _ h2 => exact (hu (h1.subset (by simp))).elim
    | cons_cons _ h1 =>
      cases h2 with
      | cons _ h2 => exact List.Sublist.cons_cons _ (List.singleton_sublist.2 (h2.subset (by simp)))
      | cons_cons _ h2 => exact (hu (List.singleton_sublist.1 h1)).elim

theorem two_of {l : List Nat} {x y : Nat} (hx : x ∈ l) (hy : y ∈ l) (hne : x ≠ y) : [x, y].Sublist l ∨ [y, x].Sublist l := by
  induction l with
  | nil => cases hx
  | cons z l ih =>
    rcases List.mem_cons.1 hx with rfl | hx'
    · rcases List.mem_cons.1 hy with rfl | hy'
      · exact (hne rfl).elim
      · exact .inl (List.Sublist.cons_cons _ (List.singleton_sublist.2 hy'))
    · rcases List.mem_cons.1 hy with rfl | hy'
      · exact .inr (List.Sublist.cons_cons _ (List.singleton_sublist.2 hx'))
      · rcases ih hx' hy' with h | h
        · exact .inl (List.Sublist.cons _ h)
        · exact .inr (List.Sublist.cons _ h)

def movedTo (m k c : Nat) : List Nat := List.range c ++ k :: ((List.range' c (m - c)).filter fun i => !(Nat.beq i k))

theorem moved_pair {m k c x y : Nat} (hc : c ≤ k) (h : [x, y].Sublist (movedTo m k c)) : (x = k ∧ c ≤ y ∧ y ≠ k) ∨ (y = k ∧ x < c) ∨ (x < y ∧ x ≠ k ∧ y ≠ k) := by
  have key : (movedTo m k c).Pairwise (fun x y => (x = k ∧ c ≤ y ∧ y ≠ k) ∨ (y = k ∧ x < c) ∨ (x < y ∧ x ≠ k ∧ y ≠ k)) := by
    unfold movedTo
    refine List.pairwise_append.2 ⟨?_, List.pairwise_cons.2 ⟨?_, ?_⟩, ?_⟩
    · refine List.Pairwise.imp_of_mem ?_ List.pairwise_lt_range
      intro a b ha hb hab
      have := List.mem_range.1 ha
      have := List.mem_range.1 hb
      exact .inr (.inr ⟨hab, by omega, by omega⟩)
    · intro b hb
      simp only [List.mem_filter, List.mem_range'_1] at hb
      refine .inl ⟨rfl, hb.1.1, fun e => ?_⟩
      rw [e] at hb
      simp at hb
    · refine List.Pairwise.imp_of_mem ?_ (List.Pairwise.filter _ (List.pairwise_lt_range' ))
      intro a b ha hb hab
      have h1 := (List.mem_filter.1 ha).2
      have h2 := (List.mem_filter.1 hb).2
      exact .inr (.inr ⟨hab, fun e => by rw [e] at h1; simp at h1, fun e => by rw [e] at h2; simp at h2⟩)
    · intro a ha b hb
      have h1 := List.mem_range.1 ha
      rcases List.mem_cons.1 hb with rfl | hb
      · exact .inr (.inl ⟨rfl, h1⟩)
      · simp only [List.mem_filter, List.mem_range'_1] at hb
        refine .inr (.inr ⟨by omega, by omega, fun e => ?_⟩)
        rw [e] at hb
        simp at hb
  have := List.Pairwise.sublist h key
  simpa using this

theorem moved_perm {m k c : Nat} (hc : c ≤ k) (hk : k < m) : (movedTo m k c).Perm (List.range m) := by
  refine (List.perm_ext_iff_of_nodup ?_ List.nodup_range).2 fun i => ?_
  · have key : (movedTo m k c).Pairwise (fun x y => x ≠ y) := by
      refine List.Pairwise.imp (R := fun x y => (x = k ∧ c ≤ y ∧ y ≠ k) ∨ (y = k ∧ x < c) ∨ (x < y ∧ x ≠ k ∧ y ≠ k)) ?_ ?_
      · intro a b h e
        subst e
        rcases h with ⟨h1, _, h2⟩ | ⟨h1, h2⟩ | ⟨h1, _⟩
        · exact h2 h1
        · omega
        · omega
      · exact (List.pairwise_iff_forall_sublist).2 fun {a b} h => moved_pair hc h
    exact key
  · unfold movedTo
    simp only [List.mem_append, List.mem_cons, List.mem_filter, List.mem_range'_1, List.mem_range]
    constructor
    · rintro (h | h | ⟨h, _⟩)
      · omega
      · omega
      · omega
    · intro h
      by_cases h1 : i < c
      · exact .inl h1
      · by_cases h2 : i = k
        · exact .inr (.inl h2)
        · refine .inr (.inr ⟨by omega, ?_⟩)
          cases hb : Nat.beq i k with
          | true => exact (h2 (Nat.eq_of_beq_eq_true hb)).elim
          | false => rfl

theorem cover_sound {ops : Array Oper} {n : Nat} {l : List Nat} (hn : l.Nodup) (hdep : ∀ x y, [y, x].Sublist l → ¬ Dp ops x y) : ∀ (X S : List (Nat × Nat)) (ps : List (List Nat)), coverB (masks [] ops.toList) n X S ps = true →
    (∀ x ∈ S, [x.1, x.2].Sublist l) → (∀ x ∈ X, x.1 ∈ l ∧ x.2 ∈ l ∧ x.1 ≠ x.2) →
    ∃ p ∈ ps, permB (masks [] ops.toList) n p = true ∧ ∀ x ∈ X, ([x.1, x.2].Sublist l ∧ beforeB x.1 x.2 p = true) ∨ ([x.2, x.1].Sublist l ∧ beforeB x.2 x.1 p = true)
  | [], S, ps, h, hS, _ => by
    simp only [coverB, Bool.or_eq_true] at h
    rcases h with h | h
    · cases ps with
      | nil => cases h
      | cons p ps => exact ⟨p, by simp, h, by simp⟩
    · exfalso
      obtain ⟨x, hx, h⟩ := List.any_eq_true.1 h
      obtain ⟨y, hy, h⟩ := List.any_eq_true.1 h
      simp only [Bool.and_eq_true, Bool.or_eq_true] at h
      obtain ⟨hxy, h⟩ := h
      have e1 := Nat.eq_of_beq_eq_true hxy
      have h1 := hS x hx
      have h2 := hS y hy
      rw [← e1] at h2
      have h3 := two_trans hn h1 h2
      rcases h with h | h
      · obtain ⟨z, hz, h⟩ := List.any_eq_true.1 h
        simp only [Bool.and_eq_true] at h
        have h4 := hS z hz
        rw [Nat.eq_of_beq_eq_true h.1, Nat.eq_of_beq_eq_true h.2] at h4
        exact not_two hn h3 h4
      · exact hdep _ _ h3 (mask_dp h)
  | x :: X, S, ps, h, hS, hX => by
    simp only [coverB, Bool.and_eq_true] at h
    obtain ⟨h1, h2⟩ := h
    obtain ⟨a1, a2, a3⟩ := hX x (by simp)
    rcases two_of a1 a2 a3 with hl | hl
    · obtain ⟨p, hp, hb, hr⟩ := cover_sound hn hdep X (x :: S) _ h1 (fun y hy => by rcases List.mem_cons.1 hy with rfl | hy; exact hl; exact hS y hy) (fun y hy => hX y (by simp [hy]))
      obtain ⟨hp1, hp2⟩ := List.mem_filter.1 hp
      exact ⟨p, hp1, hb, fun y hy => by rcases List.mem_cons.1 hy with rfl | hy; exact .inl ⟨hl, hp2⟩; exact hr y hy⟩
    · obtain ⟨p, hp, hb, hr⟩ := cover_sound hn hdep X ((x.2, x.1) :: S) _ h2 (fun y hy => by rcases List.mem_cons.1 hy with rfl | hy; exact hl; exact hS y hy) (fun y hy => hX y (by simp [hy]))
      obtain ⟨hp1, hp2⟩ := List.mem_filter.1 hp
      exact ⟨p, hp1, hb, fun y hy => by rcases List.mem_cons.1 hy with rfl | hy; exact .inr ⟨hl, hp2⟩; exact hr y hy⟩

theorem mem_confs {P : Program} {st : List Nat} {m : List Nat} {l : List Oper} {i j : Nat} : (i, j) ∈ confs P st m l ↔ ∃ oi oj, (i, oi) ∈ numb 0 l ∧ (j, oj) ∈ numb 0 l ∧ i < j ∧ chS P st i oi = true ∧ chS P st j oj = true ∧ (m.getD j 0).testBit i ≠ true := by
  unfold confs
  simp only [List.mem_flatMap, List.mem_map, List.mem_filter, Bool.and_eq_true, Prod.mk.injEq, Prod.exists, Bool.not_eq_true']
  constructor
  · rintro ⟨j', oj, hj, i', oi, ⟨hi, h1, h2, h3, h4⟩, rfl, rfl⟩
    exact ⟨oi, oj, hi, hj, by simpa using h1, h2, h3, by rw [h4]; simp⟩
  · rintro ⟨oi, oj, hi, hj, h1, h2, h3, h4⟩
    exact ⟨j, oj, hj, i, oi, ⟨hi, by simpa using h1, h2, h3, by simpa using h4⟩, rfl, rfl⟩

theorem numb_mem' : ∀ (l : List Oper) (k i : Nat) (o : Oper), l[i]? = some o → (k + i, o) ∈ numb k l
  | [], _, _, _, h => by simp at h
  | x :: l, k, 0, o, h => by simp at h; subst h; simp [numb]
  | x :: l, k, i + 1, o, h => by
    have := numb_mem' l (k + 1) i o (by simpa using h)
    rw [show k + 1 + i = k + (i + 1) from by omega] at this
    simp [numb, this]

theorem numb_get : ∀ (l : List Oper) (k i : Nat) (o : Oper), (i, o) ∈ numb k l → k ≤ i ∧ l[i - k]? = some o
  | [], _, _, _, h => by simp [numb] at h
  | x :: l, k, i, o, h => by
    simp only [numb, List.mem_cons, Prod.mk.injEq] at h
    rcases h with ⟨rfl, rfl⟩ | h
    · simp
    · obtain ⟨h1, h2⟩ := numb_get l (k + 1) i o h
      refine ⟨by omega, ?_⟩
      rw [show i - k = (i - (k + 1)) + 1 by omega]
      simpa using h2

theorem drawOk {P : Program} {nd : Bool} {W : Code → (Exit → Act → World → Prop) → Act → World → Prop} (RR : Reads P nd W) (hP : Fine P) (mp : Bool) : DrawOk P nd W mp (okDraw P mp) := by
  intro n w0 Q id ops st k e a w hnd hok hdr hr hw hv
  unfold okDraw at hdr
  simp only [Array.toArray_toList, Bool.and_eq_true] at hdr
  obtain ⟨⟨⟨hsel, hord⟩, hpair⟩, hk⟩ := hdr
  have hsel' := Region.noSelect_spec hsel
  have hord' : ∀ j oj, ops[j]? = some oj → ∀ e ∈ oj.after, Region.binds .any e = true → e.on < j := by
    intro j oj hj e' he hb
    have hmem : (j, oj) ∈ numb 0 ops.toList := by
      have : ∀ (l : List Oper) (k i : Nat) (o : Oper), l[i]? = some o → (k + i, o) ∈ numb k l := by
        intro l
        induction l with
        | nil => intro k i o h; simp at h
        | cons x l ih =>
          intro k i o h
          cases i with
          | zero => simp at h; subst h; simp [numb]
          | succ i =>
            have := ih (k + 1) i o (by simpa using h)
            rw [show k + 1 + i = k + (i + 1) from by omega] at this
            simp [numb, this]
      simpa using this ops.toList 0 j oj (by simpa using hj)
    have := List.all_eq_true.1 hord _ hmem
    have := Array.all_eq_true_iff_forall_mem.1 this e' he
    simp only [hb, Bool.not_true, Bool.false_or] at this
    simpa using this
  refine RR.draw (fun h => ⟨(hnd h).1, Up.out (hnd h).2⟩) fun t => ?_
  simp only [Region.schedule, hP.mixed, Bool.true_or, if_true]
  obtain ⟨l, hl, htopo, hend⟩ := lin_topo ops ops.size t (Array.replicate ops.size false)
  show wpOps P ops _ (Region.linearise.go .any ops ops.size t (Array.replicate ops.size false) []) a _
  rw [hl]
  have hperm := topo_all hord' htopo hend
  have hnd := topo_nodup htopo
  have hclosed : Closed ops (Array.replicate ops.size false) := by
    intro j oj hj h
    have hjs : j < ops.size := (Array.getElem?_eq_some_iff.1 hj).1
    simp [hjs] at h
  have hdep : ∀ x y, [y, x].Sublist l → ¬ Dp ops x y := fun x y => topo_dep htopo hclosed x y
  have hlt : ∀ x ∈ List.range ops.size, x < ops.size := fun x hx => List.mem_range.1 hx
  have hrange : ∀ D : Option (Hp → Prop), rv P mp D (st.getD []) ops.toList (keepP e ops.toList Q) (numb 0 ops.toList) e w.heap → rv P mp D (st.getD []) ops.toList (keepP e ops.toList Q) (pickO ops.toList (List.range ops.size)) e w.heap := by
    intro D h
    rw [numb_pick ops ops.toList 0 (by simp)] at h
    simpa [List.range_eq_range'] using h
  have hnp : mp = false → ∀ ex a' w', ¬ PanOf mp n w0 (dstsO ops.toList) (noDefO ops.toList) a e.s Q ex a' w' := fun hm ex a' w' h => by rw [hm] at h; cases h.1
  have hmd : ∀ (i : Nat) (o : Oper) (d : Nat), ops[i]? = some o → o.dst = some d → d ∈ dstsO ops.toList := fun i o d ho hd => mem_dstsO (by simpa using Array.mem_of_getElem? ho) hd
  have hins : ∀ (i : Nat) (o : Oper), ops[i]? = some o → ∀ ex a' w' v, PanOf mp n w0 (dstsO ops.toList) (noDefO ops.toList) a e.s Q ex (a'.put o.dst v) w' → PanOf mp n w0 (dstsO ops.toList) (noDefO ops.toList) a e.s Q ex a' w' :=
    fun i o ho ex a' w' v h => h.ins fun t ht => hmd i o t ho ht
  -- one order that serves
  have fin : ∀ (D : Option (Hp → Prop)) (p : List Nat), (∀ i, (st.getD []).contains i = true → D.isSome = true) → (∀ C, D = some C → C w.heap) → l.Perm p → (∀ x ∈ p, x < ops.size) →
      (∀ x y, [x, y].Sublist p → [y, x].Sublist l → IndN P ops (st.getD []) (PanOf mp n w0 (dstsO ops.toList) (noDefO ops.toList) a e.s Q) x y) → rv P mp D (st.getD []) ops.toList (keepP e ops.toList Q) (pickO ops.toList p) e w.heap →
      wpOps P ops (Up n w0 (dstsO ops.toList) (noDefO ops.toList) a Q) l a { w with drawn := w.drawn + 1 } := by
    intro D p hst hC hp hplt hd h
    have hlex := lexL_of (Q := Q) (Q1 := keepP e ops.toList Q) (E := dstsO ops.toList) (s0 := e.s) (a := a) (w1 := { w with drawn := w.drawn + 1 }) hP hok hst (fun _ _ _ h => h) p e a (fun i hi => ⟨hplt i hi, hmd i⟩) hr (hw.trans ⟨rfl, rfl, rfl⟩) hC (fun _ _ => rfl) (fun _ => rfl) h
    have hall := wpOps_of_lexL2 (C := ClassOf D) (st := st.getD []) (Qp := PanOf mp n w0 (dstsO ops.toList) (noDefO ops.toList) a e.s Q) (Qb := Up n w0 (dstsO ops.toList) (noDefO ops.toList) a Q) (l2 := []) (fun ex a' w' h => h.up hr)
      (fun a' w' h => Up.kept hr h) l a { w with drawn := w.drawn + 1 } hC (lexL_perm hsel' p l a _ hC hp hplt hd hlex)
    simpa using hall
  cases k with
  | none =>
    obtain ⟨C, hC, h⟩ := hv
    refine fin (st.map fun _ => C) (List.range ops.size) ?_ ?_ hperm hlt ?_ (hrange _ h)
    · intro i hi; cases st with
      | none => simp at hi
      | some s => rfl
    · intro C' hC'; cases st with
      | none => cases hC'
      | some s => cases hC'; exact hC rfl
    · intro x y h1 h2 ox oy hox hoy
      exact (pairs_of hnp (hins _ _ hox) hpair hox hoy (sublist_range h1) (hdep x y h2) (.inr (by simp))).1
  | some kp =>
    obtain ⟨k, ps⟩ := kp
    cases ps with
    | nil =>
      simp only [Bool.and_eq_true] at hk
      obtain ⟨⟨hk0, hpos⟩, hall⟩ := hk
      have hk0' : k = 0 := Nat.eq_of_beq_eq_true hk0
      subst hk0'
      have hpos' : 0 < ops.size := by simpa using hpos
      have hdl : ∀ i, i < ops.size - 1 → Dp ops i (ops.size - 1) := fun i hi =>
        masks_sound ops.toList [] (by simp) (fun _ _ h => by simp at h) _ i (by have := List.all_eq_true.1 hall i (List.mem_range.2 (by simpa using hi)); simpa using this)
      -- the last one is met last
      have hml : ops.size - 1 ∈ l := hperm.mem_iff.2 (List.mem_range.2 (by omega))
      obtain ⟨l1, l2, hl12⟩ := List.append_of_mem hml
      have hl2 : l2 = [] := by
        cases l2 with
        | nil => rfl
        | cons y l2 =>
          exfalso
          have hyl : y ∈ l := by rw [hl12]; simp
          have hyn : y < ops.size := List.mem_range.1 (hperm.mem_iff.1 hyl)
          have hne : y ≠ ops.size - 1 := by
            intro e
            rw [hl12] at hnd
            have := (List.nodup_append.1 hnd).2.1
            simp [e] at this
          refine hdep y (ops.size - 1) ?_ (hdl y (by omega))
          rw [hl12]
          exact List.Sublist.trans (List.Sublist.cons_cons _ (List.singleton_sublist.2 (by simp))) (List.sublist_append_right l1 _)
      subst hl2
      subst hl12
      have hr1 : List.range ops.size = List.range (ops.size - 1) ++ [ops.size - 1] := by
        conv => lhs; rw [show ops.size = (ops.size - 1) + 1 by omega]
        rw [List.range_succ]
      have hp1 : l1.Perm (List.range (ops.size - 1)) := by
        have := hperm
        rw [hr1] at this
        exact (List.perm_append_right_iff _).1 this
      obtain ⟨C, hC, h⟩ := hv
      have hlt1 : ∀ x ∈ List.range (ops.size - 1), x < ops.size := fun x hx => by have := List.mem_range.1 hx; omega
      have hmd1 : ∀ (i : Nat) (o : Oper) (d : Nat), i < ops.size - 1 → ops[i]? = some o → o.dst = some d → d ∈ dstsO (butLast ops.toList) := fun i o d hi ho hd => mem_dstsO (mem_butLast (i := i) (by simp; omega) (by simpa using ho)) hd
      generalize hQ2 : (fun (ex : Exit) (e' : Env) (h' : Hp) => (match ex with
        | .normal => rv P mp none [] ops.toList (keepP e ops.toList Q) (pickO ops.toList [ops.toList.length - 1]) e' h'
        | ex => keepP e (butLast ops.toList) Q ex e' h' : Prop)) = Q2 at h
      have hnp2 : mp = false → ∀ ex a' w', ¬ PanOf mp n w0 (dstsO (butLast ops.toList)) (noDefO ops.toList) a e.s Q ex a' w' := fun hm ex a' w' h => by rw [hm] at h; cases h.1
      have hlex := lexL_of (Q := Q) (Q1 := Q2) (E := dstsO (butLast ops.toList)) (s0 := e.s) (a := a) (w1 := { w with drawn := w.drawn + 1 }) (D := some C) (st := st.getD []) hP hok (fun _ _ => rfl) (fun c e' h' hh => by rw [← hQ2] at hh; exact hh) (List.range (ops.size - 1)) e a (fun i hi => ⟨hlt1 i hi, fun o d => hmd1 i o d (List.mem_range.1 hi)⟩) hr (hw.trans ⟨rfl, rfl, rfl⟩) (fun C' e => by cases e; exact hC) (fun _ _ => rfl) (fun _ => rfl)
        (by simpa using h)
      have hlex1 := lexL_perm hsel' (List.range (ops.size - 1)) l1 a _ (fun C' (e : some C = some C') => by cases e; exact hC) hp1 hlt1 (fun x y h1 h2 ox oy hox hoy =>
        (pairs_of hnp2 (fun ex a' w' v h => h.ins fun t ht => hmd1 x ox t (List.mem_range.1 (h1.subset (by simp))) hox ht) hpair hox hoy (sublist_range h1) (hdep x y (List.Sublist.trans h2 (List.sublist_append_left _ _))) (.inr (by
          have := sublist_range h1
          refine ⟨by simp; omega, by simp [anyK]⟩))).1) hlex
      refine wpOps_of_lexL2 (C := ClassOf (some C)) (st := st.getD []) (Qp := PanOf mp n w0 (dstsO (butLast ops.toList)) (noDefO ops.toList) a e.s Q) ?_ ?_ l1 a _ (fun C' (e : some C = some C') => by cases e; exact hC) hlex1
      · intro ex a' w' hpan
        refine (hpan.up hr).mono (fun t ht => ?_) (fun h => h) (fun _ _ h => h)
        obtain ⟨o, ho, hd⟩ := List.mem_filterMap.1 ht
        exact mem_dstsO (butLast_mem ho) hd
      · rintro a' w' ⟨hrest, hfr, hdf, e', hr', hq'⟩
        rw [← hQ2] at hq'
        have hq2 : rv P mp none [] ops.toList (keepP e ops.toList Q) (pickO ops.toList [ops.size - 1]) e' w'.heap := by simpa using hq'
        have hfr2 : ∀ t, t ∉ dstsO ops.toList → a'.tmps[t]? = a.tmps[t]? := fun t ht => hfr t fun hm => by
          obtain ⟨o, ho, hd⟩ := List.mem_filterMap.1 hm
          exact ht (mem_dstsO (butLast_mem ho) hd)
        have hlex2 := lexL_of (Q := Q) (Q1 := keepP e ops.toList Q) (E := dstsO ops.toList) (s0 := e.s) (a := a) (w1 := w') (D := none) (st := []) hP hok (fun i hi => by simp at hi) (fun _ _ _ h => h) [ops.size - 1] e' a' (fun i hi => ⟨by simp at hi; omega, hmd i⟩) hr' hrest (fun C' e => by cases e) hfr2 hdf hq2
        have hall := wpOps_of_lexL2 (C := ClassOf none) (st := []) (Qp := PanOf mp n w0 (dstsO ops.toList) (noDefO ops.toList) a e.s Q) (Qb := Up n w0 (dstsO ops.toList) (noDefO ops.toList) a Q) (l2 := []) (fun ex a' w' h => h.up hr)
          (fun a' w' h => Up.kept hr h) [ops.size - 1] a' w' (fun C' e => by cases e) hlex2
        simpa using hall
    | cons q0 ps0 =>
    have hk2 : (!mp && cond (Nat.beq k anyK) (coverB (masks [] ops.toList) ops.toList.length (confs P (st.getD []) (masks [] ops.toList) ops.toList) [] (q0 :: ps0)) ((match nthO ops.toList k with
      | some o => o.after.all fun e => !Region.binds .any e
      | none => false) && (Nat.blt k anyK && (q0 :: ps0) == permsOf P (st.getD []) ops.toList k))) = true := hk
    have hv2 : ∀ p ∈ q0 :: ps0, ∃ C : Hp → Prop, C w.heap ∧ rv P mp (some C) (st.getD []) ops.toList (keepP e ops.toList Q) (pickO ops.toList p) e w.heap := hv
    clear hk hv
    generalize q0 :: ps0 = ps at hk2 hv2 hpair
    have hv := hv2
    rw [Bool.and_eq_true] at hk2
    obtain ⟨hmp, hk2⟩ := hk2
    have hmp : mp = false := by simpa using hmp
    cases hany : Nat.beq k anyK with
    | true =>
      rw [hany, cond_true] at hk2
      obtain ⟨p, hp, hpb, hX⟩ := cover_sound hnd hdep _ [] ps hk2 (by simp) (fun x hx => by
        obtain ⟨oi, oj, hi, hj, hij, _⟩ := mem_confs.1 (show (x.1, x.2) ∈ _ from hx)
        have h1 := (List.getElem?_eq_some_iff.1 (numb_get _ _ _ _ hi).2).1
        have h2 := (List.getElem?_eq_some_iff.1 (numb_get _ _ _ _ hj).2).1
        exact ⟨hperm.mem_iff.2 (List.mem_range.2 (by simpa using h1)), hperm.mem_iff.2 (List.mem_range.2 (by simpa using h2)), by omega⟩)
      simp only [permB, Bool.and_eq_true] at hpb
      obtain ⟨hpp, hpw⟩ := hpb
      have hpp : p.Perm (List.range ops.size) := by simpa using List.isPerm_iff.1 hpp
      have hpn : p.Nodup := hpp.nodup_iff.2 List.nodup_range
      have hplt : ∀ x ∈ p, x < ops.size := fun x hx => List.mem_range.1 (hpp.mem_iff.1 hx)
      obtain ⟨C, hC, h⟩ := hv p hp
      refine fin (some C) p (fun _ _ => rfl) (fun C' e => by cases e; exact hC) (hperm.trans hpp.symm) hplt ?_ h
      intro x y h1 h2 ox oy hox hoy
      have hxs : x < ops.size := (Array.getElem?_eq_some_iff.1 hox).1
      have hys : y < ops.size := (Array.getElem?_eq_some_iff.1 hoy).1
      have hne : x ≠ y := by
        intro e
        subst e
        have := List.Pairwise.sublist h1 hpn
        simp at this
      have hnx := numb_mem' ops.toList 0 x ox (by simpa using hox)
      have hny := numb_mem' ops.toList 0 y oy (by simpa using hoy)
      rw [Nat.zero_add] at hnx hny
      rcases Nat.lt_or_gt_of_ne hne with hxy | hxy
      · have hnb : ((masks [] ops.toList).getD y 0).testBit x ≠ true := fun hb => hdep x y h2 (mask_dp hb)
        refine (pairs_of0 hnp (hins _ _ hox) hpair hox hoy hxy hnb (.inl ?_)).1
        rintro ⟨c1, c2⟩
        rcases hX (x, y) (mem_confs.2 ⟨ox, oy, hnx, hny, hxy, c1, c2, hnb⟩) with ⟨h3, _⟩ | ⟨_, h3⟩
        · exact not_two hnd h3 h2
        · exact not_two hpn h1 (beforeB_sub h3)
      · have hnb : ((masks [] ops.toList).getD x 0).testBit y ≠ true := fun hb => by
          have h4 := List.all_eq_true.1 (List.all_eq_true.1 hpw x (List.mem_range.2 (by simpa using hxs))) y (List.mem_range.2 hxy)
          rw [hb] at h4
          exact not_two hpn h1 (beforeB_sub (by simpa using h4))
        refine (pairs_of0 hnp (hins _ _ hoy) hpair hoy hox hxy hnb (.inl ?_)).2 hmp
        rintro ⟨c1, c2⟩
        rcases hX (y, x) (mem_confs.2 ⟨oy, ox, hny, hnx, hxy, c1, c2, hnb⟩) with ⟨_, h3⟩ | ⟨h3, _⟩
        · exact not_two hpn h1 (beforeB_sub h3)
        · exact not_two hnd h3 h2
    | false =>
    rw [hany, cond_false] at hk2
    have hk := hk2
    simp only [Bool.and_eq_true] at hk
    obtain ⟨hk0, hkb, hps⟩ := hk
    have hka : k ≠ anyK := by
      have : k < anyK := by simpa using hkb
      omega
    have hps' : ps = permsOf P (st.getD []) ops.toList k := by simpa using hps
    subst hps'
    cases hok' : nthO ops.toList k with
    | none => rw [hok'] at hk0; cases hk0
    | some ok =>
      simp only [hok'] at hk0
      have hkops : ops[k]? = some ok := by rw [nthO_eq] at hok'; simpa using hok'
      have hks : k < ops.size := (Array.getElem?_eq_some_iff.1 hkops).1
      have hnodep : ∀ i, ¬ Dp ops i k := by
        intro i hd
        cases hd with
        | one ho he hb _ =>
          rw [hkops] at ho; cases ho
          have := Array.all_eq_true_iff_forall_mem.1 hk0 _ he
          simp [hb] at this
        | more ho he hb _ =>
          rw [hkops] at ho; cases ho
          have := Array.all_eq_true_iff_forall_mem.1 hk0 _ he
          simp [hb] at this
      have hmemk : k ∈ l := hperm.mem_iff.2 (List.mem_range.2 hks)
      -- the chain's members ahead of 'k' in the text that come behind it here
      by_cases hex : ∃ c, c < k ∧ (∃ oc, ops[c]? = some oc ∧ chS P (st.getD []) c oc = true) ∧ [k, c].Sublist l
      · -- the first one of them
        obtain ⟨c, ⟨hck, ⟨oc, hoc, hcc⟩, hcl⟩, hmin⟩ : ∃ c, (c < k ∧ (∃ oc, ops[c]? = some oc ∧ chS P (st.getD []) c oc = true) ∧ [k, c].Sublist l) ∧
            ∀ d, d < c → ¬ (d < k ∧ (∃ oc, ops[d]? = some oc ∧ chS P (st.getD []) d oc = true) ∧ [k, d].Sublist l) := by
          obtain ⟨c0, hc0⟩ := hex
          induction c0 using Nat.strongRecOn with
          | _ c0 ih =>
            by_cases hd : ∃ d, d < c0 ∧ (d < k ∧ (∃ oc, ops[d]? = some oc ∧ chS P (st.getD []) d oc = true) ∧ [k, d].Sublist l)
            · obtain ⟨d, hdc, hd⟩ := hd; exact ih d hdc hd
            · exact ⟨c0, hc0, fun d hdc hd' => hd ⟨d, hdc, hd'⟩⟩
        have hin : movedTo ops.size k c ∈ permsOf P (st.getD []) ops.toList k := by
          unfold permsOf movedTo
          refine List.mem_cons_of_mem _ (List.mem_map.2 ⟨c, List.mem_filter.2 ⟨List.mem_range.2 hck, ?_⟩, by simp⟩)
          have : nthO ops.toList c = some oc := by rw [nthO_eq]; simpa using hoc
          simp [this, hcc]
        obtain ⟨C, hC, h⟩ := hv _ hin
        refine fin (some C) (movedTo ops.size k c) (fun _ _ => rfl) (fun C' e => by cases e; exact hC) (hperm.trans (moved_perm (by omega) hks).symm) ?_ ?_ h
        · intro x hx
          exact List.mem_range.1 ((moved_perm (by omega) hks).mem_iff.1 hx)
        · intro x y h1 h2 ox oy hox hoy
          have hnd2 := hdep x y h2
          rcases moved_pair (by omega) h1 with ⟨rfl, hy1, hy2⟩ | ⟨rfl, hx1⟩ | ⟨hxy, hx1, hy1⟩
          · -- x = k ahead of y
            have hncc : ¬ (chS P (st.getD []) x ox = true ∧ chS P (st.getD []) y oy = true) := by
              rintro ⟨_, hcy⟩
              rcases Nat.lt_or_ge y x with hlt' | hge
              · -- y among those ahead in the text
                rcases Nat.lt_trichotomy y c with h3 | h3 | h3
                · omega
                · subst h3; exact not_two hnd hcl h2
                · -- c < y < k: c ahead of y by the chain's own order
                  have hcy' : [c, y].Sublist l := by
                    rcases two_of (hperm.mem_iff.2 (List.mem_range.2 (by omega : c < ops.size))) (hperm.mem_iff.2 (List.mem_range.2 (by omega : y < ops.size))) (by omega) with h4 | h4
                    · exact h4
                    · exfalso
                      have := hdep c y h4
                      have := (pairs_of hnp (hins _ _ hoc) hpair hoc hoy h3 this (.inr ⟨by simp; omega, by simpa using hka⟩)).1
                      exact this.cc ⟨hcc, hcy⟩
                  -- k ahead of c ahead of y, and y ahead of k
                  have hk1 : [x, y].Sublist l := by
                    rcases two_of hmemk (hperm.mem_iff.2 (List.mem_range.2 (by omega : y < ops.size))) (by omega) with h4 | h4
                    · exact h4
                    · exfalso
                      exact not_two hnd (two_trans hnd hcl hcy') h4
                  exact not_two hnd hk1 h2
              · -- y behind k in the text: it waits for k
                have := (pairs_of hnp (hins _ _ hkops) hpair hkops hoy (by omega) hnd2 (.inr ⟨by simp; omega, by simpa using hka⟩)).1
                rw [hkops] at hox; cases hox
                exact this.cc ⟨by assumption, hcy⟩
            rcases Nat.lt_or_ge y x with hlt' | hge
            · exact (pairs_of hnp (hins _ _ hoy) hpair hoy hox hlt' (hnodep y) (.inl fun hh => hncc ⟨hh.2, hh.1⟩)).2 hmp
            · exact (pairs_of hnp (hins _ _ hox) hpair hox hoy (by omega) hnd2 (.inl hncc)).1
          · -- x ahead of y = k
            have hncc : ¬ (chS P (st.getD []) x ox = true ∧ chS P (st.getD []) y oy = true) := by
              rintro ⟨hcx, _⟩
              exact hmin x hx1 ⟨by omega, ⟨ox, hox, hcx⟩, h2⟩
            exact (pairs_of hnp (hins _ _ hox) hpair hox hoy (by omega) hnd2 (.inl hncc)).1
          · exact (pairs_of hnp (hins _ _ hox) hpair hox hoy hxy hnd2 (.inr ⟨by simpa using fun e => hy1 e.symm, by simpa using hka⟩)).1
      · obtain ⟨C, hC, h⟩ := hv (List.range ops.toList.length) (by simp [permsOf])
        refine fin (some C) (List.range ops.size) (fun _ _ => rfl) (fun C' e => by cases e; exact hC) hperm hlt ?_ (by simpa using h)
        intro x y h1 h2 ox oy hox hoy
        have hxy := sublist_range h1
        have hnd2 := hdep x y h2
        refine (pairs_of hnp (hins _ _ hox) hpair hox hoy hxy hnd2 ?_).1
        by_cases hyk : y = k
        · subst hyk
          exact .inl fun hh => hex ⟨x, hxy, ⟨ox, hox, hh.1⟩, h2⟩
        · exact .inr ⟨by simpa using fun e => hyk e.symm, by simpa using hka⟩

theorem calls_vc {P : Program} (hP : Fine P) (mp : Bool) {f : FuncId} {fn : Func} (hf : P.funcs[f]? = some fn) {ann : Ann} {args : List Value} {h : Hp} {R : Ending → Hp → Prop}
    (hok : okF P mp (okDraw P) fn ann args.length = true) (hv : fnV P mp fn ann args h R) : CallsH P f args.toArray h R :=
  fn_sound hP (fun m => drawOk (reads P) hP m) hf hok hv

theorem fine_of {P : Program} (h1 : (P.funcs.toList.all fun fn => !(fn.name == "runtime.NumGoroutine")) = true) (h2 : P.follows .mixedOrders = true) : Fine P := by
  refine ⟨fun f fn hf => ?_, h2⟩
  have := List.all_eq_true.1 h1 fn (by simpa using Array.mem_of_getElem? hf)
  simpa using this

end Go.Vc
