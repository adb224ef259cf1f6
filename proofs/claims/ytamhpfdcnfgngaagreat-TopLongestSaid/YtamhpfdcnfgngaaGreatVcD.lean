import Derived.Test.YtamhpfdcnfgngaaGreatVcB
import Derived.RangeFuncRecord
import Derived.RangeFuncBound
set_option maxRecDepth 10000
/- The third part: regions, code, functions. -/
namespace Go.Vc
open Go

abbrev Post := Exit → Env → Hp → Prop

def nthO : List Oper → Nat → Option Oper
  | [], _ => none
  | o :: r, n => cond (Nat.beq n 0) (some o) (nthO r (n - 1))

def guardV (ops : List Oper) (o : Oper) (e : Env) (run skip : Env → Prop) : Prop :=
  match o.guard with
  | none => run e
  | some (j, want) => match nthO ops j with
    | none => False
    | some g => match g.dst with
      | none => False
      | some s => match look e.s s with
        | some .tt => cond want (run e) (skip e)
        | some .ff => cond want (skip e) (run e)
        | some (.v (.bool b)) => (b = true → cond want (run (e.put (some s) .tt)) (skip (e.put (some s) .tt))) ∧
            (b = false → cond want (skip (e.put (some s) .ff)) (run (e.put (some s) .ff)))
        | some (.v (.tuple _)) => skip e
        | _ => False

def numb : Nat → List Oper → List (Nat × Oper)
  | _, [] => []
  | i, o :: r => (i, o) :: numb (i + 1) r

def pickO (ops : List Oper) : List Nat → List (Nat × Oper)
  | [] => []
  | i :: r => match nthO ops i with
    | some o => (i, o) :: pickO ops r
    | none => pickO ops r

def isLoadO (o : Oper) : Bool := match o.op with
  | .load .. => true
  | _ => false

def chainO (P : Program) (o : Oper) : Bool := match o.op with
  | .store .. | .alloc _ | .box .. | .makeMap .. | .makeSlice .. | .buildSlice .. | .lookup .. | .mapUpdate .. | .insert .. | .panic _ | .defer _ => true
  | .convert s d _ => match P.underlying s, P.underlying d with
    | some (.slice _), some .string => true
    | some .string, some (.slice _) => true
    | _, _ => false
  | .slice _ _ _ _ (some _) => true
  | .call { callee := .builtin .append, .. } | .call { callee := .builtin .copy, .. } | .call { callee := .builtin .clear, .. } | .call { callee := .builtin .cap, .. } | .call { callee := .builtin .delete, .. } => true
  | .call { callee := .builtin .len, argTypes, .. } => match argTypes.toList.map P.underlying with
    | [some (.map ..)] => true
    | _ => false
  | .call { callee := .builtin _, .. } => false
  | .call _ => true
  | .binOp op t _ y _ => opqO P op t y
  | _ => false

def readO (P : Program) (o : Oper) : Bool := match o.op with
  | .convert s d _ => match P.underlying s, P.underlying d with
    | some (.slice _), some .string => true
    | _, _ => false
  | .lookup .. => true
  | .call { callee := .builtin .len, argTypes, .. } => match argTypes.toList.map P.underlying with
    | [some (.map ..)] => true
    | _ => false
  | _ => false

def chS (P : Program) (st : List Nat) (i : Nat) (o : Oper) : Bool := chainO P o && !(st.contains i && readO P o)

def clsW (C : Option (Hp → Prop)) (w : World) : Prop := match C with
  | none => True
  | some D => D w.heap

def rdSem (P : Program) (C : Option (Hp → Prop)) (s : Sem Value) (t : TypeId) (K : SV → Prop) : Prop :=
  shaped P t fun u => (∀ w : World, clsW C w → s.run P w = .ok u w) ∧ K (.v u)

def readV (P : Program) (C : Option (Hp → Prop)) (o : Oper) (e : Env) (K : SV → Prop) : Prop :=
  match o.op with
  | .convert s d x => ev e x fun x => rdSem P C (convert s d x.val) d K
  | .lookup t x i ok => ev e x fun x => ev e i fun i => rdSem P C (Instr.lookup t x.val i.val ok) o.type K
  | .call { callee := .builtin .len, args, argTypes } => pv.evs e args.toList fun xs => rdSem P C (Builtin.len_ argTypes o.type xs.toArray) o.type K
  | _ => False

def withO (P : Program) (C : Option (Hp → Prop)) (o : Oper) (h : Hp) (p : Prop) : Prop :=
  match C with
  | none => p
  | some D => cond (chainO P o) (D h ∧ p) p

def rdOf (C : Option (Hp → Prop)) (h : Hp) : Nat → Nat → List Value → Prop :=
  match C with
  | none => cellsAt h
  | some C => fun b o vs => ∀ h', C h' → cellsAt h' b o vs

def rv (P : Program) (mp : Bool) (C : Option (Hp → Prop)) (st : List Nat) (ops : List Oper) (Q : Post) : List (Nat × Oper) → Env → Hp → Prop
  | [], e, h => Q .normal e h
  | (i, o) :: r, e, h => guardV ops o e
      (fun e => match o.op with
        | .defer { callee := .value x, args, .. } => ev e x fun x => pv.evs e args.toList fun xs =>
            match x.val with
            | .func f fst cap => rv P mp C st ops Q r (Env.put ⟨e.s, { target := .fn f cap, args := (fst.toList ++ xs).toArray } :: e.d⟩ o.dst (.v undef)) h
            | _ => False
        | _ => cond (st.contains i && readO P o) (readV P C o e fun x => rv P mp C st ops Q r (e.put o.dst x) h)
            (ov P mp o e h (cond (st.contains i) (rdOf C h) (cellsAt h))
            (fun x h' => withO P C o h' (rv P mp C st ops Q r (e.put o.dst x) h'))
            (fun c h' => Q (.panic c) e h')))
      (fun e => rv P mp C st ops Q r (e.put o.dst (.v undef)) h)


inductive Ann where
  | nil
  | seq (a b : Ann)
  | cut (a : Ann) (live : List (Nat × Leaf)) (b : Ann)
  | cond (a b : Ann)
  | block (a : Ann)
  | loop (live : List (Nat × Leaf)) (a : Ann)
  | join (s : Nat)
  | draw (st : List Nat)
  | orders (k : Nat) (ps : List (List Nat)) (st : List Nat)
  | drawLast (st : List Nat)
  | yld
  | range (shs : List Shape) (a b : Ann)
  | dead

def allLeaf (l : Leaf) (K : SV → Prop) : Prop :=
  match l with
  | .int k => ∀ n : Int, K (.v (.int k n))
  | .bool => ∀ b : Bool, K (.v (.bool b))
  | .str => ∀ s : ByteArray, K (.v (.string s))
  | .slice => ∀ (p : Option Addr) (n c : Nat), K (.v (.slice p n c))
  | .ptr => ∀ p : Option Addr, K (.v (.pointer p))
  | .map => ∀ r : Option Nat, K (.v (.map r))
  | .any => ∀ v : Value, K (.v v)

def fits (l : Leaf) (x : SV) : Bool :=
  match l, x with
  | .int k, .v (.int k' _) => sameK k k'
  | .bool, .v (.bool _) | .bool, .tt | .bool, .ff | .str, .v (.string _) | .slice, .v (.slice ..) | .ptr, .v (.pointer _) | .ptr, .ptr .. | .map, .v (.map _) | .any, _ => true
  | _, _ => false

def tele (live : List (Nat × Leaf)) (K : Slots → List Value → Prop) : Prop :=
  match live with
  | [] => K [] []
  | (t, l) :: r => allLeaf l fun x => tele r fun s vs => K ((t, x) :: s) (x.val :: vs)

def vals (e : Env) (live : List (Nat × Leaf)) (K : List Value → Prop) : Prop :=
  match live with
  | [] => K []
  | (t, l) :: r => match look e.s t with
    | none => False
    | some x => cond (fits l x) (vals e r fun vs => K (x.val :: vs)) False

def dstsO (ops : List Oper) : List Nat := ops.filterMap (·.dst)

def dsts : Code → List Nat
  | .region _ ops _ => dstsO ops.toList
  | .seq a b => dsts a ++ dsts b
  | .cond _ a b => dsts a ++ dsts b
  | .block _ a => dsts a
  | .loop a => dsts a
  | _ => []

def hasN (l : List Nat) (n : Nat) : Bool :=
  match l with
  | [] => false
  | k :: r => cond (Nat.beq k n) true (hasN r n)

def keep (s : Slots) (D : List Nat) : Slots :=
  match s with
  | [] => []
  | (k, x) :: r => cond (hasN D k) (keep r D) ((k, x) :: keep r D)

def allP (l : List (List Nat)) (K : List Nat → Prop) : Prop :=
  match l with
  | [] => True
  | [p] => K p
  | p :: r => K p ∧ allP r K

def panicO (o : Oper) : Bool := match o.op with
  | .panic _ => true
  | _ => false

def panicC : Code → Bool
  | .region _ ops _ => ops.toList.any panicO
  | .seq a b => panicC a || panicC b
  | .cond _ a b => panicC a || panicC b
  | .block _ a => panicC a
  | .loop a => panicC a
  | _ => false

def loudO (P : Program) (o : Oper) : Bool := match o.op with
  | .panic _ => true
  | .call { callee := .value (.func f), .. } => match P.funcs[f]? with
    | some fn => match fn.body with
      | some c => panicC c
      | none => false
    | none => false
  | .call { callee := .value _, .. } => true
  | .call { callee := .invoke .., .. } => true
  | _ => false

def loudR (P : Program) (mp : Bool) (ops : List Oper) : Bool := mp && ops.any (loudO P)

def keepP (e : Env) (ops : List Oper) (Q : Post) : Post := fun ex e' h => match ex with
  | .panic c => Q (.panic c) ⟨keep e.s (dstsO ops), e'.d⟩ h
  | ex => Q ex e' h

def butLast : List Oper → List Oper
  | [] => []
  | [_] => []
  | o :: r => o :: butLast r

def YieldH (P : Program) (l : Nat) (xs : List Value) (h : Hp) (R : Ending → Hp → Prop) : Prop :=
  ∀ w : World, w.heap = h → YieldAt Fence.wide 0 P l xs.toArray w fun e w' => e ≠ .outgrown ∧ Rest w w' ∧ R e w'.heap

theorem YieldH.mono {P : Program} {l : Nat} {xs : List Value} {h : Hp} {R R' : Ending → Hp → Prop} (hy : YieldH P l xs h R) (hr : ∀ e h', R e h' → R' e h') : YieldH P l xs h R' :=
  fun w hw => (hy w hw).mono fun e w' ⟨h1, h2, h3⟩ => ⟨h1, h2, hr e w'.heap h3⟩

def setO (h : Hp) (b : Nat) (o : Obj) : Hp := h.setIfInBounds b o

def stepV (P : Program) (mp : Bool) (o : Oper) (e : Env) (h : Hp) (rd : Nat → Nat → List Value → Prop) (K : Env → Hp → Prop) (Kp : List PanicEntry → Hp → Prop) : Prop :=
  match o.op with
  | .defer { callee := .value x, args, .. } => ev e x fun x => pv.evs e args.toList fun xs =>
      match x.val with
      | .func f fst cap => K (Env.put ⟨e.s, { target := .fn f cap, args := (fst.toList ++ xs).toArray } :: e.d⟩ o.dst (.v undef)) h
      | _ => False
  | _ => ov P mp o e h rd (fun x h' => K (e.put o.dst x) h') Kp

def yieldOf (o : Oper) (e : Env) : Option Nat :=
  match o.op with
  | .call { callee := .value (.tmp t), .. } => match look e.s t with
    | some (.v (.func (.yield l) _ _)) => some l
    | _ => none
  | _ => none

def rvY (P : Program) (ops : List Oper) (Q : Post) : List Oper → Env → Hp → Prop
  | [], e, h => Q .normal e h
  | o :: r, e, h => guardV ops o e
      (fun e => match yieldOf o e with
        | some l => match o.op with
          | .call { callee := .value x, args, .. } => ev e x fun x => pv.evs e args.toList fun xs => x.val = .func (.yield l) #[] #[] ∧ YieldH P l xs h fun en h' => ∃ b : Bool, en = .returned (.bool b) ∧ rvY P ops Q r (e.put o.dst (.v (.bool b))) h'
          | _ => False
        | none => stepV P false o e h (cellsAt h) (fun e' h' => rvY P ops Q r e' h') (fun c h' => Q (.panic c) e h'))
      (fun e => rvY P ops Q r (e.put o.dst (.v undef)) h)

def allLeaves (l : List Leaf) (K : List Value → Prop) : Prop :=
  match l with
  | [] => K []
  | x :: r => allLeaf x fun v => allLeaves r fun vs => K (v.val :: vs)

def allShapes (l : List Shape) (K : List Value → Prop) : Prop :=
  match l with
  | [] => K []
  | .one x :: r => allLeaf x fun v => allShapes r fun vs => K (v.val :: vs)
  | .agg ls :: r => allLeaves ls fun xs => allShapes r fun vs => K (.agg xs.toArray :: vs)
  | _ :: _ => False

def zipS : List Nat → List Value → Slots
  | t :: ts, v :: vs => (t, .v v) :: zipS ts vs
  | _, _ => []

def vc (P : Program) (mp : Bool) : Code → Ann → Post → Env → Hp → Prop
  | .skip, _, Q, e, h => Q .normal e h
  | .ret, _, Q, e, h => Q .ret e h
  | .exit i, _, Q, e, h => Q (.exit i) e h
  | .region _ ops dr, .nil, Q, e, h => rv P (loudR P mp ops.toList) none [] ops.toList (cond dr (keepP e ops.toList Q) Q) (numb 0 ops.toList) e h
  | .region _ ops _, .draw st, Q, e, h => ∃ C : Hp → Prop, C h ∧ rv P (loudR P mp ops.toList) (some C) st ops.toList (keepP e ops.toList Q) (numb 0 ops.toList) e h
  | .region _ ops _, .drawLast st, Q, e, h => ∃ C : Hp → Prop, C h ∧ rv P (loudR P mp ops.toList) (some C) st ops.toList (fun ex e' h' => match ex with
      | .normal => rv P (loudR P mp ops.toList) none [] ops.toList (keepP e ops.toList Q) (pickO ops.toList [ops.toList.length - 1]) e' h'
      | ex => keepP e (butLast ops.toList) Q ex e' h') (pickO ops.toList (List.range (ops.toList.length - 1))) e h
  | .region _ ops _, .orders _ ps st, Q, e, h => allP ps fun p => ∃ C : Hp → Prop, C h ∧ rv P (loudR P mp ops.toList) (some C) st ops.toList (keepP e ops.toList Q) (pickO ops.toList p) e h
  | .region _ ops _, .join s, Q, e, h => ∃ B : Bool, rv P (loudR P mp ops.toList) none [] ops.toList (keepP e ops.toList fun ex e' h' => match ex with
      | .normal => h' = h ∧ (match look e'.s s with
        | some .tt => B = true
        | some .ff => B = false
        | some (.v (.bool b)) => B = b
        | _ => False)
      | ex => Q ex e' h') (numb 0 ops.toList) e h ∧ Q .normal ⟨(s, .v (.bool B)) :: keep e.s (dstsO ops.toList), e.d⟩ h
  | .seq x y, .seq a b, Q, e, h => vc P mp x a (fun ex e' h' => match ex with
      | .normal => vc P mp y b Q e' h'
      | ex => Q ex e' h') e h
  | .seq x y, .cut a live b, Q, e, h => ∃ J : List Value → Hp → Prop, vc P mp x a (fun ex e' h' => match ex with
      | .normal => vals e' live fun vs => J vs h'
      | ex => Q ex e' h') e h ∧ tele live fun s vs => ∀ h', J vs h' → vc P mp y b Q ⟨s ++ keep e.s (dsts x), e.d⟩ h'
  | .cond c x y, .cond a b, Q, e, h => ev e c fun v => match v with
      | .tt => vc P mp x a Q e h
      | .ff => vc P mp y b Q e h
      | .v (.bool t) => (t = true → vc P mp x a Q e h) ∧ (t = false → vc P mp y b Q e h)
      | _ => False
  | .block i x, .block a, Q, e, h => vc P mp x a (fun ex e' h' => match ex with
      | .exit j => cond (Nat.beq j i) (Q .normal e' h') (Q (.exit j) e' h')
      | ex => Q ex e' h') e h
  | .loop x, .loop live a, Q, e, h => ∃ (I : List Value → Hp → Prop) (μ : List Value → Hp → Nat), (vals e live fun vs => I vs h) ∧
      tele live fun s vs => ∀ h1, I vs h1 → vc P mp x a (fun ex e' h' => match ex with
        | .normal => vals e' live fun vs' => I vs' h' ∧ μ vs' h' < μ vs h1
        | ex => Q ex e' h') ⟨s ++ keep e.s (dsts x), e.d⟩ h1
  | .region _ ops false, .yld, Q, e, h => rvY P ops.toList Q ops.toList e h
  | .rangeFunc g ps x y, .range shs a b, Q, e, h => ev e g fun v => ∃ gf lb, v.val = .func (.func gf) #[] lb ∧ bodied P gf = true ∧
      ∀ (D L : Nat) (h1 : Hp) (oR oB oE : Obj) (oD oX : Exit → Obj), D = h.size → L = h.size + 1 → h1 = (h.push (.deferred (some []))).push oR →
        (allShapes shs fun xs => ∀ (hk : Hp) (R : Ending → Hp → Prop), hk[L]? = some oR →
          vc P mp x a (fun ex e1 h2 => match ex with
            | .normal => h2[L]? = some oR ∧ ∀ hb, hb = setO h2 L oB → vc P mp y b (fun ex _ h3 => h3[L]? = some oB ∧ match ex with
                | .normal => R (.returned (.bool true)) (setO h3 L oR)
                | .ret => R (.returned (.bool false)) (setO h3 L (oD .ret))
                | .exit i => R (.returned (.bool false)) (setO h3 L (oD (.exit i)))
                | _ => False) e1 hb
            | _ => False) ⟨zipS ps.toList xs ++ e.s, []⟩ hk → YieldH P L xs hk R) →
        CallsH P gf (.func (.yield L) #[] #[] :: lb.toList).toArray h1 fun en h2 => (∃ v, en = .returned v) ∧
          ((h2[L]? = some oR ∧ ∀ h3, h3 = setO h2 L oE → Q .normal ⟨e.s, { target := .collected D, args := #[] } :: e.d⟩ h3) ∨
           (h2[L]? = some (oD .ret) ∧ ∀ h3, h3 = setO h2 L (oX .ret) → Q .ret ⟨e.s, { target := .collected D, args := #[] } :: e.d⟩ h3) ∨
           ∃ i, h2[L]? = some (oD (.exit i)) ∧ ∀ h3, h3 = setO h2 L (oX (.exit i)) → Q (.exit i) ⟨e.s, { target := .collected D, args := #[] } :: e.d⟩ h3)
  | _, _, _, _, _ => False

def backV (P : Program) (rs : List ResultVar) (e : Env) (h : Hp) (K : Value → Prop) : Prop :=
  match rs with
  | [r] => one r K
  | rs => all rs fun vs => K (.tuple vs.toArray)
where
  one (r : ResultVar) (K : Value → Prop) : Prop := match r with
    | .tmp t => match look e.s t with
      | some x => K x.val
      | none => False
    | .cell a t => match look e.s a with
      | some x => asPtr x fun b o => loadV P t (cellsAt h) b o fun x => K x.val
      | none => False
  all (rs : List ResultVar) (K : List Value → Prop) : Prop := match rs with
    | [] => K []
    | r :: rest => one r fun v => all rest fun vs => K (v :: vs)

def startS : Nat → List Value → Slots
  | _, [] => []
  | i, v :: r => (i, .v v) :: startS (i + 1) r

def fnV (P : Program) (mp : Bool) (fn : Func) (ann : Ann) (args : List Value) (h : Hp) (R : Ending → Hp → Prop) : Prop :=
  match fn.body with
  | none => False
  | some c => vc P mp c ann (fun ex e h' => match ex with
      | .normal => backV P fn.results.toList e h' fun v => R (.returned v) h'
      | .ret => backV P fn.results.toList e h' fun v => R (.returned v) h'
      | .panic ch => R (.panicked ch) h'
      | _ => False) ⟨startS 0 args, []⟩ h


/-! ### That it suffices -/

def okOps (n : Nat) (ops : List Oper) : Bool :=
  match ops with
  | [] => true
  | o :: r => match o.dst with
    | none => okOps n r
    | some d => cond (Nat.blt d n) (okOps n r) false

theorem hasN_iff (l : List Nat) (n : Nat) : hasN l n = true ↔ n ∈ l := by
  induction l with
  | nil => simp [hasN]
  | cons k r ih =>
    simp only [hasN]
    cases h : Nat.beq k n with
    | true => simp [Nat.eq_of_beq_eq_true h]
    | false =>
      have : n ≠ k := fun e => by subst e; simp at h
      simp [ih, this]

theorem look_keep (s : Slots) (D : List Nat) (t : Nat) (x : SV) (h : look (keep s D) t = some x) : look s t = some x ∧ t ∉ D := by
  induction s with
  | nil => cases h
  | cons p r ih =>
    obtain ⟨k, y⟩ := p
    simp only [keep] at h
    cases hk : hasN D k with
    | true =>
      rw [hk] at h
      obtain ⟨h1, h2⟩ := ih h
      refine ⟨?_, h2⟩
      simp only [look]
      cases hb : Nat.beq k t with
      | true => rw [← Nat.eq_of_beq_eq_true hb] at h2; exact absurd ((hasN_iff D k).1 hk) h2
      | false => exact h1
    | false =>
      rw [hk] at h
      simp only [cond_false, look] at h
      simp only [look]
      cases hb : Nat.beq k t with
      | true =>
        rw [hb] at h
        refine ⟨h, fun hm => ?_⟩
        have := (hasN_iff D k).2 (by rw [Nat.eq_of_beq_eq_true hb]; exact hm)
        rw [hk] at this; cases this
      | false => rw [hb] at h; exact ih h

theorem look_app (s r : Slots) (t : Nat) (x : SV) (h : look (s ++ r) t = some x) : look s t = some x ∨ look r t = some x := by
  induction s with
  | nil => exact .inr h
  | cons p s ih =>
    obtain ⟨k, y⟩ := p
    simp only [List.cons_append, look] at h ⊢
    cases hb : Nat.beq k t with
    | true => rw [hb] at h; exact .inl h
    | false => rw [hb] at h; exact ih h

theorem Rep.put {n : Nat} {e : Env} {a : Act} (hr : Rep n e a) {d : Option Nat} {x : SV} (hd : ∀ t, d = some t → t < n) : Rep n (e.put d x) (a.put d x.val) := by
  cases d with
  | none => exact hr
  | some d =>
    refine ⟨by simp [Act.put, hr.size], hr.defers, fun t y h => ?_⟩
    simp only [Env.put, look] at h
    simp only [Act.put]
    cases hb : Nat.beq d t with
    | true =>
      rw [hb] at h
      cases h
      obtain rfl := Nat.eq_of_beq_eq_true hb
      rw [Array.getElem?_setIfInBounds_self]
      rw [if_pos (by rw [hr.size]; exact hd d rfl)]
    | false =>
      rw [hb] at h
      rw [Array.getElem?_setIfInBounds_ne (fun e => by subst e; simp at hb)]
      exact hr.slots t y h

theorem Rep.know {n : Nat} {e : Env} {a : Act} (hr : Rep n e a) {s : Nat} {x y : SV} (h : look e.s s = some x) (hv : x.val = y.val) : Rep n (e.put (some s) y) a := by
  refine ⟨hr.size, hr.defers, fun t z hz => ?_⟩
  simp only [Env.put, look] at hz
  cases hb : Nat.beq s t with
  | true =>
    rw [hb] at hz
    cases hz
    obtain rfl := Nat.eq_of_beq_eq_true hb
    rw [← hv]; exact hr.slots s x h
  | false => rw [hb] at hz; exact hr.slots t z hz

theorem nthO_eq (l : List Oper) (n : Nat) : nthO l n = l[n]? := by
  induction l generalizing n with
  | nil => simp [nthO]
  | cons v r ih =>
    cases n with
    | zero => simp [nthO]
    | succ n => simp only [nthO, Nat.beq, cond_false, Nat.add_sub_cancel, ih, List.getElem?_cons_succ]

theorem guardV_sound {ops : Array Oper} {o : Oper} {n : Nat} {e : Env} {a : Act} {run skip : Env → Prop} (hr : Rep n e a) (h : guardV ops.toList o e run skip) :
    ∃ e', Rep n e' a ∧ ((Region.wanted o (yielded ops a.tmps) = true ∧ run e') ∨ (Region.wanted o (yielded ops a.tmps) = false ∧ skip e')) := by
  unfold guardV at h
  split at h
  · rename_i hg
    exact ⟨e, hr, .inl ⟨by simp [Region.wanted, hg], h⟩⟩
  · rename_i j want hg
    split at h
    · exact h.elim
    · rename_i g hj
      rw [nthO_eq, Array.getElem?_toList] at hj
      split at h
      · exact h.elim
      · rename_i s hs
        have hy : ∀ x, look e.s s = some x → yielded ops a.tmps j = (match x.val with | .bool b => some b | _ => none) := fun x hx => by
          simp only [yielded, hj, Option.bind_some, hs, hr.slots s x hx]
          cases x.val <;> rfl
        have hwt : ∀ b, yielded ops a.tmps j = some b → Region.wanted o (yielded ops a.tmps) = (b == want) := fun b hb => by
          simp only [Region.wanted, hg, hb]
          cases b <;> cases want <;> rfl
        split at h
        · rename_i hl
          have := hwt true (by rw [hy _ hl]; rfl)
          cases want
          · exact ⟨e, hr, .inr ⟨this, h⟩⟩
          · exact ⟨e, hr, .inl ⟨this, h⟩⟩
        · rename_i hl
          have := hwt false (by rw [hy _ hl]; rfl)
          cases want
          · exact ⟨e, hr, .inl ⟨this, h⟩⟩
          · exact ⟨e, hr, .inr ⟨this, h⟩⟩
        · rename_i b hl
          cases b
          · have := hwt false (by rw [hy _ hl]; rfl)
            have hh := h.2 rfl
            cases want
            · exact ⟨_, hr.know hl (y := .ff) rfl, .inl ⟨this, hh⟩⟩
            · exact ⟨_, hr.know hl (y := .ff) rfl, .inr ⟨this, hh⟩⟩
          · have := hwt true (by rw [hy _ hl]; rfl)
            have hh := h.1 rfl
            cases want
            · exact ⟨_, hr.know hl (y := .tt) rfl, .inr ⟨this, hh⟩⟩
            · exact ⟨_, hr.know hl (y := .tt) rfl, .inl ⟨this, hh⟩⟩
        · rename_i vs hl
          refine ⟨e, hr, .inr ⟨?_, h⟩⟩
          have := hy _ hl
          simp [Region.wanted, hg, this]
        · exact h.elim

structure Up (n : Nat) (w0 : World) (D : List Nat) (nd : Bool) (a0 : Act) (Q : Post) (ex : Exit) (a : Act) (w : World) : Prop where
  rest : Rest w0 w
  frame : ∀ t, t ∉ D → a.tmps[t]? = a0.tmps[t]?
  defers : nd = true → a.defers = a0.defers
  post : ∃ e, Rep n e a ∧ Q ex e w.heap

theorem Oper.wp_mono' {P : Program} {o : Oper} {a : Act} {w : World} {K K' : Act → World → Prop} {Q Q' : Exit → Act → World → Prop} (h : ∀ a w, K a w → K' a w)
    (hq : ∀ e a w, Q e a w → Q' e a w) (hh : o.wp P a w K Q) : o.wp P a w K' Q' := by
  unfold Oper.wp at *
  generalize (execOp a.eval o).run P w = r at *
  cases r with
  | ok n w' =>
    cases n <;> simp only [Oper.upon] at hh ⊢ <;>
      first
        | exact h _ _ hh
        | exact Calls.mono hh (fun e w'' he => by cases e <;> first | exact h _ _ he | exact hq _ _ _ he | exact (let ⟨a, w, x⟩ := he; ⟨a, w, hq _ _ _ x⟩))
        | exact Rows.mono hh (fun _ _ he => h _ _ he)
  | halt x w' => cases x <;> simp only [Oper.upon] at hh ⊢ <;> first | exact hq _ _ _ hh | exact hh

def noDefO (ops : List Oper) : Bool :=
  match ops with
  | [] => true
  | o :: r => match o.op with
    | .defer _ => false
    | _ => noDefO r

theorem put_frame {a : Act} {d : Option Nat} {v : Value} {t : Nat} (h : ∀ s, d = some s → t ≠ s) : (a.put d v).tmps[t]? = a.tmps[t]? := by
  cases d with
  | none => rfl
  | some d => simp only [Act.put]; exact Array.getElem?_setIfInBounds_ne (fun e => h d rfl e.symm)

theorem put_defers (a : Act) (d : Option Nat) (v : Value) : (a.put d v).defers = a.defers := by cases d <;> rfl


theorem Rep.defer {n : Nat} {e : Env} {a : Act} (hr : Rep n e a) (d : Deferred) : Rep n ⟨e.s, d :: e.d⟩ { a with defers := d :: a.defers } :=
  ⟨hr.size, by simp [hr.defers], hr.slots⟩

section
variable {P : Program} {mp : Bool} {n : Nat} {w0 : World} {Q : Post}

theorem stepV_sound (hP : Fine P) {o : Oper} {e : Env} {a : Act} {w : World} {K : Env → Hp → Prop} {Kp : List PanicEntry → Hp → Prop} (hd : ∀ t, o.dst = some t → t < n)
    (hr : Rep n e a) (hw : Rest w0 w) (h : stepV P mp o e w.heap (cellsAt w.heap) K Kp) :
    o.wp P a w (fun a' w' => Rest w0 w' ∧ (∀ t, (∀ s, o.dst = some s → t ≠ s) → a'.tmps[t]? = a.tmps[t]?) ∧ (noDefO [o] = true → a'.defers = a.defers) ∧ ∃ e', Rep n e' a' ∧ K e' w'.heap)
      (fun ex a' w' => ∃ c, ex = .panic c ∧ a' = a ∧ Rest w0 w' ∧ Kp c w'.heap) := by
  unfold stepV at h
  split at h
  · rename_i x args _ ho
    obtain ⟨v, hv, h⟩ := ev_sound hr h
    obtain ⟨xs, hxs, h⟩ := evs_sound hr h
    split at h
    · rename_i f fst cap hf
      unfold Oper.wp
      have hrun : (execOp a.eval o).run P w = .ok (.defer { target := .fn f cap, args := (fst.toList ++ xs).toArray }) w := by
        subst hxs
        have : (fst.toList ++ List.map a.eval args.toList).toArray = fst ++ args.map a.eval := by
          apply Array.toList_inj.1
          simp
        rw [this]
        simp [execOp, ho, resolve, hv, hf, Deferred.ofValue]
      rw [hrun]
      refine ⟨hw, fun t ht => ?_, fun hn => ?_, _, Rep.put (hr.defer _) hd, h⟩
      · exact put_frame (a := { a with defers := _ }) ht
      · simp [noDefO, ho] at hn
    · exact h.elim
  · rename_i hno
    refine Oper.wp_mono' ?_ ?_ (ov_sound hP hr hw h)
    · rintro a' w' ⟨x, rfl, hrest, hK⟩
      exact ⟨hrest, fun t ht => put_frame ht, fun _ => put_defers _ _ _, _, hr.put hd, hK⟩
    · exact fun _ _ _ h => h

theorem noDefO_cons {o : Oper} {r : List Oper} (h : noDefO (o :: r) = true) : noDefO [o] = true ∧ noDefO r = true := by
  unfold noDefO at h
  split at h
  · cases h
  · rename_i h1
    refine ⟨?_, h⟩
    unfold noDefO
    split
    · exact (h1 _ (by assumption)).elim
    · rfl

theorem okOps_cons {o : Oper} {r : List Oper} (h : okOps n (o :: r) = true) : (∀ t, o.dst = some t → t < n) ∧ okOps n r = true := by
  simp only [okOps] at h
  cases hd : o.dst with
  | none => rw [hd] at h; exact ⟨fun t ht => (by cases ht), h⟩
  | some d =>
    rw [hd] at h
    cases hb : Nat.blt d n with
    | false => simp only [hb] at h; cases h
    | true =>
      simp only [hb] at h
      exact ⟨fun t ht => by cases ht; simpa using hb, h⟩

theorem rv_cons {ops : List Oper} {i : Nat} {o : Oper} {r : List (Nat × Oper)} {e : Env} {h : Hp} (hv : rv P mp none [] ops Q ((i, o) :: r) e h) :
    guardV ops o e (fun e => stepV P mp o e h (cellsAt h) (fun e' h' => rv P mp none [] ops Q r e' h') (fun c h' => Q (.panic c) e h'))
      (fun e => rv P mp none [] ops Q r (e.put o.dst (.v undef)) h) := hv

theorem rv_sound (hP : Fine P) {ops : Array Oper} {D : List Nat} {nd : Bool} {a0 : Act} : ∀ (l : List Oper) (i : Nat) (e : Env) (a : Act) (w : World),
    okOps n l = true → (∀ o ∈ l, ∀ d, o.dst = some d → d ∈ D) → (nd = true → noDefO l = true) → Rep n e a → Rest w0 w → (∀ t, t ∉ D → a.tmps[t]? = a0.tmps[t]?) → (nd = true → a.defers = a0.defers) →
    rv P mp none [] ops.toList Q (numb i l) e w.heap → wpList P ops (Up n w0 D nd a0 Q) l a w
  | [], i, e, a, w, _, _, _, hr, hw, hf, hdf, h => ⟨hw, hf, hdf, e, hr, h⟩
  | o :: l, i, e, a, w, hok, hD, hnd, hr, hw, hf, hdf, h => by
    obtain ⟨hdst, hok'⟩ := okOps_cons hok
    obtain ⟨e', hr', hc⟩ := guardV_sound hr (rv_cons h)
    have hput : ∀ t, t ∉ D → ∀ s, o.dst = some s → t ≠ s := fun t ht s hs e => ht (by rw [e]; exact hD o (by simp) s hs)
    have ih := fun e a w => rv_sound (nd := nd) (a0 := a0) (ops := ops) hP l (i + 1) e a w hok' (fun o ho => hD o (by simp [ho])) (fun h => (noDefO_cons (hnd h)).2)
    unfold wpList
    rcases hc with ⟨hwant, hc⟩ | ⟨hwant, hc⟩
    · rw [if_pos hwant]
      refine .inl (Oper.wp_mono' ?_ ?_ (stepV_sound hP hdst hr' hw hc))
      · rintro a' w' ⟨hrest, hfr, hdd, e2, hr2, hv⟩
        exact ih e2 a' w' hr2 hrest (fun t ht => (hfr t (hput t ht)).trans (hf t ht)) (fun h => (hdd (noDefO_cons (hnd h)).1).trans (hdf h)) hv
      · rintro ex a' w' ⟨c, rfl, rfl, hrest, hq⟩
        exact ⟨hrest, hf, hdf, _, hr', hq⟩
    · rw [if_neg (by rw [hwant]; simp)]
      exact ih _ _ w (hr'.put hdst) hw (fun t ht => (put_frame (hput t ht)).trans (hf t ht)) (fun h => (put_defers _ _ _).trans (hdf h)) hc

end


def noDef : Code → Bool
  | .region _ ops _ => noDefO ops.toList
  | .seq a b => noDef a && noDef b
  | .cond _ a b => noDef a && noDef b
  | .block _ a => noDef a
  | .loop a => noDef a
  | .rangeFunc .. => false
  | _ => true

theorem fits_sound {l : Leaf} {x : SV} {K : SV → Prop} (hf : fits l x = true) (h : allLeaf l K) : ∃ y : SV, y.val = x.val ∧ K y := by
  unfold fits at hf
  split at hf
  · obtain rfl := sameK_eq hf; exact ⟨_, rfl, h _⟩
  · exact ⟨_, rfl, h _⟩
  · exact ⟨.v (.bool true), rfl, h true⟩
  · exact ⟨.v (.bool false), rfl, h false⟩
  · exact ⟨_, rfl, h _⟩
  · exact ⟨_, rfl, h _ _ _⟩
  · exact ⟨_, rfl, h _⟩
  · exact ⟨.v _, rfl, h _⟩
  · exact ⟨_, rfl, h _⟩
  · exact ⟨.v _, rfl, h _⟩
  · cases hf

theorem vals_tele {n : Nat} {e : Env} {a : Act} (hr : Rep n e a) : ∀ {live : List (Nat × Leaf)} {K : List Value → Prop} {T : Slots → List Value → Prop}, vals e live K → tele live T →
    ∃ s vs, K vs ∧ T s vs ∧ (∀ t x, look s t = some x → a.tmps[t]? = some x.val)
  | [], K, T, hv, ht => ⟨[], [], hv, ht, fun _ _ h => by cases h⟩
  | (t, l) :: r, K, T, hv, ht => by
    simp only [vals] at hv
    cases hl : look e.s t with
    | none => rw [hl] at hv; exact hv.elim
    | some x =>
      simp only [hl] at hv
      obtain ⟨hfit, hv⟩ := cond_elim hv
      obtain ⟨y, hy, ht⟩ := fits_sound hfit ht
      obtain ⟨s, vs, hK, hT, hs⟩ := vals_tele hr hv ht
      refine ⟨_, _, hK, by rw [← hy]; exact hT, fun u z hz => ?_⟩
      simp only [look] at hz
      cases hb : Nat.beq t u with
      | true =>
        rw [hb] at hz
        cases hz
        obtain rfl := Nat.eq_of_beq_eq_true hb
        rw [hr.slots t x hl, hy]
      | false => rw [hb] at hz; exact hs u z hz

def vsOf (live : List (Nat × Leaf)) (a : Act) : List Value := live.map fun p => (a.tmps[p.1]?).getD undef

theorem vals_imp {e : Env} : ∀ {live : List (Nat × Leaf)} {K K' : List Value → Prop}, vals e live K → (∀ vs, K vs → K' vs) → vals e live K'
  | [], _, _, h, hk => hk _ h
  | (t, l) :: r, _, _, h, hk => by
    simp only [vals] at h ⊢
    cases hl : look e.s t with
    | none => rw [hl] at h; exact h.elim
    | some x =>
      simp only [hl] at h ⊢
      obtain ⟨hf, h⟩ := cond_elim h
      rw [hf]
      exact vals_imp h fun vs => hk _

theorem vals_vs {n : Nat} {e : Env} {a : Act} (hr : Rep n e a) : ∀ {live : List (Nat × Leaf)} {K : List Value → Prop}, vals e live K → K (vsOf live a) ∧ vals e live fun us => us = vsOf live a
  | [], _, h => ⟨h, rfl⟩
  | (t, l) :: r, _, h => by
    simp only [vals] at h ⊢
    cases hl : look e.s t with
    | none => rw [hl] at h; exact h.elim
    | some x =>
      simp only [hl] at h ⊢
      obtain ⟨hf, h⟩ := cond_elim h
      obtain ⟨h1, h2⟩ := vals_vs hr h
      have hx := hr.slots t x hl
      have : vsOf ((t, l) :: r) a = x.val :: vsOf r a := by simp [vsOf, hx]
      rw [this, hf]
      exact ⟨h1, vals_imp h2 fun vs h => by rw [h]⟩

theorem rep_next {n : Nat} {e : Env} {a a' : Act} {D : List Nat} {s : Slots} (hr : Rep n e a) (hsz : a'.tmps.size = n) (hd : a'.defers = a.defers) (hf : ∀ t, t ∉ D → a'.tmps[t]? = a.tmps[t]?)
    (hs : ∀ t x, look s t = some x → a'.tmps[t]? = some x.val) : Rep n ⟨s ++ keep e.s D, e.d⟩ a' := by
  refine ⟨hsz, by rw [hd]; exact hr.defers, fun t x h => ?_⟩
  rcases look_app _ _ _ _ h with h | h
  · exact hs t x h
  · obtain ⟨h1, h2⟩ := look_keep _ _ _ _ h
    rw [hf t h2]; exact hr.slots t x h1

theorem mem_dstsO {ops : List Oper} {o : Oper} (h : o ∈ ops) {d : Nat} (hd : o.dst = some d) : d ∈ dstsO ops := List.mem_filterMap.2 ⟨o, h, hd⟩

def okCX (P : Program) (mp : Bool) (okD : Bool → List Oper → Option (List Nat) → Option (Nat × List (List Nat)) → Bool) (okX : Code → Ann → Bool) (n : Nat) : Code → Ann → Bool
  | .skip, _ | .ret, _ | .exit _, _ => true
  | .region _ ops false, .nil => okOps n ops.toList
  | .region _ ops false, .join _ => okOps n ops.toList && noDefO ops.toList
  | .region _ ops true, .nil => okOps n ops.toList && okD (loudR P mp ops.toList) ops.toList none none
  | .region _ ops true, .join _ => okOps n ops.toList && okD (loudR P mp ops.toList) ops.toList none none && noDefO ops.toList
  | .region _ ops true, .draw st => okOps n ops.toList && okD (loudR P mp ops.toList) ops.toList (some st) none
  | .region _ ops true, .drawLast st => okOps n ops.toList && okD (loudR P mp ops.toList) ops.toList (some st) (some (0, []))
  | .region _ ops true, .orders k ps st => okOps n ops.toList && okD (loudR P mp ops.toList) ops.toList (some st) (some (k, ps)) && !ps.isEmpty
  | .seq x y, .seq a b => okCX P mp okD okX n x a && okCX P mp okD okX n y b
  | .seq x y, .cut a _ b => noDef x && okCX P mp okD okX n x a && okCX P mp okD okX n y b
  | .cond _ x y, .cond a b => okCX P mp okD okX n x a && okCX P mp okD okX n y b
  | .block _ x, .block a => okCX P mp okD okX n x a
  | .loop x, .loop _ a => noDef x && okCX P mp okD okX n x a
  | _, .dead => true
  | c, a => okX c a

def okC (P : Program) (mp : Bool) (okD : Bool → List Oper → Option (List Nat) → Option (Nat × List (List Nat)) → Bool) (n : Nat) (c : Code) (a : Ann) : Bool := okCX P mp okD (fun _ _ => false) n c a

structure Reads (P : Program) (nd : Bool) (W : Code → (Exit → Act → World → Prop) → Act → World → Prop) : Prop where
  mono : ∀ {c : Code} {Q Q' : Exit → Act → World → Prop} {a : Act} {w : World}, (∀ e a w, Q e a w → Q' e a w) → W c Q a w → W c Q' a w
  skip : ∀ {Q : Exit → Act → World → Prop} {a : Act} {w : World}, Q .normal a w → W .skip Q a w
  ret : ∀ {Q : Exit → Act → World → Prop} {a : Act} {w : World}, Q .ret a w → W .ret Q a w
  exit : ∀ {Q : Exit → Act → World → Prop} {a : Act} {w : World} {i : Nat}, Q (.exit i) a w → W (.exit i) Q a w
  seq : ∀ {Q : Exit → Act → World → Prop} {a : Act} {w : World} {x y : Code}, W x (Exit.then (W y Q) Q) a w → W (.seq x y) Q a w
  condT : ∀ {Q : Exit → Act → World → Prop} {a : Act} {w : World} {c : Operand} {x y : Code}, a.eval c = .bool true → W x Q a w → W (.cond c x y) Q a w
  condF : ∀ {Q : Exit → Act → World → Prop} {a : Act} {w : World} {c : Operand} {x y : Code}, a.eval c = .bool false → W y Q a w → W (.cond c x y) Q a w
  block : ∀ {Q : Exit → Act → World → Prop} {a : Act} {w : World} {i : Nat} {c : Code}, W c (Exit.inBlock i Q) a w → W (.block i c) Q a w
  loop : ∀ {Q : Exit → Act → World → Prop} {a : Act} {w : World} {c : Code} (I : Act → World → Prop) (μ : Act → World → Nat), I a w →
    (∀ a w, I a w → W c (Exit.then (fun a' w' => I a' w' ∧ μ a' w' < μ a w) Q) a w) → W (.loop c) Q a w
  list : ∀ {Q : Exit → Act → World → Prop} {a : Act} {w : World} {id : Nat} {ops : Array Oper}, (nd = true → noDefO ops.toList = true ∧ ∀ a w, ¬ Q .outgrown a w) → wpList P ops Q ops.toList a w → W (.region id ops false) Q a w
  draw : ∀ {Q : Exit → Act → World → Prop} {a : Act} {w : World} {id : Nat} {ops : Array Oper}, (nd = true → noDefO ops.toList = true ∧ ∀ a w, ¬ Q .outgrown a w) →
    (∀ t, wpOps P ops Q (Region.schedule (P.follows .mixedOrders) ops t) a { w with drawn := w.drawn + 1 }) → W (.region id ops true) Q a w

theorem reads (P : Program) : Reads P false (fun c => c.wp P) where
  mono := Code.wp_mono
  skip := wp_skip
  ret := wp_ret
  exit := wp_exit
  seq := wp_seq
  condT := wp_cond_true
  condF := wp_cond_false
  block := wp_block
  loop := wp_loop
  list := fun _ h => wp_region_list h
  draw := fun _ h => wp_region_draw h

def DrawOk (P : Program) (nd : Bool) (W : Code → (Exit → Act → World → Prop) → Act → World → Prop) (mp : Bool) (okD : List Oper → Option (List Nat) → Option (Nat × List (List Nat)) → Bool) : Prop :=
  ∀ (n : Nat) (w0 : World) (Q : Post) (id : Nat) (ops : Array Oper) (st : Option (List Nat)) (k : Option (Nat × List (List Nat))) (e : Env) (a : Act) (w : World),
    (nd = true → noDefO ops.toList = true ∧ ∀ e h, ¬ Q .outgrown e h) → okOps n ops.toList = true → okD ops.toList st k = true → Rep n e a → Rest w0 w →
    (match k with
     | none => ∃ C : Hp → Prop, (st.isSome = true → C w.heap) ∧ rv P mp (st.map fun _ => C) (st.getD []) ops.toList (keepP e ops.toList Q) (numb 0 ops.toList) e w.heap
     | some (_, []) => ∃ C : Hp → Prop, C w.heap ∧ rv P mp (some C) (st.getD []) ops.toList (fun ex e' h' => match ex with
        | .normal => rv P mp none [] ops.toList (keepP e ops.toList Q) (pickO ops.toList [ops.toList.length - 1]) e' h'
        | ex => keepP e (butLast ops.toList) Q ex e' h') (pickO ops.toList (List.range (ops.toList.length - 1))) e w.heap
     | some (_, ps) => ∀ p ∈ ps, ∃ C : Hp → Prop, C w.heap ∧ rv P mp (some C) (st.getD []) ops.toList (keepP e ops.toList Q) (pickO ops.toList p) e w.heap) →
    W (.region id ops true) (Up n w0 (dstsO ops.toList) (noDefO ops.toList) a Q) a w

theorem allP_mem {l : List (List Nat)} {K : List Nat → Prop} (h : allP l K) : ∀ p ∈ l, K p := by
  induction l with
  | nil => intro p hp; cases hp
  | cons q r ih =>
    intro p hp
    cases r with
    | nil => simp at hp; subst hp; exact h
    | cons q' r' =>
      obtain ⟨h1, h2⟩ := h
      rcases List.mem_cons.1 hp with rfl | hp
      · exact h1
      · exact ih h2 p hp

section
variable {P : Program} {nd : Bool} {W : Code → (Exit → Act → World → Prop) → Act → World → Prop} {mp : Bool} {n : Nat} {w0 : World} {okD : List Oper → Option (List Nat) → Option (Nat × List (List Nat)) → Bool}

theorem Up.mono {D D' : List Nat} {nd nd' : Bool} {a0 : Act} {Q Q' : Post} {ex : Exit} {a : Act} {w : World} (h : Up n w0 D nd a0 Q ex a w) (hD : ∀ t ∈ D, t ∈ D') (hn : nd' = true → nd = true)
    (hq : ∀ e h, Q ex e h → Q' ex e h) : Up n w0 D' nd' a0 Q' ex a w :=
  ⟨h.rest, fun t ht => h.frame t fun hm => ht (hD t hm), fun hh => h.defers (hn hh), let ⟨e, hr, hp⟩ := h.post; ⟨e, hr, hq _ _ hp⟩⟩

theorem Up.kept {ops : List Oper} {nd : Bool} {a0 : Act} {e0 : Env} {Q : Post} {ex : Exit} {a : Act} {w : World} (hr : Rep n e0 a0) (h : Up n w0 (dstsO ops) nd a0 (keepP e0 ops Q) ex a w) : Up n w0 (dstsO ops) nd a0 Q ex a w := by
  obtain ⟨h1, h2, h3, e, hr', hp⟩ := h
  refine ⟨h1, h2, h3, ?_⟩
  cases ex with
  | panic c =>
    refine ⟨⟨keep e0.s (dstsO ops), e.d⟩, ⟨hr'.size, hr'.defers, fun t x hx => ?_⟩, hp⟩
    obtain ⟨k1, k2⟩ := look_keep _ _ _ _ hx
    rw [h2 t k2]
    exact hr.slots t x k1
  | _ => exact ⟨e, hr', hp⟩

theorem Up.from {D : List Nat} {nd : Bool} {a0 a1 : Act} {Q : Post} {ex : Exit} {a : Act} {w : World} (h : Up n w0 D nd a1 Q ex a w) (hf : ∀ t, t ∉ D → a1.tmps[t]? = a0.tmps[t]?)
    (hd : nd = true → a1.defers = a0.defers) : Up n w0 D nd a0 Q ex a w :=
  ⟨h.rest, fun t ht => (h.frame t ht).trans (hf t ht), fun hh => (h.defers hh).trans (hd hh), h.post⟩

theorem Up.out {D : List Nat} {nd : Bool} {a0 : Act} {Q : Post} (hq : ∀ e h, ¬ Q .outgrown e h) (a : Act) (w : World) : ¬ Up n w0 D nd a0 Q .outgrown a w := fun h => let ⟨e, _, h⟩ := h.post; hq e _ h

theorem region_sound (RR : Reads P nd W) (hP : Fine P) {Q : Post} {id : Nat} {ops : Array Oper} {e : Env} {a : Act} {w : World} (hok : okOps n ops.toList = true) (hr : Rep n e a) (hw : Rest w0 w) (hnd : nd = true → noDefO ops.toList = true ∧ ∀ e h, ¬ Q .outgrown e h)
    (h : rv P mp none [] ops.toList Q (numb 0 ops.toList) e w.heap) : W (.region id ops false) (Up n w0 (dstsO ops.toList) (noDefO ops.toList) a Q) a w :=
  RR.list (fun h => ⟨(hnd h).1, Up.out (hnd h).2⟩) (rv_sound hP ops.toList 0 e a w hok (fun _ ho _ hd => mem_dstsO ho hd) (fun h => h) hr hw (fun _ _ => rfl) (fun _ => rfl) h)

theorem region_any (RR : Reads P nd W) (hP : Fine P) (hD : DrawOk P nd W mp okD) {Q : Post} {id : Nat} {ops : Array Oper} {d : Bool} {e : Env} {a : Act} {w : World} (hok : okOps n ops.toList = true)
    (hdr : d = true → okD ops.toList none none = true) (hr : Rep n e a) (hw : Rest w0 w) (hnd : nd = true → noDefO ops.toList = true ∧ ∀ e h, ¬ Q .outgrown e h)
    (h : rv P mp none [] ops.toList (keepP e ops.toList Q) (numb 0 ops.toList) e w.heap) : W (.region id ops d) (Up n w0 (dstsO ops.toList) (noDefO ops.toList) a Q) a w := by
  cases d with
  | false => exact RR.mono (fun _ _ _ hu => hu.kept hr) (region_sound RR hP (Q := keepP e ops.toList Q) hok hr hw hnd h)
  | true => exact hD n w0 Q id ops none none e a w hnd hok (hdr rfl) hr hw ⟨fun _ => True, fun h => (by cases h), h⟩

set_option maxHeartbeats 1000000 in
theorem vc_soundW (RR : Reads P nd W) (hP : Fine P) {okD : Bool → List Oper → Option (List Nat) → Option (Nat × List (List Nat)) → Bool} (hD : ∀ m, DrawOk P nd W m (okD m)) {okX : Code → Ann → Bool}
    (hX : ∀ (c : Code) (ann : Ann) (w0 : World) (Q : Post) (e : Env) (a : Act) (w : World), okX c ann = true → (nd = true → noDef c = true ∧ ∀ e h, ¬ Q .outgrown e h) → Rep n e a → Rest w0 w → vc P mp c ann Q e w.heap → W c (Up n w0 (dsts c) (noDef c) a Q) a w) :
    ∀ (c : Code) (ann : Ann) (Q : Post) (e : Env) (a : Act) (w : World), okCX P mp okD okX n c ann = true → (nd = true → noDef c = true ∧ ∀ e h, ¬ Q .outgrown e h) → Rep n e a → Rest w0 w → vc P mp c ann Q e w.heap →
    W c (Up n w0 (dsts c) (noDef c) a Q) a w := by
  intro c
  induction c with
  | skip => exact fun ann Q e a w _ _ hr hw h => RR.skip ⟨hw, fun _ _ => rfl, fun _ => rfl, e, hr, h⟩
  | ret => exact fun ann Q e a w _ _ hr hw h => RR.ret ⟨hw, fun _ _ => rfl, fun _ => rfl, e, hr, h⟩
  | exit i => exact fun ann Q e a w _ _ hr hw h => RR.exit ⟨hw, fun _ _ => rfl, fun _ => rfl, e, hr, h⟩
  | region id ops d =>
    intro ann Q e a w hok hnd hr hw h
    have joined : ∀ s, okOps n ops.toList = true → (d = true → okD (loudR P mp ops.toList) ops.toList none none = true) → noDefO ops.toList = true → vc P mp (.region id ops d) (.join s) Q e w.heap →
        W (.region id ops d) (Up n w0 (dsts (.region id ops d)) (noDef (.region id ops d)) a Q) a w := by
      rintro s hok1 hok2 hok3 ⟨B, hv, hq⟩
      refine RR.mono ?_ (region_any RR hP (hD _) hok1 hok2 hr hw (by exact hnd) hv)
      rintro ex a' w' ⟨hrest, hf, hd, e', hr', hp⟩
      cases ex with
      | normal =>
        obtain ⟨hh, hp⟩ := hp
        refine ⟨hrest, hf, hd, _, ?_, by rw [hh]; exact hq⟩
        have hB : look e'.s s ≠ none ∧ ∀ x, look e'.s s = some x → x.val = .bool B := by
          split at hp
          · rename_i hl; exact ⟨by simp [hl], fun x hx => by rw [hl] at hx; cases hx; rw [hp]; rfl⟩
          · rename_i hl; exact ⟨by simp [hl], fun x hx => by rw [hl] at hx; cases hx; rw [hp]; rfl⟩
          · rename_i hl; exact ⟨by simp [hl], fun x hx => by rw [hl] at hx; cases hx; rw [hp]; rfl⟩
          · exact hp.elim
        refine ⟨hr'.size, ?_, fun t x hx => ?_⟩
        · rw [hd hok3]; exact hr.defers
        · simp only [look] at hx
          cases hb : Nat.beq s t with
          | true =>
            rw [hb] at hx; cases hx
            obtain rfl := Nat.eq_of_beq_eq_true hb
            cases hl : look e'.s s with
            | none => exact absurd hl hB.1
            | some x => rw [hr'.slots s x hl, hB.2 x hl]; rfl
          | false =>
            rw [hb] at hx
            obtain ⟨h1, h2⟩ := look_keep _ _ _ _ hx
            rw [hf t h2]; exact hr.slots t x h1
      | exit i => exact ⟨hrest, hf, hd, e', hr', hp⟩
      | goto i => exact ⟨hrest, hf, hd, e', hr', hp⟩
      | ret => exact ⟨hrest, hf, hd, e', hr', hp⟩
      | panic ch => exact ⟨hrest, hf, hd, e', hr', hp⟩
      | outgrown => exact ⟨hrest, hf, hd, e', hr', hp⟩
    cases d with
    | false =>
      cases ann with
      | nil => exact region_sound RR hP hok hr hw hnd h
      | join s =>
        simp only [okCX, Bool.and_eq_true] at hok
        exact joined s hok.1 (fun h => by cases h) hok.2 h
      | dead => exact (show False from h).elim
      | _ => exact hX _ _ w0 Q e a w hok hnd hr hw h
    | true =>
      cases ann with
      | nil =>
        simp only [okCX, Bool.and_eq_true] at hok
        exact region_any RR hP (hD _) hok.1 (fun _ => hok.2) hr hw hnd h
      | join s =>
        simp only [okCX, Bool.and_eq_true] at hok
        exact joined s hok.1.1 (fun _ => hok.1.2) hok.2 h
      | draw st =>
        simp only [okCX, Bool.and_eq_true] at hok
        obtain ⟨C, hC, hv⟩ := h
        exact hD _ n w0 Q id ops (some st) none e a w hnd hok.1 hok.2 hr hw ⟨C, fun _ => hC, hv⟩
      | drawLast st =>
        simp only [okCX, Bool.and_eq_true] at hok
        exact hD _ n w0 Q id ops (some st) (some (0, [])) e a w hnd hok.1 hok.2 hr hw h
      | orders k ps st =>
        simp only [okCX, Bool.and_eq_true] at hok
        cases ps with
        | nil => simp at hok
        | cons q ps => exact hD _ n w0 Q id ops (some st) (some (k, q :: ps)) e a w hnd hok.1.1 hok.1.2 hr hw (allP_mem h)
      | dead => exact (show False from h).elim
      | _ => exact hX _ _ w0 Q e a w hok hnd hr hw h
  | seq x y ihx ihy =>
    intro ann Q e a w hok hnd hr hw h
    cases ann with
    | seq b1 b2 =>
      simp only [okCX, Bool.and_eq_true] at hok
      refine RR.seq (RR.mono ?_ (ihx b1 _ e a w hok.1 (by intro h; have h1 := (hnd h).1; simp only [noDef, Bool.and_eq_true] at h1; exact ⟨h1.1, (hnd h).2⟩) hr hw h))
      intro ex a' w' hu
      cases ex with
      | normal =>
        obtain ⟨hrest, hf, hd, e', hr', hp⟩ := hu
        refine RR.mono ?_ (ihy b2 Q e' a' w' hok.2 (by intro h; have h1 := (hnd h).1; simp only [noDef, Bool.and_eq_true] at h1; exact ⟨h1.2, (hnd h).2⟩) hr' hrest hp)
        intro ex2 a2 w2 hu2
        refine Up.from (hu2.mono (D' := dsts (.seq x y)) (nd' := noDef (.seq x y)) (fun t ht => List.mem_append_right _ ht) (fun hn => ?_) (fun _ _ h => h)) (fun t ht => hf t fun hm => ht (List.mem_append_left _ hm)) (fun hn => hd ?_)
        · simp only [noDef, Bool.and_eq_true] at hn; exact hn.2
        · simp only [noDef, Bool.and_eq_true] at hn; exact hn.1
      | _ => exact hu.mono (fun t ht => List.mem_append_left _ ht) (fun hn => by simp only [noDef, Bool.and_eq_true] at hn; exact hn.1) (fun _ _ h => h)
    | cut b1 live b2 =>
      simp only [okCX, Bool.and_eq_true] at hok
      obtain ⟨J, hx, ht⟩ := h
      refine RR.seq (RR.mono ?_ (ihx b1 _ e a w hok.1.2 (by intro h; have h1 := (hnd h).1; simp only [noDef, Bool.and_eq_true] at h1; exact ⟨h1.1, (hnd h).2⟩) hr hw hx))
      intro ex a' w' hu
      cases ex with
      | normal =>
        obtain ⟨hrest, hf, hd, e', hr', hp⟩ := hu
        obtain ⟨s, vs, hJ, hT, hs⟩ := vals_tele hr' hp ht
        have hr2 := rep_next hr hr'.size (hd hok.1.1) hf hs
        refine RR.mono ?_ (ihy b2 Q _ a' w' hok.2 (by intro h; have h1 := (hnd h).1; simp only [noDef, Bool.and_eq_true] at h1; exact ⟨h1.2, (hnd h).2⟩) hr2 hrest (hT _ hJ))
        intro ex2 a2 w2 hu2
        refine Up.from (hu2.mono (D' := dsts (.seq x y)) (nd' := noDef (.seq x y)) (fun t ht => List.mem_append_right _ ht) (fun hn => ?_) (fun _ _ h => h)) (fun t ht => hf t fun hm => ht (List.mem_append_left _ hm)) (fun hn => hd ?_)
        · simp only [noDef, Bool.and_eq_true] at hn; exact hn.2
        · simp only [noDef, Bool.and_eq_true] at hn; exact hn.1
      | _ => exact hu.mono (fun t ht => List.mem_append_left _ ht) (fun hn => by simp only [noDef, Bool.and_eq_true] at hn; exact hn.1) (fun _ _ h => h)
    | dead => exact (show False from h).elim
    | _ => exact hX _ _ w0 Q e a w hok hnd hr hw h
  | cond o x y ihx ihy =>
    intro ann Q e a w hok hnd hr hw h
    cases ann with
    | cond b1 b2 =>
      simp only [okCX, Bool.and_eq_true] at hok
      obtain ⟨v, hv, h⟩ := ev_sound hr h
      have left : ∀ (h : vc P mp x b1 Q e w.heap), W x (Up n w0 (dsts (.cond o x y)) (noDef (.cond o x y)) a Q) a w := fun h =>
        RR.mono (fun ex a' w' hu => hu.mono (fun t ht => List.mem_append_left _ ht) (fun hn => by simp only [noDef, Bool.and_eq_true] at hn; exact hn.1) (fun _ _ h => h)) (ihx b1 Q e a w hok.1 (by intro h; have h1 := (hnd h).1; simp only [noDef, Bool.and_eq_true] at h1; exact ⟨h1.1, (hnd h).2⟩) hr hw h)
      have right : ∀ (h : vc P mp y b2 Q e w.heap), W y (Up n w0 (dsts (.cond o x y)) (noDef (.cond o x y)) a Q) a w := fun h =>
        RR.mono (fun ex a' w' hu => hu.mono (fun t ht => List.mem_append_right _ ht) (fun hn => by simp only [noDef, Bool.and_eq_true] at hn; exact hn.2) (fun _ _ h => h)) (ihy b2 Q e a w hok.2 (by intro h; have h1 := (hnd h).1; simp only [noDef, Bool.and_eq_true] at h1; exact ⟨h1.2, (hnd h).2⟩) hr hw h)
      split at h
      · exact RR.condT hv (left h)
      · exact RR.condF hv (right h)
      · rename_i t
        cases t with
        | true => exact RR.condT hv (left (h.1 rfl))
        | false => exact RR.condF hv (right (h.2 rfl))
      · exact h.elim
    | dead => exact (show False from h).elim
    | _ => exact hX _ _ w0 Q e a w hok hnd hr hw h
  | block i x ih =>
    intro ann Q e a w hok hnd hr hw h
    cases ann with
    | block b =>
      refine RR.block (RR.mono ?_ (ih b _ e a w hok (by intro h; exact ⟨(hnd h).1, (hnd h).2⟩) hr hw h))
      intro ex a' w' hu
      cases ex with
      | exit j =>
        obtain ⟨hrest, hf, hd, e', hr', hp⟩ := hu
        simp only [Exit.inBlock]
        cases hb : Nat.beq j i with
        | true =>
          rw [if_pos (Nat.eq_of_beq_eq_true hb)]
          simp only [hb] at hp
          exact ⟨hrest, hf, hd, e', hr', hp⟩
        | false =>
          rw [if_neg (fun e => by subst e; simp at hb)]
          simp only [hb] at hp
          exact ⟨hrest, hf, hd, e', hr', hp⟩
      | _ => exact hu.mono (fun _ h => h) (fun h => h) (fun _ _ h => h)
    | dead => exact (show False from h).elim
    | _ => exact hX _ _ w0 Q e a w hok hnd hr hw h
  | loop x ih =>
    intro ann Q e a w hok hnd hr hw h
    cases ann with
    | loop live b =>
      simp only [okCX, Bool.and_eq_true] at hok
      obtain ⟨I, μ, h0, ht⟩ := h
      refine RR.loop (fun a1 w1 => Rest w0 w1 ∧ a1.tmps.size = n ∧ (∀ t, t ∉ dsts x → a1.tmps[t]? = a.tmps[t]?) ∧ a1.defers = a.defers ∧ ∃ e1, Rep n e1 a1 ∧ vals e1 live fun us => I us w1.heap)
        (fun a1 w1 => μ (vsOf live a1) w1.heap) ⟨hw, hr.size, fun _ _ => rfl, rfl, e, hr, h0⟩ ?_
      rintro a1 w1 ⟨hrest, hsz, hf, hd, e1, hr1, hv⟩
      obtain ⟨hI, hvs⟩ := vals_vs hr1 hv
      obtain ⟨s, vs, rfl, hT, hs⟩ := vals_tele hr1 hvs ht
      have hr2 := rep_next hr hsz hd hf hs
      refine RR.mono ?_ (ih b _ _ a1 w1 hok.2 (by intro h; exact ⟨(hnd h).1, (hnd h).2⟩) hr2 hrest (hT _ hI))
      intro ex a2 w2 hu
      have hfr : ∀ t, t ∉ dsts x → a2.tmps[t]? = a.tmps[t]? := fun t ht => (hu.frame t ht).trans (hf t ht)
      have hdd : a2.defers = a.defers := (hu.defers hok.1).trans hd
      cases ex with
      | normal =>
        obtain ⟨hrest2, _, _, e2, hr3, hp⟩ := hu
        obtain ⟨⟨_, hlt⟩, _⟩ := vals_vs hr3 hp
        exact ⟨⟨hrest2, hr3.size, hfr, hdd, e2, hr3, vals_imp hp fun _ h => h.1⟩, hlt⟩
      | _ => exact ⟨hu.rest, hfr, fun _ => hdd, hu.post⟩
    | dead => exact (show False from h).elim
    | _ => exact hX _ _ w0 Q e a w hok hnd hr hw h
  | _ => intro ann Q e a w hok hnd hr hw h; cases ann <;> first | exact (show False from h).elim | exact hX _ _ w0 Q e a w hok hnd hr hw h

theorem vc_sound (hP : Fine P) {okD : Bool → List Oper → Option (List Nat) → Option (Nat × List (List Nat)) → Bool} (hD : ∀ m, DrawOk P false (fun c => c.wp P) m (okD m)) (c : Code) (ann : Ann) (Q : Post) (e : Env) (a : Act) (w : World) (hok : okC P mp okD n c ann = true) (hr : Rep n e a) (hw : Rest w0 w) (hv : vc P mp c ann Q e w.heap) :
    c.wp P (Up n w0 (dsts c) (noDef c) a Q) a w :=
  vc_soundW (reads P) hP hD (fun _ _ _ _ _ _ _ h => by cases h) c ann Q e a w hok (fun h => by cases h) hr hw hv

end

end Go.Vc

/- The fourth part: functions. -/
namespace Go.Vc
open Go

theorem loadV_back {P : Program} {w : World} {t : TypeId} {b o : Nat} {K : SV → Prop} (h : loadV P t (cellsAt w.heap) b o K) :
    ∃ x : SV, (loadVar t ⟨b, o, none⟩).run P w = .ok x.val w ∧ K x := by
  obtain ⟨vs, x, hrd, hK, hrun⟩ := loadV_sound h
  exact ⟨x, by simpa [Instr.loadAt, Instr.sureAddr] using hrun w hrd, hK⟩

def readR (tmps : Array Value) : ResultVar → Sem Value
  | .tmp t => pure (tmps.getD t undef)
  | .cell a t => do loadVar t (← asAddr (tmps.getD a undef))

theorem one_sound {P : Program} {n : Nat} {e : Env} {a : Act} {w : World} (hr : Rep n e a) {r : ResultVar} {K : Value → Prop} (h : backV.one P e w.heap r K) :
    ∃ v, (readR a.tmps r).run P w = .ok v w ∧ K v := by
  unfold backV.one at h
  split at h
  · split at h
    · rename_i x hx
      exact ⟨_, by simp [readR, hr.slots _ x hx], h⟩
    · exact h.elim
  · split at h
    · rename_i x hx
      obtain ⟨b, o, hv, h⟩ := asPtr_sound h
      obtain ⟨y, hrun, hK⟩ := loadV_back h
      exact ⟨_, by simp [readR, hr.slots _ x hx, hv, asAddr, hrun], hK⟩
    · exact h.elim

theorem all_sound {P : Program} {n : Nat} {e : Env} {a : Act} {w : World} (hr : Rep n e a) : ∀ {rs : List ResultVar} {K : List Value → Prop}, backV.all P e w.heap rs K →
    ∃ vs, (rs.mapM (readR a.tmps)).run P w = .ok vs w ∧ vs.length = rs.length ∧ K vs
  | [], _, h => ⟨[], by simp, rfl, h⟩
  | r :: rs, _, h => by
    obtain ⟨v, hv, h⟩ := one_sound hr h
    obtain ⟨vs, hvs, hl, h⟩ := all_sound hr h
    exact ⟨v :: vs, by simp [hv, hvs], by simp [hl], h⟩

theorem back_sound {P : Program} {n : Nat} {e : Env} {a : Act} {w : World} (hr : Rep n e a) {fn : Func} {K : Value → Prop} (h : backV P fn.results.toList e w.heap K) :
    ∃ v, (results fn a.tmps).run P w = .ok v w ∧ K v := by
  have hres : results fn a.tmps = (do
      let vs ← fn.results.mapM (readR a.tmps)
      pure (if h : vs.size = 1 then vs[0] else .tuple vs)) := rfl
  have key : ∀ vs, (fn.results.toList.mapM (readR a.tmps)).run P w = .ok vs w → (results fn a.tmps).run P w = .ok (if h : vs.length = 1 then vs[0] else .tuple vs.toArray) w := by
    intro vs hvs
    rw [hres, ← Array.toArray_toList (xs := fn.results)]
    simp only [List.mapM_toArray, Sem.run_bind, Sem.run_map, hvs, Result.andThen_ok, Sem.run_pure]
    simp
  unfold backV at h
  split at h
  · rename_i r hl
    obtain ⟨v, hv, hK⟩ := one_sound hr h
    refine ⟨v, ?_, hK⟩
    have := key [v] (by rw [hl]; simp [hv])
    simpa using this
  · rename_i hne
    obtain ⟨vs, hvs, hlen, hK⟩ := all_sound hr h
    refine ⟨_, ?_, hK⟩
    have := key vs hvs
    rw [this]
    have h1 : vs.length ≠ 1 := by
      intro e1
      rw [e1] at hlen
      match hrs : fn.results.toList, hlen with
      | [r], _ => exact hne r hrs
    rw [dif_neg h1]

theorem look_start (vs : List Value) (i t : Nat) (x : SV) (h : look (startS i vs) t = some x) : i ≤ t ∧ vs[t - i]? = some x.val := by
  induction vs generalizing i with
  | nil => cases h
  | cons v r ih =>
    simp only [startS, look] at h
    cases hb : Nat.beq i t with
    | true =>
      rw [hb] at h
      cases h
      obtain rfl := Nat.eq_of_beq_eq_true hb
      simp
    | false =>
      rw [hb] at h
      obtain ⟨h1, h2⟩ := ih (i + 1) h
      refine ⟨by omega, ?_⟩
      rw [show t - i = (t - (i + 1)) + 1 from by omega]
      simpa using h2

def okF (P : Program) (mp : Bool) (okD : Bool → List Oper → Option (List Nat) → Option (Nat × List (List Nat)) → Bool) (fn : Func) (ann : Ann) (k : Nat) : Bool :=
  match fn.body with
  | none => false
  | some c => Nat.ble k fn.ntmps && noDef c && okC P mp okD fn.ntmps c ann

theorem fn_sound {P : Program} {mp : Bool} {okD : Bool → List Oper → Option (List Nat) → Option (Nat × List (List Nat)) → Bool} (hP : Fine P) (hD : ∀ m, DrawOk P false (fun c => c.wp P) m (okD m)) {f : FuncId} {fn : Func} (hf : P.funcs[f]? = some fn) {ann : Ann} {args : List Value} {h : Hp}
    {R : Ending → Hp → Prop} (hok : okF P mp okD fn ann args.length = true) (hv : fnV P mp fn ann args h R) : CallsH P f args.toArray h R := by
  intro w hw
  subst hw
  unfold okF at hok
  unfold fnV at hv
  cases hb : fn.body with
  | none => rw [hb] at hok; cases hok
  | some c =>
    simp only [hb, Bool.and_eq_true] at hok hv
    obtain ⟨⟨hle, hnd⟩, hok⟩ := hok
    have hle' : args.length ≤ fn.ntmps := Nat.le_of_ble_eq_true hle
    refine calls_of_wp hf hb (Code.wp_mono ?_ (vc_sound (w0 := w) hP hD c ann _ ⟨startS 0 args, []⟩ _ w hok ⟨?_, rfl, ?_⟩ (Rest.refl w) hv))
    · intro ex a' w' hu
      obtain ⟨hrest, _, hd, e, hr, hp⟩ := hu
      have hd' : a'.defers = [] := hd hnd
      cases ex with
      | normal =>
        obtain ⟨v, hrun, hR⟩ := back_sound hr hp
        exact ⟨hd', v, hrun, by simp, hrest, hR⟩
      | ret =>
        obtain ⟨v, hrun, hR⟩ := back_sound hr hp
        exact ⟨hd', v, hrun, by simp, hrest, hR⟩
      | panic ch => exact ⟨hd', by simp, hrest, hp⟩
      | exit i => exact hp.elim
      | goto i => exact hp.elim
      | outgrown => exact hp.elim
    · simp; omega
    · intro t x hx
      obtain ⟨_, h2⟩ := look_start args 0 t x hx
      have hlt : t < args.length := by
        have := (List.getElem?_eq_some_iff.1 h2).1
        omega
      simp only [Nat.sub_zero] at h2
      rw [Array.getElem?_append_left (by simpa using hlt)]
      simpa using h2

end Go.Vc

