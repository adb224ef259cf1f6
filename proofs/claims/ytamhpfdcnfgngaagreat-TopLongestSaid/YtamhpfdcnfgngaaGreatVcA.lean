/- The first part of a generator of verification conditions: environments, operations without memory, and that they are sound. -/
import Derived.WalkKit
import Derived.Deep.Quiet
set_option maxRecDepth 10000
namespace Go.Vc
open Go

inductive SV where
  | v (x : Value)
  | tt
  | ff
  /-- An address that is none of nil. -/
  | ptr (b o : Nat)

def SV.val : SV → Value
  | .v x => x
  | .ptr b o => .pointer (some ⟨b, o, none⟩)
  | .tt => .bool true
  | .ff => .bool false

@[simp] theorem SV.val_v (x : Value) : (SV.v x).val = x := rfl
@[simp] theorem SV.val_tt : SV.tt.val = .bool true := rfl
@[simp] theorem SV.val_ff : SV.ff.val = .bool false := rfl
@[simp] theorem SV.val_ptr (b o : Nat) : (SV.ptr b o).val = .pointer (some ⟨b, o, none⟩) := rfl

abbrev Slots := List (Nat × SV)

structure Env where
  s : Slots
  d : List Deferred

def look : Slots → Nat → Option SV
  | [], _ => none
  | (k, x) :: r, n => cond (Nat.beq k n) (some x) (look r n)

def Env.put (e : Env) (d : Option Nat) (x : SV) : Env :=
  match d with
  | some d => ⟨(d, x) :: e.s, e.d⟩
  | none => e

def konst (v : Value) : SV :=
  match v with
  | .bool true => .tt
  | .bool false => .ff
  | v => .v v

def ev (e : Env) (o : Operand) (K : SV → Prop) : Prop :=
  match o with
  | .tmp t => match look e.s t with
    | some x => K x
    | none => False
  | .const v => K (konst v)
  | .global g => K (.ptr g 0)
  | .func f => K (.v (.func (.func f) #[] #[]))

def sameK : IntKind → IntKind → Bool
  | .i8, .i8 | .i16, .i16 | .i32, .i32 | .i64, .i64 | .u8, .u8 | .u16, .u16 | .u32, .u32 | .u64, .u64 => true
  | _, _ => false

theorem sameK_eq {a b : IntKind} (h : sameK a b = true) : a = b := by cases a <;> cases b <;> first | rfl | cases h

def andI (k : IntKind) (m n : Int) : Int := k.wrap (BitVec.ofInt k.bits m &&& BitVec.ofInt k.bits n).toNat
def orI (k : IntKind) (m n : Int) : Int := k.wrap (BitVec.ofInt k.bits m ||| BitVec.ofInt k.bits n).toNat
def xorI (k : IntKind) (m n : Int) : Int := k.wrap (BitVec.ofInt k.bits m ^^^ BitVec.ofInt k.bits n).toNat
def clrI (k : IntKind) (m n : Int) : Int := k.wrap (BitVec.ofInt k.bits m &&& ~~~BitVec.ofInt k.bits n).toNat
def notI (k : IntKind) (n : Int) : Int := xorI k (if k.signed then -1 else k.max) n
def shlI (k : IntKind) (m n : Int) : Int := k.wrap (m * 2 ^ (min n.toNat k.bits))
def shrI (k : IntKind) (m n : Int) : Int := m.fdiv (2 ^ (min n.toNat k.bits))

def EqV (P : Program) (t : TypeId) (x y : Value) (b : Bool) : Prop := ∀ w : World, (Op.equal t x y).run P w = .ok b w

def guardFree (P : Program) (t : TypeId) : Value → Value → Bool
  | .agg _, .agg _ => !P.eqGuardType P.depth t
  | .bool _, .bool _ | .pointer _, .pointer _ | .slice .., .slice .. | .map _, .map _ | .func .., .nilFunc | .nilFunc, .func .. | .nilFunc, .nilFunc
  | .iface .., .iface .. | .iface .., .nilIface | .nilIface, .iface .. => true
  | _, _ => false

def opq (P : Program) (t : TypeId) : Bool := match P.underlying t with
  | some (.interface ms) => !ms.isEmpty
  | _ => false

def opqV (P : Program) (op : BinOp) (t : TypeId) (x y : Value) (K : SV → Prop) : Prop :=
  match op with
  | .eql => guardFree P t x y = true ∧ ∃ b, EqV P t x y b ∧ K (.v (.bool b))
  | .neq => guardFree P t x y = true ∧ ∃ b, EqV P t x y b ∧ K (.v (.bool (!b)))
  | _ => False

def opqN (x : Value) (Ky Kn : Prop) : Prop := (x = .nilIface ∧ Ky) ∨ ((∃ s v, x = .iface s v) ∧ Kn)

def binV (P : Program) (op : BinOp) (t : TypeId) (x y : Value) (K : SV → Prop) : Prop :=
  match op, x, y with
  | .shl, .int k m, .int _ n => 0 ≤ n ∧ ∃ r, shlI k m n = r ∧ K (.v (.int k r))
  | .shr, .int k m, .int _ n => 0 ≤ n ∧ ∃ r, shrI k m n = r ∧ K (.v (.int k r))
  | op, .int k m, .int k' n => match sameK k k' with
    | false => False
    | true => match op with
      | .add => ∃ r, k.wrap (m + n) = r ∧ K (.v (.int k r))
      | .sub => ∃ r, k.wrap (m - n) = r ∧ K (.v (.int k r))
      | .mul => ∃ r, k.wrap (m * n) = r ∧ K (.v (.int k r))
      | .quo => n ≠ 0 ∧ ∃ r, k.wrap (m.tdiv n) = r ∧ K (.v (.int k r))
      | .rem => n ≠ 0 ∧ ∃ r, m.tmod n = r ∧ K (.v (.int k r))
      | .and => ∃ r, andI k m n = r ∧ K (.v (.int k r))
      | .or => ∃ r, orI k m n = r ∧ K (.v (.int k r))
      | .xor => ∃ r, xorI k m n = r ∧ K (.v (.int k r))
      | .andNot => ∃ r, clrI k m n = r ∧ K (.v (.int k r))
      | .eql => K (.v (.bool (decide (m = n))))
      | .neq => K (.v (.bool (decide (m ≠ n))))
      | .lss => K (.v (.bool (decide (m < n))))
      | .leq => K (.v (.bool (decide (m ≤ n))))
      | .gtr => K (.v (.bool (decide (n < m))))
      | .geq => K (.v (.bool (decide (n ≤ m))))
      | _ => False
  | .add, .string a, .string b => a.size + b.size ≤ 9223372036854775807 ∧ ∃ r, a ++ b = r ∧ K (.v (.string r))
  | .eql, .string a, .string b => K (.v (.bool (decide (a = b))))
  | .neq, .string a, .string b => K (.v (.bool (decide (a ≠ b))))
  | .eql, x, y => match guardFree P t x y with
    | true => ∃ b, EqV P t x y b ∧ K (.v (.bool b))
    | false => False
  | .neq, x, y => match guardFree P t x y with
    | true => ∃ b, EqV P t x y b ∧ K (.v (.bool (!b)))
    | false => False
  | _, _, _ => False

def nth : List Value → Nat → Option Value
  | [], _ => none
  | v :: r, n => cond (Nat.beq n 0) (some v) (nth r (n - 1))

def bound (o : Option Operand) (e : Env) (K : Option Int → Prop) : Prop :=
  match o with
  | none => K none
  | some o => ev e o fun x => match x.val with
    | .int _ n => K (some n)
    | _ => False

def lowOf (o : Option Int) (K : Nat → Prop) : Prop :=
  match o with
  | none => K 0
  | some n => ∃ l : Nat, n = l ∧ K l

def highOf (o : Option Int) (m : Nat) (K : Nat → Prop) : Prop :=
  match o with
  | none => K m
  | some n => ∃ l : Nat, n = l ∧ K l

def szOf (P : Program) (t : TypeId) (K : Nat → Prop) : Prop :=
  match P.info? t with
  | some i => K i.size
  | none => False

def asPtr (x : SV) (K : Nat → Nat → Prop) : Prop :=
  match x with
  | .ptr b o => K b o
  | .v (.pointer p) => ∃ b o, p = some ⟨b, o, none⟩ ∧ K b o
  | _ => False

theorem asPtr_sound {x : SV} {K : Nat → Nat → Prop} (h : asPtr x K) : ∃ b o, x.val = .pointer (some ⟨b, o, none⟩) ∧ K b o := by
  unfold asPtr at h
  split at h
  · exact ⟨_, _, rfl, h⟩
  · obtain ⟨b, o, rfl, h⟩ := h; exact ⟨b, o, rfl, h⟩
  · exact h.elim

def cutP (p : Option Addr) (c l z : Nat) : Option Addr := if c = l then p else p.map (·.add (l * z))

def pv (P : Program) (op : Op) (e : Env) (K : SV → Prop) : Prop :=
  match op with
  | .move x | .assign x => ev e x K
  | .pick c a b => ev e c fun c => match c with
    | .tt => ev e a K
    | .ff => ev e b K
    | .v (.bool c) => (c = true → ev e a K) ∧ (c = false → ev e b K)
    | _ => False
  | .binOp .neq t x (.const .nilIface) _ => ev e x fun x => match P.underlying t with
    | some (.interface ms) => match ms.isEmpty with
      | false => opqN x.val (K .ff) (K .tt)
      | true => match x.val with
        | .nilIface => K .ff
        | .iface _ _ => K .tt
        | _ => False
    | _ => False
  | .binOp .eql t x (.const .nilIface) _ => ev e x fun x => match P.underlying t with
    | some (.interface ms) => match ms.isEmpty with
      | false => opqN x.val (K .tt) (K .ff)
      | true => match x.val with
        | .nilIface => K .tt
        | .iface _ _ => K .ff
        | _ => False
    | _ => False
  | .binOp op t x y _ => ev e x fun x => ev e y fun y => match opq P t with
    | true => opqV P op t x.val y.val K
    | false => binV P op t x.val y.val K
  | .unOp op _ x => ev e x fun x => match op, x with
    | .not, .tt => K .ff
    | .not, .ff => K .tt
    | .not, .v (.bool b) => K (.v (.bool (!b)))
    | .neg, .v (.int k n) => ∃ r, k.wrap (0 - n) = r ∧ K (.v (.int k r))
    | .xor, .v (.int k n) => ∃ r, notI k n = r ∧ K (.v (.int k r))
    | _, _ => False
  | .convert s d x => ev e x fun x => match P.underlying s, P.underlying d, x.val with
    | some _, some (.int k), .int _ n => ∃ r, k.wrap n = r ∧ K (.v (.int k r))
    | some _, some .string, .string s => K (.v (.string s))
    | _, _, _ => False
  | .extract t i => ev e t fun t => match t.val with
    | .tuple vs => match nth vs.toList i with
      | some v => K (.v v)
      | none => False
    | _ => False
  | .nilCheck x => ev e x fun x => match x with
    | .ptr b o => K (.ptr b o)
    | .v (.pointer p) => ∃ b o, p = some ⟨b, o, none⟩ ∧ K (.ptr b o)
    | .v (.func (.func f) a b) => K (.v (.func (.func f) a b))
    | _ => False
  | .index t x i => ev e x fun x => ev e i fun i => match P.underlying t, x.val, i.val with
    | some .string, .string s, .int _ i => 0 ≤ i ∧ ∃ c : UInt8, s[i.toNat]? = some c ∧ K (.v (.int .u8 (c.toNat : Int)))
    | _, _, _ => False
  | .field t x f => ev e x fun x => match P.underlying t, x.val with
    | some (.struct fs), .agg cs => match fs.toList[f]? with
      | some fd => match P.underlying fd.type with
        | none | some (.struct _) | some (.array ..) => False
        | some _ => match nth cs.toList fd.offset with
          | some v => K (.v v)
          | none => False
      | none => False
    | _, _ => False
  | .fieldAddr t x f => ev e x fun x => asPtr x fun b o => match P.underlying t with
    | some (.struct fs) => match fs.toList[f]? with
      | some fd => szOf P fd.type fun z => cond (Nat.beq z 0) False (K (.ptr b (o + fd.offset)))
      | none => False
    | _ => False
  | .indexAddr t x i => ev e x fun x => ev e i fun i => match P.underlying t, i.val with
    | some (.slice el), .int _ i => szOf P el fun z => match x.val with
      | .slice p n _ => ∃ b o, p = some ⟨b, o, none⟩ ∧ 0 ≤ i ∧ i < n ∧ K (.ptr b (o + i.toNat * z))
      | _ => False
    | some (.array n el), .int _ i => szOf P el fun z => asPtr x fun b o => 0 ≤ i ∧ i < n ∧ K (.ptr b (o + i.toNat * z))
    | _, _ => False
  | .slice t x lo hi none => ev e x fun x => bound lo e fun lo => bound hi e fun hi => match P.underlying t with
    | some .string => match x.val with
      | .string s => lowOf lo fun l => highOf hi s.size fun h => l ≤ h ∧ h ≤ s.size ∧ ∃ r, s.extract l h = r ∧ K (.v (.string r))
      | _ => False
    | some (.slice el) => match x.val with
      | .slice p n c => szOf P el fun z => lowOf lo fun l => highOf hi n fun h => l ≤ h ∧ h ≤ c ∧
        ∃ p', cutP p c l z = p' ∧ K (.v (.slice p' (h - l) (c - l)))
      | _ => False
    | some (.array n el) => asPtr x fun b o => szOf P el fun z => lowOf lo fun l => highOf hi n fun h => l ≤ h ∧ h ≤ n ∧
        ∃ p', cutP (some ⟨b, o, none⟩) n l z = p' ∧ K (.v (.slice p' (h - l) (n - l)))
    | _ => False
  | .makeFunc fn first captured => evs e first.toList fun xs => evs e captured.toList fun ys => K (.v (.func fn xs.toArray ys.toArray))
  | .makeInterface t x => ev e x fun x => match P.underlying t with
    | none | some (.interface _) => False
    | some _ => K (.v (.iface t x.val))
  | .typeAssert x _ t ok => ev e x fun x => match P.underlying t with
    | none | some (.interface _) => False
    | some _ => match x.val with
      | .iface t' v => cond (Nat.beq t' t) (cond ok (K (.v (.tuple #[v, .bool true]))) (K (.v v))) False
      | .nilIface => match ok, P.info? t with
        | true, some i => match i.zero with
          | some z => K (.v (.tuple #[z, .bool false]))
          | none => False
        | _, _ => False
      | _ => False
  | .call { callee := .builtin b, args, argTypes } => evs e args.toList fun xs => builtinV P b argTypes xs K
  | .build t parts => evs e (parts.toList.map (·.2)) fun xs => match P.info? t, P.underlying t with
    | some i, some (.struct fs) => match i.zero with
      | some z => match fs.toList.all fun f => (P.info? f.type).isSome with
        | true => match Instr.fill (fun k => (fs.toList.map fun f => (f.offset, P.cellsOf f.type))[k]?) z.cells ((parts.toList.map (·.1)).zip xs) with
          | some cs => K (.v (.agg cs))
          | none => False
        | false => False
      | none => False
    | _, _ => False
  | _ => False
where
  evs (e : Env) (l : List Operand) (K : List Value → Prop) : Prop :=
    match l with
    | [] => K []
    | o :: r => ev e o fun x => evs e r fun xs => K (x.val :: xs)
  builtinV (P : Program) (b : Builtin) (ts : Array TypeId) (xs : List Value) (K : SV → Prop) : Prop :=
    match b, xs with
    | .len, [.string s] => match ts.toList with
      | [t] => match P.underlying t with
        | some .string => K (.v (.int .i64 (s.size : Int)))
        | _ => False
      | _ => False
    | .len, [.slice _ n _] => match ts.toList with
      | [t] => match P.underlying t with
        | some (.slice _) => K (.v (.int .i64 (n : Int)))
        | _ => False
      | _ => False
    | .max, [.int k x, .int k' y] => match sameK k k' with
      | true => K (.v (.int k (max x y)))
      | false => False
    | .min, [.int k x, .int k' y] => match sameK k k' with
      | true => K (.v (.int k (min x y)))
      | false => False
    | .min, [.int k x, .int k' y, .int k'' z] => match sameK k k', sameK k k'' with
      | true, true => K (.v (.int k (min (min x y) z)))
      | _, _ => False
    | _, _ => False

structure Rep (n : Nat) (e : Env) (a : Act) : Prop where
  size : a.tmps.size = n
  defers : a.defers = e.d
  slots : ∀ t x, look e.s t = some x → a.tmps[t]? = some x.val

theorem konst_val (v : Value) : (konst v).val = v := by
  unfold konst
  split <;> rfl

theorem ev_sound {n : Nat} {e : Env} {a : Act} {o : Operand} {K : SV → Prop} (hr : Rep n e a) (h : ev e o K) : ∃ x, a.eval o = x.val ∧ K x := by
  cases o with
  | tmp t =>
    simp only [ev] at h
    split at h
    · rename_i x hx
      refine ⟨x, ?_, h⟩
      have := hr.slots t x hx
      simp [Act.eval, this]
    · exact h.elim
  | const v => exact ⟨konst v, by simp [Act.eval, konst_val], h⟩
  | global g => exact ⟨_, rfl, h⟩
  | func f => exact ⟨_, rfl, h⟩

theorem nth_eq (l : List Value) (n : Nat) : nth l n = l[n]? := by
  induction l generalizing n with
  | nil => simp [nth]
  | cons v r ih =>
    cases n with
    | zero => simp [nth]
    | succ n => simp only [nth, Nat.beq, cond_false, Nat.add_sub_cancel, ih, List.getElem?_cons_succ]


theorem evs_sound {n : Nat} {e : Env} {a : Act} (hr : Rep n e a) : ∀ {l : List Operand} {K : List Value → Prop}, pv.evs e l K → ∃ xs, l.map a.eval = xs ∧ K xs := by
  intro l
  induction l with
  | nil => exact fun h => ⟨[], rfl, h⟩
  | cons o r ih =>
    intro K h
    simp only [pv.evs] at h
    obtain ⟨x, hx, h⟩ := ev_sound hr h
    obtain ⟨xs, hxs, h⟩ := ih h
    exact ⟨_, by simp [hx, hxs], h⟩

theorem szOf_sound {P : Program} {t : TypeId} {K : Nat → Prop} (h : szOf P t K) : ∃ i, P.info? t = some i ∧ K i.size := by
  unfold szOf at h
  split at h
  · exact ⟨_, by assumption, h⟩
  · exact h.elim

theorem run_szOf {P : Program} {t : TypeId} {i : TypeInfo} (h : P.info? t = some i) (w : World) : (sizeOf t).run P w = .ok i.size w := by
  simp [sizeOf, typeInfo, h]

def IsB (o : Option Int) (m l : Nat) : Prop := match o with
  | none => l = m
  | some n => n = l

theorem lowOf_sound {o : Option Int} {K : Nat → Prop} (h : lowOf o K) : ∃ l : Nat, IsB o 0 l ∧ K l := by
  cases o with
  | none => exact ⟨0, rfl, h⟩
  | some n => exact h

theorem highOf_sound {o : Option Int} {m : Nat} {K : Nat → Prop} (h : highOf o m K) : ∃ l : Nat, IsB o m l ∧ K l := by
  cases o with
  | none => exact ⟨m, rfl, h⟩
  | some n => exact h

def HasB (a : Act) (o : Option Operand) (x : Option Int) : Prop := match o with
  | none => x = none
  | some o => ∃ k m, a.eval o = .int k m ∧ x = some m

theorem bound_sound {n : Nat} {e : Env} {a : Act} (hr : Rep n e a) {o : Option Operand} {K : Option Int → Prop} (h : bound o e K) :
    ∃ x, HasB a o x ∧ K x := by
  cases o with
  | none => exact ⟨none, rfl, h⟩
  | some o =>
    simp only [bound] at h
    obtain ⟨x, hx, h⟩ := ev_sound hr h
    split at h
    · rename_i k m hv
      exact ⟨some m, ⟨k, m, by rw [hx, hv], rfl⟩, h⟩
    · exact h.elim

theorem eq_toList (a b : ByteArray) : (a.toList == b.toList) = decide (a = b) := by
  have h : a.toList = b.toList ↔ a = b := by
    constructor
    · intro h
      rw [ByteArray.toList_eq, ByteArray.toList_eq] at h
      cases a; cases b
      simp at h
      rw [h]
    · rintro rfl; rfl
  by_cases hh : a = b
  · subst hh; simp
  · have : ¬ a.toList = b.toList := fun e => hh (h.1 e)
    simp [hh, this]


theorem guardFree_eq {P : Program} {t : TypeId} {x y : Value} (h : guardFree P t x y = true) :
    (∀ (xo yo : Operand) (w : World), (eqGuard .eql t xo yo x y).run P w = .ok () w) ∧ (binOp .eql t x y = do pure (.bool (← Op.equal t x y))) ∧
    (∀ (xo yo : Operand) (w : World), (eqGuard .neq t xo yo x y).run P w = .ok () w) ∧ (binOp .neq t x y = do pure (.bool (!(← Op.equal t x y)))) := by
  unfold guardFree at h
  split at h <;> first
    | exact (Bool.false_ne_true h).elim
    | (simp only [Bool.not_eq_true'] at h; exact ⟨fun _ _ _ => by simp [eqGuard, h], rfl, fun _ _ _ => by simp [eqGuard, h], rfl⟩)
    | exact ⟨fun _ _ _ => by simp [eqGuard], rfl, fun _ _ _ => by simp [eqGuard], rfl⟩

theorem binV_sound {P : Program} {op : BinOp} {t : TypeId} {x y : Value} {K : SV → Prop} (h : binV P op t x y K) (xo yo : Operand) :
    ∃ r : SV, (∀ w : World, (do eqGuard op t xo yo x y; binOp op t x y : Sem Value).run P w = .ok r.val w) ∧ K r := by
  unfold binV at h
  split at h
  · obtain ⟨h0, r, rfl, h⟩ := h
    exact ⟨_, fun w => by simp [eqGuard, binOp, Op.shift, shlI, Int.not_lt.2 h0], h⟩
  · obtain ⟨h0, r, rfl, h⟩ := h
    exact ⟨_, fun w => by simp [eqGuard, binOp, Op.shift, shrI, Int.not_lt.2 h0], h⟩
  · rename_i k m k' n hl hr
    split at h
    · exact h.elim
    · rename_i hk
      obtain rfl := sameK_eq hk
      split at h
      · obtain ⟨r, rfl, h⟩ := h; exact ⟨_, fun w => by simp [eqGuard, binOp, Op.intArith], h⟩
      · obtain ⟨r, rfl, h⟩ := h; exact ⟨_, fun w => by simp [eqGuard, binOp, Op.intArith], h⟩
      · obtain ⟨r, rfl, h⟩ := h; exact ⟨_, fun w => by simp [eqGuard, binOp, Op.intArith], h⟩
      · obtain ⟨h0, r, rfl, h⟩ := h; exact ⟨_, fun w => by simp [eqGuard, binOp, Op.intDiv, h0], h⟩
      · obtain ⟨h0, r, rfl, h⟩ := h; exact ⟨_, fun w => by simp [eqGuard, binOp, Op.intDiv, h0], h⟩
      · obtain ⟨r, rfl, h⟩ := h; exact ⟨_, fun w => by simp [eqGuard, binOp, Op.intBits, andI], h⟩
      · obtain ⟨r, rfl, h⟩ := h; exact ⟨_, fun w => by simp [eqGuard, binOp, Op.intBits, orI], h⟩
      · obtain ⟨r, rfl, h⟩ := h; exact ⟨_, fun w => by simp [eqGuard, binOp, Op.intBits, xorI], h⟩
      · obtain ⟨r, rfl, h⟩ := h; exact ⟨_, fun w => by simp [eqGuard, binOp, Op.intBits, clrI], h⟩
      · refine ⟨_, fun w => ?_, h⟩; simp only [eqGuard, binOp, Op.intCmp]; simp; rfl
      · refine ⟨_, fun w => ?_, h⟩; simp only [eqGuard, binOp, Op.intCmp]; simp [bne]; rfl
      · exact ⟨_, fun w => by simp [eqGuard, binOp, Op.intCmp], h⟩
      · exact ⟨_, fun w => by simp [eqGuard, binOp, Op.intCmp], h⟩
      · exact ⟨_, fun w => by simp [eqGuard, binOp, Op.intCmp], h⟩
      · exact ⟨_, fun w => by simp [eqGuard, binOp, Op.intCmp], h⟩
      · exact h.elim
  · obtain ⟨h0, _, rfl, h⟩ := h
    refine ⟨_, fun w => ?_, h⟩
    simp [eqGuard, binOp, Op.stringOp]
    omega
  · exact ⟨_, fun w => by simp [eqGuard, binOp, Op.stringOp, eq_toList], h⟩
  · exact ⟨_, fun w => by simp [eqGuard, binOp, Op.stringOp, eq_toList], h⟩
  · split at h
    · rename_i hg
      obtain ⟨b, hb, h⟩ := h
      obtain ⟨h1, h2, _⟩ := guardFree_eq hg
      exact ⟨_, fun w => by simp [h1, h2, hb w], h⟩
    · exact h.elim
  · split at h
    · rename_i hg
      obtain ⟨b, hb, h⟩ := h
      obtain ⟨_, _, h1, h2⟩ := guardFree_eq hg
      exact ⟨_, fun w => by simp [h1, h2, hb w], h⟩
    · exact h.elim
  · exact h.elim


theorem opqV_sound {P : Program} {op : BinOp} {t : TypeId} {x y : Value} {K : SV → Prop} (h : opqV P op t x y K) (xo yo : Operand) :
    ∃ r : SV, (∀ w : World, (do eqGuard op t xo yo x y; binOp op t x y : Sem Value).run P w = .ok r.val w) ∧ K r := by
  unfold opqV at h
  split at h
  · obtain ⟨hg, b, hb, h⟩ := h
    obtain ⟨h1, h2, _⟩ := guardFree_eq hg
    exact ⟨.v (.bool b), fun w => by simp [h1, h2, hb w], h⟩
  · obtain ⟨hg, b, hb, h⟩ := h
    obtain ⟨_, _, h1, h2⟩ := guardFree_eq hg
    exact ⟨.v (.bool (!b)), fun w => by simp [h1, h2, hb w], h⟩
  · exact h.elim

theorem builtinV_sound {P : Program} {b : Builtin} {ts : Array TypeId} {xs : List Value} {K : SV → Prop} (h : pv.builtinV P b ts xs K) (ty : TypeId) (cs : Array Bool) :
    ∃ r : SV, (∀ w : World, (builtin b ts ty cs xs.toArray).run P w = .ok (.value r.val) w) ∧ K r := by
  unfold pv.builtinV at h
  split at h
  · split at h
    · rename_i hl
      split at h
      · rename_i hu
        have : ts = #[_] := (Array.toArray_toList (xs := ts)).symm.trans (congrArg List.toArray hl)
        subst this
        exact ⟨_, fun w => by simp [builtin, Builtin.len_, underlying, hu, goInt], h⟩
      · exact h.elim
    · exact h.elim
  · split at h
    · rename_i hl
      split at h
      · rename_i hu
        have : ts = #[_] := (Array.toArray_toList (xs := ts)).symm.trans (congrArg List.toArray hl)
        subst this
        exact ⟨_, fun w => by simp [builtin, Builtin.len_, underlying, hu, goInt], h⟩
      · exact h.elim
    · exact h.elim
  · split at h
    · rename_i hk
      refine ⟨_, fun w => ?_, h⟩
      simp [builtin, Builtin.max_, Builtin.max2]
      split <;> omega
    · exact h.elim
  · split at h
    · rename_i hk
      refine ⟨_, fun w => ?_, h⟩
      simp [builtin, Builtin.min_, Builtin.min2]
      split <;> omega
    · exact h.elim
  · split at h
    · refine ⟨_, fun w => ?_, h⟩
      simp [builtin, Builtin.min_, Builtin.min2]
      (repeat' split) <;> omega
    · exact h.elim
  · exact h.elim

theorem addr_add (b o n : Nat) : (⟨b, o, none⟩ : Addr).add n = ⟨b, o + n, none⟩ := by
  unfold Addr.add
  split
  · rename_i h; subst h; rfl
  · rfl

theorem run_bound {P : Program} {w : World} {k : IntKind} {l m : Nat} (c : BoundsCode) (h : l ≤ m) : (Instr.sliceBound (.int k (l : Int)) m c).run P w = .ok l w := by
  have : (0 : Int) ≤ l ∧ (l : Int) ≤ m := ⟨by omega, by omega⟩
  simp [Instr.sliceBound, asIntOf, h]

theorem run_bounds {P : Program} {w : World} {a : Act} {isSlice : Bool} {len cap : Nat} {lo hi : Option Operand} {x y : Option Int} {l u : Nat}
    (hlo : HasB a lo x) (hhi : HasB a hi y) (hl : IsB x 0 l) (hu : IsB y len u) (hlu : l ≤ u) (huc : u ≤ cap) :
    (Instr.sliceBounds isSlice len cap (lo.map a.eval) (hi.map a.eval) none).run P w = .ok (l, u, cap) w := by
  cases lo with
  | none =>
    simp only [HasB] at hlo; subst hlo; simp only [IsB] at hl; subst hl
    cases hi with
    | none => simp only [HasB] at hhi; subst hhi; simp only [IsB] at hu; subst hu; simp [Instr.sliceBounds]
    | some o =>
      obtain ⟨k, m, he, rfl⟩ := hhi
      simp only [IsB] at hu; subst hu
      simp [Instr.sliceBounds, he, run_bound _ huc]
  | some o' =>
    obtain ⟨k', m', he', rfl⟩ := hlo
    simp only [IsB] at hl; subst hl
    cases hi with
    | none => simp only [HasB] at hhi; subst hhi; simp only [IsB] at hu; subst hu; simp [Instr.sliceBounds, he', run_bound _ hlu]
    | some o =>
      obtain ⟨k, m, he, rfl⟩ := hhi
      simp only [IsB] at hu; subst hu
      simp [Instr.sliceBounds, he, he', run_bound _ huc, run_bound _ hlu]

theorem convert_int {P : Program} {s d : TypeId} {u : TypeDesc} {k k' : IntKind} {n : Int} {w : World} (h1 : P.underlying s = some u) (h2 : P.underlying d = some (.int k)) :
    (convert s d (.int k' n)).run P w = .ok (.int k (k.wrap n)) w := by
  simp [convert, underlying, h1, h2, Conv.intToInt]

theorem convert_str {P : Program} {s d : TypeId} {u : TypeDesc} {x : ByteArray} {w : World} (h1 : P.underlying s = some u) (h2 : P.underlying d = some .string) :
    (convert s d (.string x)).run P w = .ok (.string x) w := by
  simp [convert, underlying, h1, h2]

set_option maxHeartbeats 1000000 in
theorem eqNil {P : Program} {t : TypeId} {ms : Array (String × TypeId)} (hu : P.underlying t = some (.interface ms)) :
    (∀ w : World, (Op.equalIn Op.maxDepth t .nilIface .nilIface).run P w = .ok true w) ∧ (∀ w : World, ∀ {s : TypeId} {v : Value}, (Op.equalIn Op.maxDepth t (.iface s v) .nilIface).run P w = .ok false w) := by
  obtain ⟨d, hd⟩ : ∃ d, Op.maxDepth = d + 1 := ⟨Op.maxDepth - 1, by decide⟩
  rw [hd]
  refine ⟨fun w => ?_, fun w s v => ?_⟩ <;>
    rw [Op.equalIn] <;> simp only [Sem.run_bind, run_underlying hu, Result.andThen_ok, Sem.run_pure]

theorem pv_sound {P : Program} {o : Oper} {n : Nat} {e : Env} {a : Act} {K : SV → Prop} (hr : Rep n e a) (h : pv P o.op e K) :
    ∃ r : SV, (∀ w : World, (execOp a.eval o).run P w = .ok (.value r.val) w) ∧ K r := by
  obtain ⟨dst, op, type, pos, after, guard⟩ := o
  dsimp only at h
  unfold pv at h
  split at h
  · obtain ⟨x, hx, h⟩ := ev_sound hr h
    exact ⟨x, fun w => by simp [execOp, hx], h⟩
  · obtain ⟨x, hx, h⟩ := ev_sound hr h
    exact ⟨x, fun w => by simp [execOp, hx], h⟩
  · obtain ⟨c, hc, h⟩ := ev_sound hr h
    split at h
    · obtain ⟨x, hx, h⟩ := ev_sound hr h
      exact ⟨x, fun w => by simp [execOp, hc, hx, asBool], h⟩
    · obtain ⟨x, hx, h⟩ := ev_sound hr h
      exact ⟨x, fun w => by simp [execOp, hc, hx, asBool], h⟩
    · rename_i b
      cases b with
      | true =>
        obtain ⟨x, hx, h⟩ := ev_sound hr (h.1 rfl)
        exact ⟨x, fun w => by simp [execOp, hc, hx, asBool], h⟩
      | false =>
        obtain ⟨x, hx, h⟩ := ev_sound hr (h.2 rfl)
        exact ⟨x, fun w => by simp [execOp, hc, hx, asBool], h⟩
    · exact h.elim
  · rename_i t xo _
    obtain ⟨x, hx, h⟩ := ev_sound hr h
    split at h
    · rename_i hu
      split at h
      · rcases h with ⟨hv, h⟩ | ⟨⟨s', v', hv⟩, h⟩
        · refine ⟨.ff, fun w => ?_, h⟩
          simp only [execOp, hx, hv, show a.eval (.const .nilIface) = Value.nilIface from rfl]
          simp [eqGuard, binOp, Op.equal, (eqNil hu).1 w, SV.val]
        · refine ⟨.tt, fun w => ?_, h⟩
          simp only [execOp, hx, hv, show a.eval (.const .nilIface) = Value.nilIface from rfl]
          simp [eqGuard, binOp, Op.equal, (eqNil hu).2 w, SV.val]
      split at h
      · rename_i hv
        refine ⟨.ff, fun w => ?_, h⟩
        simp only [execOp, hx, hv, show a.eval (.const .nilIface) = Value.nilIface from rfl]
        simp [eqGuard, binOp, Op.equal, (eqNil hu).1 w, SV.val]
      · rename_i hv
        refine ⟨.tt, fun w => ?_, h⟩
        simp only [execOp, hx, hv, show a.eval (.const .nilIface) = Value.nilIface from rfl]
        simp [eqGuard, binOp, Op.equal, (eqNil hu).2 w, SV.val]
      · exact h.elim
    · exact h.elim
  · rename_i t xo _
    obtain ⟨x, hx, h⟩ := ev_sound hr h
    split at h
    · rename_i hu
      split at h
      · rcases h with ⟨hv, h⟩ | ⟨⟨s', v', hv⟩, h⟩
        · refine ⟨.tt, fun w => ?_, h⟩
          simp only [execOp, hx, hv, show a.eval (.const .nilIface) = Value.nilIface from rfl]
          simp [eqGuard, binOp, Op.equal, (eqNil hu).1 w, SV.val]
        · refine ⟨.ff, fun w => ?_, h⟩
          simp only [execOp, hx, hv, show a.eval (.const .nilIface) = Value.nilIface from rfl]
          simp [eqGuard, binOp, Op.equal, (eqNil hu).2 w, SV.val]
      split at h
      · rename_i hv
        refine ⟨.tt, fun w => ?_, h⟩
        simp only [execOp, hx, hv, show a.eval (.const .nilIface) = Value.nilIface from rfl]
        simp [eqGuard, binOp, Op.equal, (eqNil hu).1 w, SV.val]
      · rename_i hv
        refine ⟨.ff, fun w => ?_, h⟩
        simp only [execOp, hx, hv, show a.eval (.const .nilIface) = Value.nilIface from rfl]
        simp [eqGuard, binOp, Op.equal, (eqNil hu).2 w, SV.val]
      · exact h.elim
    · exact h.elim
  · obtain ⟨x, hx, h⟩ := ev_sound hr h
    obtain ⟨y, hy, h⟩ := ev_sound hr h
    split at h
    · obtain ⟨r, hrun, h⟩ := opqV_sound h _ _
      exact ⟨r, fun w => by simp only [execOp, hx, hy]; rw [Sem.run_bind, hrun w]; rfl, h⟩
    obtain ⟨r, hrun, h⟩ := binV_sound h _ _
    exact ⟨r, fun w => by simp only [execOp, hx, hy]; rw [Sem.run_bind, hrun w]; rfl, h⟩
  · obtain ⟨x, hx, h⟩ := ev_sound hr h
    split at h
    · exact ⟨_, fun w => by simp [execOp, hx, Op.unary], h⟩
    · exact ⟨_, fun w => by simp [execOp, hx, Op.unary], h⟩
    · exact ⟨_, fun w => by simp [execOp, hx, Op.unary], h⟩
    · obtain ⟨r, rfl, h⟩ := h
      exact ⟨_, fun w => by simp [execOp, hx, Op.unary, Op.intArith], h⟩
    · obtain ⟨r, rfl, h⟩ := h
      exact ⟨_, fun w => by simp [execOp, hx, Op.unary, Op.intBits, notI, xorI], h⟩
    · exact h.elim
  · obtain ⟨x, hx, h⟩ := ev_sound hr h
    split at h
    · rename_i h1 h2 h3
      obtain ⟨r, rfl, h⟩ := h
      exact ⟨_, fun w => by simp [execOp, convert_int h1 h2, hx, h3], h⟩
    · rename_i h1 h2 h3
      exact ⟨_, fun w => by simp [execOp, convert_str h1 h2, hx, h3], h⟩
    · exact h.elim
  · obtain ⟨x, hx, h⟩ := ev_sound hr h
    split at h
    · rename_i vs hv
      split at h
      · rename_i v hn
        rw [nth_eq, Array.getElem?_toList] at hn
        exact ⟨_, fun w => by simp [execOp, hx, hv, Instr.extract, hn], h⟩
      · exact h.elim
    · exact h.elim
  · obtain ⟨x, hx, h⟩ := ev_sound hr h
    split at h
    · exact ⟨_, fun w => by simp [execOp, hx], h⟩
    · obtain ⟨b, o, rfl, h⟩ := h
      exact ⟨_, fun w => by simp [execOp, hx], h⟩
    · exact ⟨_, fun w => by simp [execOp, hx], h⟩
    · exact h.elim
  · obtain ⟨x, hx, h⟩ := ev_sound hr h
    obtain ⟨i, hi, h⟩ := ev_sound hr h
    split at h
    · rename_i h1 h2 h3
      obtain ⟨h0, c, hc, h⟩ := h
      exact ⟨_, fun w => by simp [execOp, hx, hi, h2, h3, Instr.index, asIntOf, underlying, h1, h0, hc], h⟩
    · exact h.elim
  · obtain ⟨x, hx, h⟩ := ev_sound hr h
    split at h
    · rename_i fs cs h1 h2
      split at h
      · rename_i fd hfd
        rw [Array.getElem?_toList] at hfd
        have key : ∀ v, nth cs.toList fd.offset = some v → cs[fd.offset]? = some v := fun v hv => by rw [nth_eq] at hv; simpa using hv
        split at h
        · exact h.elim
        · exact h.elim
        · exact h.elim
        · rename_i u hu hn1 hn2
          split at h
          · rename_i v hv
            have hagg : ∀ w : World, (isAgg fd.type).run P w = .ok false w := fun w => by
              simp [isAgg, underlying, hn2]
            exact ⟨_, fun w => by simp [execOp, hx, h2, Instr.field, underlying, h1, hfd, asAgg, part, hagg, key v hv], h⟩
          · exact h.elim
      · exact h.elim
    · exact h.elim
  · obtain ⟨x, hx, h⟩ := ev_sound hr h
    obtain ⟨b, o, hv, h⟩ := asPtr_sound h
    split at h
    · rename_i fs h1
      split at h
      · rename_i fd hfd
        rw [Array.getElem?_toList] at hfd
        obtain ⟨i, hi, h⟩ := szOf_sound h
        cases hz : Nat.beq i.size 0 with
        | true => rw [hz] at h; exact h.elim
        | false =>
          rw [hz] at h
          have hz' : ¬ i.size = 0 := fun e => by rw [e] at hz; cases hz
          exact ⟨_, fun w => by simp [execOp, hx, hv, Instr.fieldAt, Instr.sureAddr, underlying, h1, hfd, fieldPlace, run_szOf hi, hz', addr_add], h⟩
      · exact h.elim
    · exact h.elim
  · obtain ⟨x, hx, h⟩ := ev_sound hr h
    obtain ⟨i, hi, h⟩ := ev_sound hr h
    split at h
    · rename_i h1 h3
      obtain ⟨z, hz, h⟩ := szOf_sound h
      split at h
      · rename_i h2
        obtain ⟨b, o, rfl, h0, hn, h⟩ := h
        exact ⟨_, fun w => by simp [execOp, hx, hi, h2, h3, Instr.indexAt, asIntOf, underlying, h1, h0, hn, run_szOf hz, addr_add], h⟩
      · exact h.elim
    · rename_i h1 h3
      obtain ⟨z, hz, h⟩ := szOf_sound h
      obtain ⟨b, o, hv, h0, hn, h⟩ := asPtr_sound h
      exact ⟨_, fun w => by simp [execOp, hx, hi, hv, h3, Instr.indexAt, Instr.sureAddr, asIntOf, underlying, h1, h0, hn, run_szOf hz, addr_add], h⟩
    · exact h.elim
  · obtain ⟨x, hx, h⟩ := ev_sound hr h
    obtain ⟨lo, hlo, h⟩ := bound_sound hr h
    obtain ⟨hi, hhi, h⟩ := bound_sound hr h
    split at h
    · rename_i h1
      split at h
      · rename_i h2
        obtain ⟨l, hl, h⟩ := lowOf_sound h
        obtain ⟨u, hu, hlu, hus, _, rfl, h⟩ := highOf_sound h
        refine ⟨_, fun w => ?_, h⟩
        have hb := run_bounds (P := P) (w := w) (isSlice := false) (len := _) (cap := _) hlo hhi hl hu hlu hus
        simp [execOp, hx, h2, Instr.sliceAt, Instr.slice, underlying, h1, hb]
      · exact h.elim
    · rename_i h1
      split at h
      · rename_i h2
        obtain ⟨z, hz, h⟩ := szOf_sound h
        obtain ⟨l, hl, h⟩ := lowOf_sound h
        obtain ⟨u, hu, hlu, hus, _, rfl, h⟩ := highOf_sound h
        refine ⟨_, fun w => ?_, h⟩
        have hb := run_bounds (P := P) (w := w) (isSlice := true) hlo hhi hl hu hlu hus
        simp [execOp, hx, h2, Instr.sliceAt, Instr.slice, underlying, h1, hb, run_szOf hz, cutP]
      · exact h.elim
    · rename_i h1
      obtain ⟨b, o, h2, h⟩ := asPtr_sound h
      obtain ⟨z, hz, h3⟩ := szOf_sound h
      obtain ⟨l, hl, h4⟩ := lowOf_sound h3
      obtain ⟨u, hu, hlu, hus, _, rfl, h5⟩ := highOf_sound h4
      refine ⟨_, fun w => ?_, h5⟩
      have hb := run_bounds (P := P) (w := w) (isSlice := false) hlo hhi hl hu hlu hus
      simp [execOp, hx, h2, Instr.sliceAt, Instr.sureAddr, underlying, h1, hb, run_szOf hz, cutP]
      split <;> simp_all
    · exact h.elim
  · obtain ⟨xs, hxs, h⟩ := evs_sound hr h
    obtain ⟨ys, hys, h⟩ := evs_sound hr h
    refine ⟨_, fun w => ?_, h⟩
    subst hxs; subst hys
    simp [execOp, Instr.makeFunc, ← Array.toList_map]
  · obtain ⟨x, hx, h⟩ := ev_sound hr h
    split at h
    · exact h.elim
    · exact h.elim
    · rename_i u hn hu
      refine ⟨_, fun w => ?_, h⟩
      simp [execOp, hx, Instr.makeInterface, underlying, hu]
  · rename_i xo xt t ok
    obtain ⟨x, hx, h2⟩ := ev_sound hr h
    clear h
    cases hu : P.underlying t with
    | none => simp only [hu] at h2
    | some u =>
      rw [hu] at h2
      have hni : ∀ m, u ≠ .interface m := by intro m e; subst e; exact h2
      cases hv : x.val with
      | iface t' v =>
        rw [hv] at h2
        have h3 : cond (Nat.beq t' t) (cond ok (K (.v (.tuple #[v, .bool true]))) (K (.v v))) False := by
          cases u <;> first | exact h2 | exact h2.elim
        cases hb : Nat.beq t' t with
        | false => rw [hb] at h3; exact h3.elim
        | true =>
          rw [hb] at h3
          obtain rfl := Nat.eq_of_beq_eq_true hb
          have hrun : ∀ w : World, (Instr.typeAssert (.iface t' v) xt t' ok).run P w = .ok (if ok then .tuple #[v, .bool true] else v) w := by
            intro w
            unfold Instr.typeAssert
            simp only [Sem.run_bind, run_underlying hu, Result.andThen_ok]
            cases u <;> first | exact (hni _ rfl).elim | simp
          cases ok with
          | true => exact ⟨.v (.tuple #[v, .bool true]), fun w => by simp [execOp, hx, hv, hrun w], h3⟩
          | false => exact ⟨.v v, fun w => by simp [execOp, hx, hv, hrun w], h3⟩
      | nilIface =>
        rw [hv] at h2
        cases ok with
        | false => cases u <;> exact h2.elim
        | true =>
          cases hi : P.info? t with
          | none => rw [hi] at h2; cases u <;> exact h2.elim
          | some i =>
            rw [hi] at h2
            cases hz : i.zero with
            | none => simp only [hz] at h2
            | some z =>
              simp only [hz] at h2
              have h3 : K (.v (.tuple #[z, .bool false])) := by cases u <;> first | exact h2 | exact h2.elim
              have hrun : ∀ w : World, (Instr.typeAssert .nilIface xt t true).run P w = .ok (.tuple #[z, .bool false]) w := by
                intro w
                unfold Instr.typeAssert
                simp only [Sem.run_bind, run_underlying hu, Result.andThen_ok]
                cases u <;> first | exact (hni _ rfl).elim | simp [zeroValue, typeInfo, hi, hz]
              exact ⟨.v (.tuple #[z, .bool false]), fun w => by simp [execOp, hx, hv, hrun w], h3⟩
      | _ => rw [hv] at h2; cases u <;> exact h2.elim
  · rename_i b args ts
    obtain ⟨xs, hxs, h⟩ := evs_sound hr h
    obtain ⟨r, hrun, h⟩ := builtinV_sound h type (args.map fun | .const _ => true | _ => false)
    refine ⟨r, fun w => ?_, h⟩
    rw [← hrun w]
    subst hxs
    simp only [execOp, resolve, Sem.run_bind, Sem.run_pure, Result.andThen_ok, invoke, ← Array.toList_map, Array.toArray_toList]
    first | done | rfl | congr
  · rename_i t parts
    obtain ⟨xs, hxs, h⟩ := evs_sound hr h
    split at h
    · rename_i i fs hi hu
      split at h
      · rename_i z hz
        split at h
        · rename_i hall
          split at h
          · rename_i cs hf
            refine ⟨_, fun w => ?_, h⟩
            have h1 : ∀ l : List Field, (l.all fun f => (P.info? f.type).isSome) = true → (l.mapM fun f => (do pure (f.offset, ← sizeOf f.type) : Sem (Nat × Nat))).run P w = .ok (l.map fun f => (f.offset, P.cellsOf f.type)) w := by
              intro l
              induction l with
              | nil => intro _; simp
              | cons f r ih =>
                intro ha
                simp only [List.all_cons, Bool.and_eq_true] at ha
                obtain ⟨j, hj⟩ := Option.isSome_iff_exists.1 ha.1
                have hsz := run_szOf (P := P) hj w
                have hc : P.cellsOf f.type = j.size := by simp [Program.cellsOf, hj]
                simp only [List.mapM_cons, Sem.run_bind, hsz, Result.andThen_ok, Sem.run_pure, ih ha.2, List.map_cons, hc]
            have h2 : (fs.mapM fun f => (do pure (f.offset, ← sizeOf f.type) : Sem (Nat × Nat))).run P w = .ok (fs.toList.map fun f => (f.offset, P.cellsOf f.type)).toArray w := by
              rw [← Array.toArray_toList (xs := fs)]
              simp only [List.mapM_toArray, Sem.run_map, h1 _ hall, Result.andThen_ok]
            have h3 : (parts.map fun (p : Nat × Operand) => (p.1, a.eval p.2)).toList = (parts.toList.map (·.1)).zip xs := by
              rw [← hxs, List.map_map, List.zip_map']
              simp
            have h4 : (fun k : Nat => (fs.toList.map fun f => (f.offset, P.cellsOf f.type)).toArray[k]?) = fun k : Nat => (fs.toList.map fun f => (f.offset, P.cellsOf f.type))[k]? := by
              funext k
              simp
            have hb : (Instr.build t (parts.map fun (p : Nat × Operand) => (p.1, a.eval p.2))).run P w = .ok (.agg cs) w := by
              unfold Instr.build
              simp only [zeroValue, typeInfo, Sem.run_bind, run_program, Result.andThen_ok, hi, hz, Sem.run_pure, underlying, hu, h2]
              rw [h3, h4, hf]
              rfl
            show Sem.run P (do pure (.value (← Instr.build t (parts.map fun (p : Nat × Operand) => (p.1, a.eval p.2)))) : Sem Next) w = _
            simp only [Sem.run_bind, hb, Result.andThen_ok, Sem.run_pure, SV.val_v]
          · exact h.elim
        · exact h.elim
      · exact h.elim
    · exact h.elim
  · exact h.elim

end Go.Vc
