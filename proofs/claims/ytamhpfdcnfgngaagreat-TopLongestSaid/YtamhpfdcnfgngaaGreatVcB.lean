/- The second part: operations on memory and calls, over the heap alone. -/
import Derived.Test.YtamhpfdcnfgngaaGreatVcA
set_option maxRecDepth 10000
namespace Go.Vc
open Go

abbrev Hp := Array Obj

def wld (h : Hp) : World := { (default : World) with heap := h }
def cellH (h : Hp) (a : Addr) : Option Value := (wld h).cell? a
def frozenH (h : Hp) (a : Addr) : Bool := (wld h).frozen? a
def setH (h : Hp) (a : Addr) (v : Value) : Hp := ((wld h).setCell a v).heap

theorem set_eq (w : World) (a : Addr) (v : Value) : (w.setCell a v).heap = setH w.heap a v := rfl

structure Rest (w w' : World) : Prop where
  os : w'.os = w.os
  tape : w'.tape = w.tape
  output : w'.output = w.output

theorem Rest.refl (w : World) : Rest w w := ⟨rfl, rfl, rfl⟩
theorem Rest.trans {a b c : World} (h : Rest a b) (k : Rest b c) : Rest a c := ⟨k.os.trans h.os, k.tape.trans h.tape, k.output.trans h.output⟩

def CallsH (P : Program) (f : FuncId) (args : Array Value) (h : Hp) (R : Ending → Hp → Prop) : Prop :=
  ∀ w : World, w.heap = h → Calls P f args w fun e w' => e ≠ .outgrown ∧ Rest w w' ∧ R e w'.heap

theorem CallsH.mono {P : Program} {f : FuncId} {args : Array Value} {h : Hp} {R R' : Ending → Hp → Prop} (hc : CallsH P f args h R) (hr : ∀ e h', R e h' → R' e h') :
    CallsH P f args h R' := fun w hw => (hc w hw).mono fun e w' ⟨h1, h2, h3⟩ => ⟨h1, h2, hr e w'.heap h3⟩

def SemH {α : Type} (P : Program) (s : Sem α) (h : Hp) (R : α → Hp → Prop) : Prop :=
  ∀ w : World, w.heap = h → ∃ v w', s.run P w = .ok v w' ∧ Rest w w' ∧ R v w'.heap

theorem SemH.mono {α : Type} {P : Program} {s : Sem α} {h : Hp} {R R' : α → Hp → Prop} (hc : SemH P s h R) (hr : ∀ v h', R v h' → R' v h') : SemH P s h R' :=
  fun w hw => let ⟨v, w', h1, h2, h3⟩ := hc w hw; ⟨v, w', h1, h2, hr _ _ h3⟩

inductive Leaf where
  | int (k : IntKind)
  | bool
  | str
  | slice
  | ptr
  | map
  | any

def leafOf : TypeDesc → Leaf
  | .int k => .int k
  | .bool => .bool
  | .string => .str
  | .slice _ => .slice
  | .pointer _ => .ptr
  | .map .. => .map
  | _ => .any

def exLeaf (l : Leaf) (K : Value → Prop) : Prop :=
  match l with
  | .int k => ∃ n : Int, K (.int k n)
  | .bool => ∃ b : Bool, K (.bool b)
  | .str => ∃ s : ByteArray, K (.string s)
  | .slice => ∃ (p : Option Addr) (n c : Nat), K (.slice p n c)
  | .ptr => ∃ p : Option Addr, K (.pointer p)
  | .map => ∃ r : Option Nat, K (.map r)
  | .any => ∃ v : Value, K v

def exLeaves (l : List Leaf) (K : List Value → Prop) : Prop :=
  match l with
  | [] => K []
  | x :: r => exLeaf x fun v => exLeaves r fun vs => K (v :: vs)

def joinL (a b : Option (List Leaf)) : Option (List Leaf) :=
  match a, b with
  | some a, some b => some (a ++ b)
  | _, _ => none

def leaves (P : Program) : Nat → TypeId → Option (List Leaf)
  | 0, _ => none
  | d + 1, t => match P.underlying t with
    | none | some (.array ..) => none
    | some (.struct fs) => fs.toList.foldr (fun f acc => joinL (leaves P d f.type) acc) (some [])
    | some u => some [leafOf u]

inductive Shape where
  | one (l : Leaf)
  | agg (ls : List Leaf)
  | arr (k : IntKind) (n : Nat)
  | arrB (n : Nat)
  | bad

def shapeOf (P : Program) (t : TypeId) : Shape :=
  match P.underlying t with
  | none => .bad
  | some (.struct _) => match leaves P 6 t with
    | some ls => .agg ls
    | none => .bad
  | some (.array n el) => match P.underlying el with
    | some (.int k) => .arr k n
    | some .bool => .arrB n
    | some (.struct _) => match leaves P 6 el with
      | some ls => .agg (List.replicate n ls).flatten
      | none => .bad
    | _ => .bad
  | some u => .one (leafOf u)

def exShape (s : Shape) (K : Value → Prop) : Prop :=
  match s with
  | .one l => exLeaf l K
  | .agg ls => exLeaves ls fun vs => K (.agg vs.toArray)
  | .arr k n => ∃ zs : List Int, zs.length = n ∧ K (.agg (zs.map (Value.int k)).toArray)
  | .arrB n => ∃ zs : List Bool, zs.length = n ∧ K (.agg (zs.map Value.bool).toArray)
  | .bad => False

theorem exLeaf_sound {l : Leaf} {K : Value → Prop} (h : exLeaf l K) : ∃ v, K v := by
  cases l <;> simp only [exLeaf] at h
  · obtain ⟨n, h⟩ := h; exact ⟨_, h⟩
  · obtain ⟨n, h⟩ := h; exact ⟨_, h⟩
  · obtain ⟨n, h⟩ := h; exact ⟨_, h⟩
  · obtain ⟨p, n, c, h⟩ := h; exact ⟨_, h⟩
  · obtain ⟨n, h⟩ := h; exact ⟨_, h⟩
  · obtain ⟨n, h⟩ := h; exact ⟨_, h⟩
  · exact h

theorem exLeaves_sound {l : List Leaf} : ∀ {K : List Value → Prop}, exLeaves l K → ∃ vs, K vs := by
  induction l with
  | nil => exact fun h => ⟨_, h⟩
  | cons x r ih =>
    intro K h
    obtain ⟨v, h⟩ := exLeaf_sound h
    obtain ⟨vs, h⟩ := ih h
    exact ⟨_, h⟩

theorem exShape_sound {s : Shape} {K : Value → Prop} (h : exShape s K) : ∃ v, K v := by
  cases s with
  | one l => exact exLeaf_sound h
  | agg ls => obtain ⟨vs, h⟩ := exLeaves_sound h; exact ⟨_, h⟩
  | arr k n => obtain ⟨zs, _, h⟩ := h; exact ⟨_, h⟩
  | arrB n => obtain ⟨zs, _, h⟩ := h; exact ⟨_, h⟩
  | bad => exact h.elim

def cellsAt (h : Hp) (b : Nat) : Nat → List Value → Prop
  | _, [] => True
  | o, v :: r => cellH h ⟨b, o, none⟩ = some v ∧ cellsAt h b (o + 1) r

def loadV (P : Program) (t : TypeId) (rd : Nat → Nat → List Value → Prop) (b o : Nat) (K : SV → Prop) : Prop :=
  match shapeOf P t with
  | .one l => exLeaf l fun v => rd b o [v] ∧ K (.v v)
  | .agg ls => exLeaves ls fun vs => szOf P t fun z => cond (Nat.beq z vs.length) (rd b o vs ∧ K (.v (.agg vs.toArray))) False
  | .arr k n => szOf P t fun z => cond (Nat.beq z n) (∃ zs : List Int, zs.length = n ∧ rd b o (zs.map (Value.int k)) ∧ K (.v (.agg (zs.map (Value.int k)).toArray))) False
  | .arrB n => szOf P t fun z => cond (Nat.beq z n) (∃ zs : List Bool, zs.length = n ∧ rd b o (zs.map Value.bool) ∧ K (.v (.agg (zs.map Value.bool).toArray))) False
  | .bad => False

def wrAt (h : Hp) (b : Nat) : Nat → Nat → Prop
  | _, 0 => True
  | o, n + 1 => ((∃ v, cellH h ⟨b, o, none⟩ = some v) ∧ frozenH h ⟨b, o, none⟩ = false) ∧ wrAt h b (o + 1) n

def setsH (h : Hp) (b : Nat) : Nat → List Value → Hp
  | _, [] => h
  | o, v :: r => setsH (setH h ⟨b, o, none⟩ v) b (o + 1) r

def storeV (P : Program) (t : TypeId) (h : Hp) (b o : Nat) (v : Value) (K : Hp → Prop) : Prop :=
  match P.underlying t with
  | none => False
  | some (.struct _) | some (.array ..) => match v with
    | .agg cs => szOf P t fun z => cs.toList.length = z ∧ (∀ c ∈ cs.toList, c.oneCell' = true) ∧ wrAt h b o z ∧ ∀ h', h' = setsH h b o cs.toList → K h'
    | _ => False
  | some _ => szOf P t fun z => cond (Nat.beq z 1) (v.oneCell' = true ∧ wrAt h b o 1 ∧ ∀ h', h' = setsH h b o [v] → K h') False

def resultV (P : Program) (ts : List TypeId) (K : Value → Prop) : Prop :=
  match ts with
  | [t] => exShape (shapeOf P t) K
  | ts => many ts fun vs => K (.tuple vs.toArray)
where
  many : List TypeId → (List Value → Prop) → Prop
    | [], K => K []
    | t :: r, K => exShape (shapeOf P t) fun v => many r fun vs => K (v :: vs)

theorem many_sound {P : Program} {ts : List TypeId} : ∀ {K : List Value → Prop}, resultV.many P ts K → ∃ vs, K vs := by
  induction ts with
  | nil => exact fun h => ⟨_, h⟩
  | cons t r ih =>
    intro K h
    obtain ⟨v, h⟩ := exShape_sound h
    obtain ⟨vs, h⟩ := ih h
    exact ⟨_, h⟩

theorem resultV_sound {P : Program} {ts : List TypeId} {K : Value → Prop} (h : resultV P ts K) : ∃ v, K v := by
  unfold resultV at h
  split at h
  · exact exShape_sound h
  · obtain ⟨vs, h⟩ := many_sound h; exact ⟨_, h⟩

def copies (n : Nat) (z : List Value) : List Value := (List.replicate n z).flatten

def zeros (P : Program) (t : TypeId) : Array Value := match P.info? t with
  | some i => match i.zero with
    | some z => z.cells
    | none => #[]
  | none => #[]

def callV (P : Program) (mp : Bool) (f : FuncId) (args : List Value) (h : Hp) (K : SV → Hp → Prop) (Kp : List PanicEntry → Hp → Prop) : Prop :=
  match P.funcs[f]? with
  | none => False
  | some fn => match fn.body with
    | none => False
    | some _ => CallsH P f args.toArray h fun e h' => match mp with
      | false => resultV P fn.resultTypes.toList fun v => e = .returned v ∧ K (.v v) h'
      | true => (resultV P fn.resultTypes.toList fun v => e = .returned v ∧ K (.v v) h') ∨ ∃ c, e = .panicked c ∧ Kp c h'

def shaped (P : Program) (t : TypeId) (K : Value → Prop) : Prop :=
  match P.underlying t with
  | some (.tuple ts) => resultV.many P ts.toList fun vs => K (.tuple vs.toArray)
  | _ => exShape (shapeOf P t) K

theorem shaped_sound {P : Program} {t : TypeId} {K : Value → Prop} (h : shaped P t K) : ∃ v, K v := by
  unfold shaped at h
  split at h
  · obtain ⟨vs, h⟩ := many_sound h; exact ⟨_, h⟩
  · exact exShape_sound h

def rawV (P : Program) (s : Sem Value) (t : TypeId) (h : Hp) (K : SV → Hp → Prop) : Prop :=
  SemH P s h fun v h' => shaped P t fun u => v = u ∧ K (.v u) h'

def bodied (P : Program) (f : FuncId) : Bool := match P.funcs[f]? with
  | some fn => fn.body.isSome
  | none => false

def callX (P : Program) (mp : Bool) (f : FuncId) (args : List Value) (t : TypeId) (h : Hp) (K : SV → Hp → Prop) (Kp : List PanicEntry → Hp → Prop) : Prop :=
  CallsH P f args.toArray h fun e h' => match mp with
    | false => shaped P t fun v => e = .returned v ∧ K (.v v) h'
    | true => (shaped P t fun v => e = .returned v ∧ K (.v v) h') ∨ ∃ c, e = .panicked c ∧ Kp c h'

def methF (P : Program) (t : TypeId) (name : String) : Option FuncId :=
  match P.info? t, P.underlying t with
  | some i, some (.pointer _) => match i.methods.find? (·.name == name) with
    | some m => match m.path.toList, m.func with
      | [], some (f, true) => some f
      | _, _ => none
    | none => none
  | _, _ => none

def EqH (P : Program) (h : Hp) (t : TypeId) (x y : Value) (b : Bool) : Prop := ∀ w : World, w.heap = h → (Op.equal t x y).run P w = .ok b w

def ptrT (P : Program) (t : TypeId) : Bool := match P.underlying t with
  | some (.pointer _) => true
  | _ => false

def opqO (P : Program) (op : BinOp) (t : TypeId) (y : Operand) : Bool := match op, y with
  | .eql, .const .nilIface => false
  | .neq, .const .nilIface => false
  | .eql, .tmp _ => opq P t || ptrT P t
  | .neq, .tmp _ => opq P t || ptrT P t
  | .eql, _ => opq P t
  | .neq, _ => opq P t
  | _, _ => false

def eqHV (P : Program) (op : BinOp) (t : TypeId) (x y : Value) (h : Hp) (K : SV → Prop) : Prop :=
  match op with
  | .eql => guardFree P t x y = true ∧ ∃ b, EqH P h t x y b ∧ K (.v (.bool b))
  | .neq => guardFree P t x y = true ∧ ∃ b, EqH P h t x y b ∧ K (.v (.bool (!b)))
  | _ => False

def ov (P : Program) (mp : Bool) (o : Oper) (e : Env) (h : Hp) (rd : Nat → Nat → List Value → Prop) (K : SV → Hp → Prop) (Kp : List PanicEntry → Hp → Prop) : Prop :=
  match o.op with
  | .load t a => ev e a fun a => asPtr a fun b i => loadV P t rd b i fun x => K x h
  | .store t a x => ev e a fun a => asPtr a fun b i => ev e x fun x => storeV P t h b i x.val fun h' => K (.v undef) h'
  | .alloc t => ∀ b h', b = h.size → h' = h.push (.cells (zeros P t) t) → (∃ i z, P.info? t = some i ∧ i.zero = some z) ∧ K (.ptr b 0) h'
  | .box t x => ev e x fun x => ∀ b h', b = h.size → h' = h.push (.cells x.val.cells t) → K (.ptr b 0) h'
  | .makeMap _ none => ∀ r h', r = h.size → h' = h.push (.map #[] 0) → K (.v (.map (some r))) h'
  | .makeSlice t l c => ev e l fun l => ev e c fun c => rawV P (Instr.makeSlice t l.val c.val) o.type h K
  | .buildSlice t n parts => pv.evs e (parts.toList.map (·.2)) fun xs => rawV P (Instr.buildSlice t n ((parts.toList.map (·.1)).zip xs).toArray) o.type h K
  | .lookup t x i ok => ev e x fun x => ev e i fun i => rawV P (Instr.lookup t x.val i.val ok) o.type h K
  | .mapUpdate t m k v => ev e m fun m => ev e k fun k => ev e v fun v => SemH P (Instr.mapUpdate t m.val k.val v.val) h fun _ h' => K (.v undef) h'
  | .insert t m k v => ev e m fun m => ev e k fun k => ev e v fun v => SemH P (Instr.mapUpdate t m.val k.val v.val) h fun _ h' => K (.v undef) h'
  | .convert s d x => match P.underlying s, P.underlying d with
    | some (.slice _), some .string => ev e x fun x => rawV P (convert s d x.val) d h K
    | some .string, some (.slice _) => ev e x fun x => rawV P (convert s d x.val) d h K
    | _, _ => pv P o.op e fun x => K x h
  | .panic x => ev e x fun x => match mp, x.val with
    | true, .iface t v => Kp [{ v := .iface t v, recovered := false }] h
    | _, _ => False
  | .slice t x (some lo) (some hi) (some mx) => ev e x fun x => ev e lo fun lo => ev e hi fun hi => ev e mx fun mx => rawV P (Instr.sliceAt t x.val (some lo.val) (some hi.val) (some mx.val)) o.type h K
  | .call { callee := .value (.func f), args, .. } => pv.evs e args.toList fun xs => callV P mp f xs h K Kp
  | .call { callee := .value x, args, .. } => ev e x fun x => pv.evs e args.toList fun xs =>
      ∃ f fst cap, x.val = .func (.func f) fst cap ∧ bodied P f = true ∧ callX P mp f (fst.toList ++ xs ++ cap.toList) o.type h K Kp
  | .call { callee := .invoke x name, args, .. } => ev e x fun x => pv.evs e args.toList fun xs =>
      ∃ t v f, x.val = .iface t v ∧ methF P t name = some f ∧ bodied P f = true ∧ callX P mp f (v :: xs) o.type h K Kp
  | .call { callee := .builtin .append, args, argTypes } => pv.evs e args.toList fun xs => rawV P (Builtin.append_ argTypes o.type xs.toArray) o.type h K
  | .call { callee := .builtin .copy, args, argTypes } => pv.evs e args.toList fun xs => rawV P (Builtin.copy_ argTypes o.type xs.toArray) o.type h K
  | .call { callee := .builtin .cap, args, argTypes } => pv.evs e args.toList fun xs => rawV P (Builtin.cap_ argTypes o.type xs.toArray) o.type h K
  | .call { callee := .builtin .delete, args, argTypes } => pv.evs e args.toList fun xs => rawV P (Builtin.delete_ argTypes o.type xs.toArray) o.type h K
  | .call { callee := .builtin .clear, args, argTypes } => pv.evs e args.toList fun xs => rawV P (Builtin.clear_ argTypes o.type xs.toArray) o.type h K
  | .call { callee := .builtin .len, args, argTypes } => match (argTypes.toList.map P.underlying) with
    | [some (.map ..)] => pv.evs e args.toList fun xs => rawV P (Builtin.len_ argTypes o.type xs.toArray) o.type h K
    | _ => pv P o.op e fun x => K x h
  | .binOp op t x y _ => match opqO P op t y with
    | true => ev e x fun x => ev e y fun y => eqHV P op t x.val y.val h fun b => K b h
    | false => pv P o.op e fun x => K x h
  | _ => pv P o.op e fun x => K x h

structure Fine (P : Program) : Prop where
  noNum : ∀ (f : FuncId) (fn : Func), P.funcs[f]? = some fn → (fn.name == "runtime.NumGoroutine") = false
  mixed : P.follows .mixedOrders = true


section
variable {P : Program} {w : World}

theorem run_one {a : Addr} {v : Value} (h : cellH w.heap a = some v) : (load a).run P w = .ok v w := by
  have : w.cell? a = some v := h
  simp [this]

theorem run_cells (b : Nat) : ∀ (vs : List Value) (o i : Nat) (acc : Array Value), cellsAt w.heap b (o + i) vs →
    (loadCellsFrom ⟨b, o, none⟩ i vs.length acc).run P w = .ok (acc ++ vs.toArray) w := by
  intro vs
  induction vs with
  | nil => intro o i acc _; simp [loadCellsFrom]
  | cons v r ih =>
    intro o i acc h
    obtain ⟨h1, h2⟩ := h
    have h1' : cellH w.heap ((⟨b, o, none⟩ : Addr).add i) = some v := by rw [addr_add]; exact h1
    simp only [List.length_cons, loadCellsFrom, Sem.run_bind, run_one h1', Result.andThen_ok]
    rw [ih o (i + 1) (acc.push v) (by rw [← Nat.add_assoc]; exact h2)]
    simp

theorem cond_elim {c : Bool} {p : Prop} (h : cond c p False) : c = true ∧ p := by
  cases c with
  | true => exact ⟨rfl, h⟩
  | false => exact h.elim

def aggD : TypeDesc → Bool
  | .struct _ | .array .. => true
  | _ => false

theorem run_isAgg {t : TypeId} {u : TypeDesc} (h : P.underlying t = some u) : (isAgg t).run P w = .ok (aggD u) w := by
  simp only [isAgg, underlying, Sem.run_bind, run_program, Result.andThen_ok, h, Sem.run_pure]
  cases u <;> rfl

theorem shape_one {t : TypeId} {l : Leaf} (h : shapeOf P t = .one l) : ∃ u, P.underlying t = some u ∧ aggD u = false := by
  unfold shapeOf at h
  split at h
  · cases h
  · split at h <;> cases h
  · split at h
    · cases h
    · cases h
    · split at h <;> cases h
    · cases h
  · rename_i u h1 h2 h3
    refine ⟨u, h3, ?_⟩
    cases u <;> first | rfl | exact (h1 _ rfl).elim | exact (h2 _ _ rfl).elim

theorem shape_agg {t : TypeId} {ls : List Leaf} (h : shapeOf P t = .agg ls) : ∃ u, P.underlying t = some u ∧ aggD u = true := by
  unfold shapeOf at h
  split at h
  · cases h
  · exact ⟨_, by assumption, rfl⟩
  · exact ⟨_, by assumption, rfl⟩
  · cases h

theorem shape_arr {t : TypeId} {k : IntKind} {n : Nat} (h : shapeOf P t = .arr k n) : ∃ el, P.underlying t = some (.array n el) := by
  unfold shapeOf at h
  split at h
  · cases h
  · split at h <;> cases h
  · split at h
    · cases h
      exact ⟨_, by assumption⟩
    · cases h
    · split at h <;> cases h
    · cases h
  · cases h

theorem shape_arrB {t : TypeId} {n : Nat} (h : shapeOf P t = .arrB n) : ∃ el, P.underlying t = some (.array n el) := by
  unfold shapeOf at h
  split at h
  · cases h
  · split at h <;> cases h
  · split at h
    · cases h
    · cases h
      exact ⟨_, by assumption⟩
    · split at h <;> cases h
    · cases h
  · cases h

theorem loadV_sound {t : TypeId} {rd : Nat → Nat → List Value → Prop} {b o : Nat} {K : SV → Prop} (h : loadV P t rd b o K) :
    ∃ vs x, rd b o vs ∧ K x ∧ ∀ w : World, cellsAt w.heap b o vs → (Instr.loadAt t (.pointer (some ⟨b, o, none⟩))).run P w = .ok x.val w := by
  unfold loadV at h
  split at h
  · rename_i l hs
    obtain ⟨u, hu, ha⟩ := shape_one hs
    obtain ⟨v, hrd, h⟩ := exLeaf_sound h
    refine ⟨_, _, hrd, h, fun w hc => ?_⟩
    have := run_one (P := P) hc.1
    simp only [Instr.loadAt, Instr.sureAddr, loadVar, Sem.run_bind, Sem.run_pure, Result.andThen_ok, run_isAgg hu, ha, Bool.false_eq_true, if_false, this, SV.val_v]
  · rename_i ls hs
    obtain ⟨fs, hu, ha⟩ := shape_agg hs
    obtain ⟨vs, h⟩ := exLeaves_sound h
    obtain ⟨i, hi, h⟩ := szOf_sound h
    obtain ⟨hz, hrd, h⟩ := cond_elim h
    refine ⟨_, _, hrd, h, fun w hc => ?_⟩
    have hz' : i.size = vs.length := Nat.eq_of_beq_eq_true hz
    have := run_cells (P := P) (w := w) b vs o 0 #[] (by simpa using hc)
    simp only [Instr.loadAt, Instr.sureAddr, loadVar, Sem.run_bind, Sem.run_pure, Result.andThen_ok, run_isAgg hu, ha, if_true, run_szOf hi, hz', loadCells, this, SV.val_v]
    simp
  · rename_i k n hs
    obtain ⟨el, hu⟩ := shape_arr hs
    obtain ⟨i, hi, h⟩ := szOf_sound h
    obtain ⟨hz, zs, hl, hrd, h⟩ := cond_elim h
    refine ⟨_, _, hrd, h, fun w hc => ?_⟩
    have hz' : i.size = (zs.map (Value.int k)).length := by rw [List.length_map, hl]; exact Nat.eq_of_beq_eq_true hz
    have := run_cells (P := P) (w := w) b (zs.map (Value.int k)) o 0 #[] (by simpa using hc)
    simp only [Instr.loadAt, Instr.sureAddr, loadVar, Sem.run_bind, Sem.run_pure, Result.andThen_ok, run_isAgg hu, aggD, if_true, run_szOf hi, hz', loadCells, this, SV.val_v]
    simp
  · rename_i n hs
    obtain ⟨el, hu⟩ := shape_arrB hs
    obtain ⟨i, hi, h⟩ := szOf_sound h
    obtain ⟨hz, zs, hl, hrd, h⟩ := cond_elim h
    refine ⟨_, _, hrd, h, fun w hc => ?_⟩
    have hz' : i.size = (zs.map Value.bool).length := by rw [List.length_map, hl]; exact Nat.eq_of_beq_eq_true hz
    have := run_cells (P := P) (w := w) b (zs.map Value.bool) o 0 #[] (by simpa using hc)
    simp only [Instr.loadAt, Instr.sureAddr, loadVar, Sem.run_bind, Sem.run_pure, Result.andThen_ok, run_isAgg hu, aggD, if_true, run_szOf hi, hz', loadCells, this, SV.val_v]
    simp
  · exact h.elim

theorem cell_set_ne {h : Hp} {a c : Addr} {v : Value} (hne : a.off ≠ c.off) : cellH (setH h a v) c = cellH h c := by
  simp only [cellH, setH, wld, World.cell?, World.setCell, Array.getElem?_modify]
  by_cases hb : a.block = c.block
  · rw [if_pos hb]
    cases ho : h[c.block]? with
    | none => simp
    | some o =>
      cases o <;> simp
      split
      · rfl
      · split
        · rfl
        · rw [Array.getElem?_setIfInBounds_ne hne]
  · rw [if_neg hb]

theorem frozen_set {h : Hp} {a c : Addr} {v : Value} : frozenH (setH h a v) c = frozenH h c := by
  simp only [frozenH, setH, wld, World.frozen?, World.setCell, Array.getElem?_modify]
  by_cases hb : a.block = c.block
  · rw [if_pos hb]
    cases ho : h[c.block]? with
    | none => simp
    | some o => cases o <;> simp
  · rw [if_neg hb]

theorem wrAt_set {h : Hp} {b i : Nat} {v : Value} : ∀ (n o : Nat), i < o → wrAt h b o n → wrAt (setH h ⟨b, i, none⟩ v) b o n := by
  intro n
  induction n with
  | zero => exact fun _ _ _ => trivial
  | succ n ih =>
    intro o ho hw
    obtain ⟨⟨⟨u, hu⟩, hf⟩, hr⟩ := hw
    exact ⟨⟨⟨u, by rw [cell_set_ne (by simp; omega)]; exact hu⟩, by rw [frozen_set]; exact hf⟩, ih _ (by omega) hr⟩

theorem run_stores (b : Nat) : ∀ (vs : List Value) (o i : Nat) (w : World), wrAt w.heap b (o + i) vs.length → (∀ c ∈ vs, c.oneCell' = true) →
    ∃ w', (storeCells ⟨b, o, none⟩ vs i).run P w = .ok () w' ∧ Rest w w' ∧ w'.heap = setsH w.heap b (o + i) vs := by
  intro vs
  induction vs with
  | nil => exact fun _ _ w _ _ => ⟨w, by simp [storeCells], Rest.refl w, rfl⟩
  | cons v r ih =>
    intro o i w hw h1
    obtain ⟨⟨⟨u, hu⟩, hf⟩, hr⟩ := hw
    have hcell : w.cell? ⟨b, o + i, none⟩ = some u := hu
    have hfr : w.frozen? ⟨b, o + i, none⟩ = false := hf
    have hst : (store ⟨b, o + i, none⟩ v).run P w = .ok () (w.setCell ⟨b, o + i, none⟩ v) := by
      rw [run_store P w _ v _ (h1 v (by simp))]
      simp [hcell, hfr]
    obtain ⟨w', hrun, hrest, hheap⟩ := ih o (i + 1) (w.setCell ⟨b, o + i, none⟩ v) (by rw [set_eq]; exact wrAt_set _ _ (by omega) hr) (fun c hc => h1 c (by simp [hc]))
    refine ⟨w', ?_, Rest.trans (b := w.setCell ⟨b, o + i, none⟩ v) ⟨rfl, rfl, rfl⟩ hrest, ?_⟩
    · simp only [storeCells, Sem.run_bind, addr_add, hst, Result.andThen_ok, hrun]
    · rw [hheap, set_eq]; rfl

theorem storeV_sound {t : TypeId} {b o : Nat} {v : Value} {K : Hp → Prop} (h : storeV P t w.heap b o v K) :
    ∃ w', (Instr.storeAt t (.pointer (some ⟨b, o, none⟩)) v).run P w = .ok () w' ∧ Rest w w' ∧ K w'.heap := by
  unfold storeV at h
  have agg : ∀ cs : Array Value, v = .agg cs → (szOf P t fun z => cs.toList.length = z ∧ (∀ c ∈ cs.toList, c.oneCell' = true) ∧ wrAt w.heap b o z ∧ ∀ h', h' = setsH w.heap b o cs.toList → K h') →
      ∃ w', (Instr.storeAt t (.pointer (some ⟨b, o, none⟩)) v).run P w = .ok () w' ∧ Rest w w' ∧ K w'.heap := by
    intro cs hv hg
    subst hv
    obtain ⟨i, hi, hz, h1, hw, hK⟩ := szOf_sound hg
    obtain ⟨w', hrun, hrest, hh⟩ := run_stores (P := P) b cs.toList o 0 w (by rw [hz]; exact hw) h1
    refine ⟨w', ?_, hrest, hK _ hh⟩
    have hs : cs.size = i.size := by simpa using hz
    simp only [Instr.storeAt, Instr.sureAddr, storeVar, Sem.run_bind, Sem.run_pure, Result.andThen_ok, run_szOf hi, Value.cells, hs, ne_eq, not_true_eq_false, if_false, hrun]
  split at h
  · exact h.elim
  · split at h
    · exact agg _ rfl h
    · exact h.elim
  · split at h
    · exact agg _ rfl h
    · exact h.elim
  · obtain ⟨i, hi, h⟩ := szOf_sound h
    obtain ⟨hz, h1, hw, hK⟩ := cond_elim h
    obtain ⟨w', hrun, hrest, hh⟩ := run_stores (P := P) b [v] o 0 w hw (by simpa using h1)
    refine ⟨w', ?_, hrest, hK _ hh⟩
    have hv : v.cells = #[v] := by cases v <;> first | rfl | cases h1
    have hs : i.size = 1 := Nat.eq_of_beq_eq_true hz
    simp only [Instr.storeAt, Instr.sureAddr, storeVar, Sem.run_bind, Sem.run_pure, Result.andThen_ok, run_szOf hi, hv, hs, List.size_toArray, List.length_cons, List.length_nil, ne_eq, not_true_eq_false, if_false, Nat.zero_add, hrun]

end


section
variable {P : Program} {mp : Bool} {o : Oper} {n : Nat} {e : Env} {a : Act} {w w0 : World} {K : SV → Hp → Prop} {Kp : List PanicEntry → Hp → Prop}

def Next' (a : Act) (o : Oper) (w0 : World) (K : SV → Hp → Prop) : Act → World → Prop :=
  fun a' w' => ∃ x, a' = a.put o.dst x.val ∧ Rest w0 w' ∧ K x w'.heap
def Gone (a : Act) (w0 : World) (Kp : List PanicEntry → Hp → Prop) : Exit → Act → World → Prop :=
  fun ex a' w' => ∃ c, ex = .panic c ∧ a' = a ∧ Rest w0 w' ∧ Kp c w'.heap

theorem wp_value {v : SV} {w' : World} (hrun : (execOp a.eval o).run P w = .ok (.value v.val) w') (hr : Rest w0 w') (hK : K v w'.heap) :
    o.wp P a w (Next' a o w0 K) (Gone a w0 Kp) := by
  unfold Oper.wp
  rw [hrun]
  exact ⟨v, rfl, hr, hK⟩

theorem wp_skip' {w' : World} (hrun : (execOp a.eval o).run P w = .ok .skip w') (hr : Rest w0 w') (hK : K (.v undef) w'.heap) :
    o.wp P a w (Next' a o w0 K) (Gone a w0 Kp) := by
  unfold Oper.wp
  rw [hrun]
  exact ⟨.v undef, rfl, hr, hK⟩

theorem wp_raw {s : Sem Value} {t : TypeId} (hw : Rest w0 w) (h : rawV P s t w.heap K) (hx : execOp a.eval o = (do pure (.value (← s)) : Sem Next)) :
    o.wp P a w (Next' a o w0 K) (Gone a w0 Kp) := by
  obtain ⟨v, w', hrun, hrest, hK⟩ := h w rfl
  obtain ⟨u, rfl, hK⟩ := shaped_sound hK
  refine wp_value (v := .v v) (w' := w') ?_ (hw.trans hrest) hK
  rw [hx]
  simp [hrun]

theorem callFunc_run (hP : Fine P) {f : FuncId} {fn : Func} {c : Code} (hf : P.funcs[f]? = some fn) (hb : fn.body = some c) (args : Array Value) :
    (callFunc f args).run P w = .ok (.enter f args) w := by
  have hn := hP.noNum f fn hf
  simp only [callFunc, Sem.run_bind, run_program, Result.andThen_ok, hf, hn, hb]
  rfl

theorem callV_sound (hP : Fine P) (hw : Rest w0 w) {f : FuncId} {args : List Value} (h : callV P mp f args w.heap K Kp)
    (hx : (execOp a.eval o).run P w = (callFunc f args.toArray).run P w) : o.wp P a w (Next' a o w0 K) (Gone a w0 Kp) := by
  unfold callV at h
  split at h
  · exact h.elim
  · rename_i fn hf
    split at h
    · exact h.elim
    · rename_i c hb
      unfold Oper.wp
      rw [hx, callFunc_run hP hf hb]
      refine (h w rfl).mono fun ex w' ⟨hne, hrest, hpost⟩ => ?_
      have hret : ∀ v, ex = .returned v → K (.v v) w'.heap → (match ex, w' with | .returned v, w'' => Next' a o w0 K (a.put o.dst v) w'' | .panicked chain, w'' => Gone a w0 Kp (.panic chain) a w'' | .outgrown, _ => LetsOut (Gone a w0 Kp)) := by
        rintro v rfl hK
        exact ⟨.v v, rfl, hw.trans hrest, hK⟩
      split at hpost
      · obtain ⟨v, he, hK⟩ := resultV_sound hpost
        have := hret v he hK
        subst he
        exact this
      · rcases hpost with hpost | ⟨c, he, hK⟩
        · obtain ⟨v, he, hK⟩ := resultV_sound hpost
          have := hret v he hK
          subst he
          exact this
        · subst he
          exact ⟨c, rfl, rfl, hw.trans hrest, hK⟩

theorem callX_sound (hP : Fine P) (hw : Rest w0 w) {f : FuncId} {args : List Value} {t : TypeId} (hb : bodied P f = true) (h : callX P mp f args t w.heap K Kp)
    (hx : (execOp a.eval o).run P w = (callFunc f args.toArray).run P w) : o.wp P a w (Next' a o w0 K) (Gone a w0 Kp) := by
  unfold bodied at hb
  split at hb
  · rename_i fn hf
    obtain ⟨c, hb⟩ := Option.isSome_iff_exists.1 hb
    unfold Oper.wp
    rw [hx, callFunc_run hP hf hb]
    refine (h w rfl).mono fun ex w' ⟨hne, hrest, hpost⟩ => ?_
    have hret : ∀ v, ex = .returned v → K (.v v) w'.heap → (match ex, w' with | .returned v, w'' => Next' a o w0 K (a.put o.dst v) w'' | .panicked chain, w'' => Gone a w0 Kp (.panic chain) a w'' | .outgrown, _ => LetsOut (Gone a w0 Kp)) := by
      rintro v rfl hK
      exact ⟨.v v, rfl, hw.trans hrest, hK⟩
    split at hpost
    · obtain ⟨v, he, hK⟩ := shaped_sound hpost
      have := hret v he hK
      subst he
      exact this
    · rcases hpost with hpost | ⟨c, he, hK⟩
      · obtain ⟨v, he, hK⟩ := shaped_sound hpost
        have := hret v he hK
        subst he
        exact this
      · subst he
        exact ⟨c, rfl, rfl, hw.trans hrest, hK⟩
  · cases hb

theorem invoke_method {r : Value} {A c : Array Value} {name : String} : invoke (.fn (.method name) c) (#[r] ++ A) = callMethod r name A := by
  have e0 : (#[r] ++ A)[0]? = some r := by rw [Array.getElem?_append_left (by simp)]; rfl
  have e1 : (#[r] ++ A).extract 1 (#[r] ++ A).size = A := by
    apply Array.toList_inj.1
    simp
  unfold invoke
  simp only [e0, e1]

theorem callMethod_run {P : Program} {w : World} {t : TypeId} {y : Value} {name : String} {f : FuncId} {args : Array Value} (hm : methF P t name = some f) : (callMethod (.iface t y) name args).run P w = (callFunc f (#[y] ++ args)).run P w := by
  unfold methF at hm
  split at hm
  · rename_i i e hi he
    split at hm
    · rename_i m hfind
      split at hm
      · rename_i g hp hg
        cases hm
        have hd : 0 < Made.depth := by decide
        obtain ⟨k, hk⟩ : ∃ k, P.types.size + Made.depth = k + 1 := ⟨P.types.size + Made.depth - 1, by omega⟩
        simp [callMethod, hk, method, typeInfo, hi, hfind, hp, follow, hg, receiverAt, he, Place.get, run_underlying]
      · cases hm
    · cases hm
  · cases hm

theorem wp_pv (hr : Rep n e a) (hw : Rest w0 w) (h : pv P o.op e fun x => K x w.heap) : o.wp P a w (Next' a o w0 K) (Gone a w0 Kp) := by
  obtain ⟨r, hrun, hK⟩ := pv_sound hr h
  exact wp_value (hrun w) hw hK

set_option maxHeartbeats 1000000 in
theorem ov_sound (hP : Fine P) (hr : Rep n e a) (hw : Rest w0 w) (h : ov P mp o e w.heap (cellsAt w.heap) K Kp) : o.wp P a w (Next' a o w0 K) (Gone a w0 Kp) := by
  unfold ov at h
  split at h
  · rename_i t x ho
    obtain ⟨v, hv, h⟩ := ev_sound hr h
    obtain ⟨b, i, hp, h⟩ := asPtr_sound h
    obtain ⟨vs, y, hrd, hK, hrun⟩ := loadV_sound h
    refine wp_value (v := y) (w' := w) ?_ hw hK
    simp [execOp, ho, hv, hp, hrun w hrd]
  · rename_i t x y ho
    obtain ⟨v, hv, h⟩ := ev_sound hr h
    obtain ⟨b, i, hp, h⟩ := asPtr_sound h
    obtain ⟨u, hu, h⟩ := ev_sound hr h
    obtain ⟨w', hrun, hrest, hK⟩ := storeV_sound h
    refine wp_skip' (w' := w') ?_ (hw.trans hrest) hK
    simp [execOp, ho, hv, hp, hu, hrun]
  · rename_i t ho
    obtain ⟨⟨i, z, hi, hz⟩, hK⟩ := h _ _ rfl rfl
    refine wp_value (v := .ptr w.heap.size 0) (w' := { w with heap := w.heap.push (.cells (zeros P t) t) }) ?_ (hw.trans ⟨rfl, rfl, rfl⟩) hK
    simp [execOp, ho, Instr.alloc, zeroValue, typeInfo, hi, hz, newVar, newRow, zeros]
  · rename_i t x ho
    obtain ⟨v, hv, h⟩ := ev_sound hr h
    refine wp_value (v := .ptr w.heap.size 0) (w' := { w with heap := w.heap.push (.cells v.val.cells t) }) ?_ (hw.trans ⟨rfl, rfl, rfl⟩) (h _ _ rfl rfl)
    simp [execOp, ho, hv, Instr.box, newVar, newRow]
  · rename_i t ho
    refine wp_value (v := .v (.map (some w.heap.size))) (w' := { w with heap := w.heap.push (.map #[] 0) }) ?_ (hw.trans ⟨rfl, rfl, rfl⟩) (h _ _ rfl rfl)
    simp [execOp, ho, Instr.makeMap]
  · rename_i ho
    obtain ⟨v, hv, h⟩ := ev_sound hr h
    obtain ⟨u, hu, h⟩ := ev_sound hr h
    exact wp_raw hw h (by simp only [execOp, ho, hv, hu])
  · rename_i t len parts ho
    obtain ⟨xs, hxs, h⟩ := evs_sound hr h
    refine wp_raw hw h ?_
    simp only [execOp, ho]
    have : (parts.map fun (p : Nat × Operand) => (p.1, a.eval p.2)) = ((parts.toList.map (·.1)).zip xs).toArray := by
      rw [← hxs, List.map_map, List.zip_map']
      apply Array.toList_inj.1
      simp
    rw [← this]
  · rename_i ho
    obtain ⟨v, hv, h⟩ := ev_sound hr h
    obtain ⟨u, hu, h⟩ := ev_sound hr h
    exact wp_raw hw h (by simp only [execOp, ho, hv, hu])
  · rename_i ho
    obtain ⟨m, hm, h⟩ := ev_sound hr h
    obtain ⟨k, hk, h⟩ := ev_sound hr h
    obtain ⟨v, hv, h⟩ := ev_sound hr h
    obtain ⟨_, w', hrun, hrest, hK⟩ := h w rfl
    refine wp_skip' (w' := w') ?_ (hw.trans hrest) hK
    simp [execOp, ho, hm, hk, hv, hrun]
  · rename_i ho
    obtain ⟨m, hm, h⟩ := ev_sound hr h
    obtain ⟨k, hk, h⟩ := ev_sound hr h
    obtain ⟨v, hv, h⟩ := ev_sound hr h
    obtain ⟨_, w', hrun, hrest, hK⟩ := h w rfl
    refine wp_skip' (w' := w') ?_ (hw.trans hrest) hK
    simp [execOp, ho, hm, hk, hv, hrun]
  · rename_i ho
    split at h
    · obtain ⟨v, hv, h⟩ := ev_sound hr h
      exact wp_raw hw h (by simp only [execOp, ho, hv])
    · obtain ⟨v, hv, h⟩ := ev_sound hr h
      exact wp_raw hw h (by simp only [execOp, ho, hv])
    · exact wp_pv hr hw h
  · rename_i ho
    obtain ⟨v, hv, h⟩ := ev_sound hr h
    split at h
    · rename_i t1 v1 hx _
      unfold Oper.wp
      have hrun : (execOp a.eval o).run P w = .halt (.panic v.val) w := by
        simp only [execOp, ho, hv, Sem.run_bind]
        rw [hx]
        rfl
      rw [hrun, hx]
      exact ⟨_, rfl, rfl, hw, h⟩
    · exact h.elim
  · rename_i ho
    obtain ⟨v, hv, h⟩ := ev_sound hr h
    obtain ⟨l1, hl1, h⟩ := ev_sound hr h
    obtain ⟨l2, hl2, h⟩ := ev_sound hr h
    obtain ⟨l3, hl3, h⟩ := ev_sound hr h
    exact wp_raw hw h (by simp only [execOp, ho, hv, hl1, hl2, hl3, Option.map_some])
  · rename_i f args _ ho
    obtain ⟨xs, hxs, h⟩ := evs_sound hr h
    refine callV_sound hP hw h ?_
    subst hxs
    simp [execOp, ho, resolve, Act.eval, Deferred.ofValue, invoke, ← Array.toList_map]
  · rename_i x args _ _ ho
    obtain ⟨v, hv, h⟩ := ev_sound hr h
    obtain ⟨xs, hxs, f, fst, cap, hf, hb, h⟩ := evs_sound hr h
    refine callX_sound hP hw hb h ?_
    subst hxs
    have : (fst.toList ++ List.map a.eval args.toList ++ cap.toList).toArray = fst ++ args.map a.eval ++ cap := by
      apply Array.toList_inj.1
      simp
    rw [this]
    simp [execOp, ho, resolve, hv, hf, Deferred.ofValue, invoke]
  · rename_i x name args _ ho
    obtain ⟨v, hv, h⟩ := ev_sound hr h
    obtain ⟨xs, hxs, t, y, f, hf, hm, hb, h⟩ := evs_sound hr h
    refine callX_sound hP hw hb h ?_
    subst hxs
    have e1 : (y :: List.map a.eval args.toList).toArray = #[y] ++ args.map a.eval := by
      apply Array.toList_inj.1
      simp
    rw [e1]
    have e2 : (execOp a.eval o).run P w = (callMethod (.iface t y) name (args.map a.eval)).run P w := by
      rw [← invoke_method (c := #[])]
      simp [execOp, ho, resolve, hv, hf]
    rw [e2, callMethod_run hm]
  · rename_i args _ ho
    obtain ⟨xs, hxs, h⟩ := evs_sound hr h
    refine wp_raw hw h ?_
    subst hxs
    simp only [execOp, ho, resolve, ← Array.toList_map, Array.toArray_toList]
    rfl
  · rename_i args _ ho
    obtain ⟨xs, hxs, h⟩ := evs_sound hr h
    refine wp_raw hw h ?_
    subst hxs
    simp only [execOp, ho, resolve, ← Array.toList_map, Array.toArray_toList]
    rfl
  · rename_i args _ ho
    obtain ⟨xs, hxs, h⟩ := evs_sound hr h
    refine wp_raw hw h ?_
    subst hxs
    simp only [execOp, ho, resolve, ← Array.toList_map, Array.toArray_toList]
    rfl
  · rename_i args _ ho
    obtain ⟨xs, hxs, h⟩ := evs_sound hr h
    refine wp_raw hw h ?_
    subst hxs
    simp only [execOp, ho, resolve, ← Array.toList_map, Array.toArray_toList]
    rfl
  · rename_i args _ ho
    obtain ⟨xs, hxs, h⟩ := evs_sound hr h
    refine wp_raw hw h ?_
    subst hxs
    simp only [execOp, ho, resolve, ← Array.toList_map, Array.toArray_toList]
    rfl
  · rename_i args _ ho
    split at h
    · obtain ⟨xs, hxs, h⟩ := evs_sound hr h
      refine wp_raw hw h ?_
      subst hxs
      simp only [execOp, ho, resolve, ← Array.toList_map, Array.toArray_toList]
      rfl
    · exact wp_pv hr hw h
  · rename_i op t x y _ ho
    split at h
    · obtain ⟨u, hu, h⟩ := ev_sound hr h
      obtain ⟨v, hv, h⟩ := ev_sound hr h
      unfold eqHV at h
      split at h
      · obtain ⟨hg, b, hb, h⟩ := h
        obtain ⟨h1, h2, _⟩ := guardFree_eq hg
        refine wp_value (v := .v (.bool b)) (w' := w) ?_ hw h
        simp [execOp, ho, hu, hv, h1, h2, hb w rfl]
      · obtain ⟨hg, b, hb, h⟩ := h
        obtain ⟨_, _, h1, h2⟩ := guardFree_eq hg
        refine wp_value (v := .v (.bool (!b))) (w' := w) ?_ hw h
        simp [execOp, ho, hu, hv, h1, h2, hb w rfl]
      · exact h.elim
    · exact wp_pv hr hw h
  · exact wp_pv hr hw h

end

end Go.Vc
