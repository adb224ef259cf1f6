/- The plain law of the cyclic sum. -/
set_option maxRecDepth 10000
namespace Go.Vc

abbrev W32 := BitVec 32

def poly : W32 := 3988292384#32

/-- A turn of the register. -/
def turnB (r : W32) : W32 := (r >>> 1) ^^^ (bif r.getLsbD 0 then poly else 0#32)

/-- A turn undone. -/
def undoB (r : W32) : W32 := bif r.getLsbD 31 then ((r ^^^ poly) <<< 1) ||| 1#32 else r <<< 1

def iter (f : W32 → W32) : Nat → W32 → W32
  | 0, r => r
  | n + 1, r => iter f n (f r)

theorem iter_add (f : W32 → W32) (n m : Nat) (r : W32) : iter f (n + m) r = iter f m (iter f n r) := by
  induction n generalizing r with
  | zero => simp [iter]
  | succ n ih => rw [Nat.succ_add]; simp only [iter]; exact ih _

theorem iter_succ' (f : W32 → W32) (n : Nat) (r : W32) : iter f (n + 1) r = f (iter f n r) := by
  rw [iter_add f n 1]; rfl

/-- A map that goes with xor. -/
def Lin (f : W32 → W32) : Prop := ∀ a b, f (a ^^^ b) = f a ^^^ f b

theorem Lin.zero {f : W32 → W32} (h : Lin f) : f 0#32 = 0#32 := by
  have := h 0#32 0#32
  simp only [BitVec.xor_self] at this
  exact this

theorem xor4 (a b c d : W32) : (a ^^^ b) ^^^ (c ^^^ d) = (a ^^^ c) ^^^ (b ^^^ d) := by
  rw [BitVec.xor_assoc, ← BitVec.xor_assoc b c d, BitVec.xor_comm b c, BitVec.xor_assoc c b d, ← BitVec.xor_assoc]

theorem turn_lin : Lin turnB := by
  intro a b
  unfold turnB
  rw [BitVec.ushiftRight_xor_distrib, BitVec.getLsbD_xor, xor4]
  congr 1
  cases a.getLsbD 0 <;> cases b.getLsbD 0 <;> simp

theorem Lin.iter {f : W32 → W32} (h : Lin f) (n : Nat) : Lin (iter f n) := by
  induction n with
  | zero => exact fun _ _ => rfl
  | succ n ih => intro a b; simp only [Vc.iter]; rw [h, ih]

theorem undo_turn (r : W32) : undoB (turnB r) = r := by
  unfold undoB turnB
  cases h : r.getLsbD 0
  · simp only [cond_false, BitVec.xor_zero]
    rw [show (r >>> 1).getLsbD 31 = false by simp, cond_false]
    apply BitVec.eq_of_getLsbD_eq
    intro i hi
    simp only [BitVec.getLsbD_shiftLeft, BitVec.getLsbD_ushiftRight]
    cases i with
    | zero => simpa using h.symm
    | succ i => simp [hi, Nat.add_comm]
  · simp only [cond_true]
    have : (r >>> 1 ^^^ poly).getLsbD 31 = true := by
      rw [BitVec.getLsbD_xor]; simp; decide
    rw [this, cond_true, BitVec.xor_assoc, BitVec.xor_self, BitVec.xor_zero]
    apply BitVec.eq_of_getLsbD_eq
    intro i hi
    simp only [BitVec.getLsbD_or, BitVec.getLsbD_shiftLeft, BitVec.getLsbD_ushiftRight]
    cases i with
    | zero => simpa using h.symm
    | succ i => simp [hi, Nat.add_comm]

theorem turn_undo (r : W32) : turnB (undoB r) = r := by
  unfold undoB turnB
  cases h : r.getLsbD 31
  · simp only [cond_false]
    rw [show (r <<< 1).getLsbD 0 = false by simp, cond_false, BitVec.xor_zero]
    apply BitVec.eq_of_getLsbD_eq
    intro i hi
    simp only [BitVec.getLsbD_shiftLeft, BitVec.getLsbD_ushiftRight]
    by_cases h31 : i = 31
    · subst h31; simpa using h.symm
    · have : 1 + i < 32 := by omega
      simp [this]
  · simp only [cond_true]
    rw [show ((r ^^^ poly) <<< 1 ||| 1#32).getLsbD 0 = true by simp, cond_true]
    have : ((r ^^^ poly) <<< 1 ||| 1#32) >>> 1 = r ^^^ poly := by
      apply BitVec.eq_of_getLsbD_eq
      intro i hi
      simp only [BitVec.getLsbD_or, BitVec.getLsbD_shiftLeft, BitVec.getLsbD_ushiftRight]
      by_cases h31 : i = 31
      · subst h31
        rw [BitVec.getLsbD_xor, h]
        decide
      · have : 1 + i < 32 := by omega
        simp [this]
    rw [this, BitVec.xor_assoc, BitVec.xor_self, BitVec.xor_zero]

theorem undo_lin : Lin undoB := fun a b => by
  have : turnB (undoB a ^^^ undoB b) = a ^^^ b := by rw [turn_lin, turn_undo, turn_undo]
  rw [← this, undo_turn]

theorem iter_undo_turn (n : Nat) (r : W32) : iter undoB n (iter turnB n r) = r := by
  induction n generalizing r with
  | zero => rfl
  | succ n ih => rw [iter_succ']; show undoB (iter undoB n (iter turnB n (turnB r))) = r; rw [ih, undo_turn]
theorem iter_turn_undo (n : Nat) (r : W32) : iter turnB n (iter undoB n r) = r := by
  induction n generalizing r with
  | zero => rfl
  | succ n ih => rw [iter_succ']; show turnB (iter turnB n (iter undoB n (undoB r))) = r; rw [ih, turn_undo]

/-- Of what has no low bits a turn is a shift. -/
theorem turn_shl (y : W32) (h : y.getLsbD 31 = false) : turnB (y <<< 1) = y := by
  have := turn_undo y
  unfold undoB at this
  rw [h, cond_false] at this
  exact this

theorem quad_high (x : W32) : iter turnB 4 ((x >>> 4) <<< 4) = x >>> 4 := by
  have e : (x >>> 4) <<< 4 = ((((x >>> 4) <<< 1) <<< 1) <<< 1) <<< 1 := by
    simp only [← BitVec.shiftLeft_add]
  rw [e]
  simp only [iter]
  rw [turn_shl, turn_shl, turn_shl, turn_shl] <;> simp

theorem split4 (x : W32) : x = ((x >>> 4) <<< 4) ^^^ (x &&& 15#32) := by
  apply BitVec.eq_of_getLsbD_eq
  intro i hi
  rw [BitVec.getLsbD_xor, BitVec.getLsbD_shiftLeft, BitVec.getLsbD_and, BitVec.getLsbD_ushiftRight]
  by_cases h : i < 4
  · have : (15#32).getLsbD i = true := by
      have : i = 0 ∨ i = 1 ∨ i = 2 ∨ i = 3 := by omega
      rcases this with rfl | rfl | rfl | rfl <;> decide
    rw [this, decide_eq_true h]; simp
  · have : (15#32).getLsbD i = false := by
      rw [show (15#32) = BitVec.ofNat 32 (2 ^ 4 - 1) from rfl, BitVec.getLsbD_ofNat, Nat.testBit_two_pow_sub_one]
      simp [h]
    rw [this, Bool.and_false, Bool.xor_false, decide_eq_true hi, decide_eq_false h, show 4 + (i - 4) = i by omega]; simp

theorem quad (x : W32) : iter turnB 4 x = (x >>> 4) ^^^ iter turnB 4 (x &&& 15#32) := by
  conv => lhs; rw [split4 x]
  rw [turn_lin.iter, quad_high]

/-- The register behind a byte. -/
def takeB (r : W32) (c : UInt8) : W32 := iter turnB 8 (r ^^^ c.toBitVec.setWidth 32)
def takesB (r : W32) (l : List UInt8) : W32 := l.foldl takeB r

/-- The sum of bytes. -/
def moreB (s : W32) (l : List UInt8) : W32 := ~~~ takesB (~~~ s) l

theorem take_quads (r : W32) (c : UInt8) : takeB r c = ((((r ^^^ c.toBitVec.setWidth 32) >>> 4) ^^^ iter turnB 4 ((r ^^^ c.toBitVec.setWidth 32) &&& 15#32)) >>> 4) ^^^
    iter turnB 4 ((((r ^^^ c.toBitVec.setWidth 32) >>> 4) ^^^ iter turnB 4 ((r ^^^ c.toBitVec.setWidth 32) &&& 15#32)) &&& 15#32) := by
  rw [← quad, ← quad, ← iter_add]; rfl

theorem takesB_append (r : W32) (l m : List UInt8) : takesB r (l ++ m) = takesB (takesB r l) m := List.foldl_append

theorem takesB_snoc (r : W32) (l : List UInt8) (c : UInt8) : takesB r (l ++ [c]) = takeB (takesB r l) c := by rw [takesB_append]; rfl

end Go.Vc
