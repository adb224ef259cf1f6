/- Frames: what they are, and the small functions of the layer. -/
import Derived.Test.YthkbecpgbjejkaaDoorS9WSmA
import Derived.Test.YthkbecpgbjejkaaDoorFrM
import Derived.Test.YthkbecpgbjejkaaDoorVcK
set_option maxRecDepth 10000
namespace Go.Vc
open Go Go.Proofs

abbrev vU (n : Nat) : Value := .int .u64 (n : Int)
abbrev vB (b : UInt8) : Value := .int .u8 (b.toNat : Int)

structure Frm where
  kind : Int
  number : Nat
  index : Int
  body : ByteArray

def frmV (f : Frm) : List Value := [vZ f.kind, vU f.number, vZ f.index, .string f.body]
def Frm.no : Frm := ⟨0, 0, 0, ⟨#[]⟩⟩
def tx (l : List UInt8) : ByteArray := ⟨l.toArray⟩

structure Frm.Ok (f : Frm) : Prop where
  k0 : -9223372036854775808 ≤ f.kind
  k1 : f.kind ≤ 9223372036854775807
  n : f.number < 18446744073709551616
  i0 : -9223372036854775808 ≤ f.index
  i1 : f.index ≤ 9223372036854775807
  b : f.body.size ≤ 9223372036854775807

theorem bl_tx (l : List UInt8) : bl (tx l) = l := by simp [bl, tx]
theorem tx_size (l : List UInt8) : (tx l).size = l.length := by show Array.size _ = _; simp
theorem bl_length (s : ByteArray) : (bl s).length = s.size := by simp [bl]
theorem bl_inj {a b : ByteArray} (h : bl a = bl b) : a = b := by
  apply ByteArray.ext; exact Array.toList_inj.1 h
theorem bl_append (a b : ByteArray) : bl (a ++ b) = bl a ++ bl b := by
  show (a ++ b).data.toList = _
  rw [ByteArray.data_append, Array.toList_append]
theorem bl_extract (s : ByteArray) (i j : Nat) : bl (s.extract i j) = ((bl s).drop i).take (j - i) := by
  show (s.extract i j).data.toList = _
  rw [Lib.extract_data]

/-- What is wrong with a frame. -/
def Frm.wrong (f : Frm) : Int := if f.kind < 1 ∨ 255 < f.kind ∨ f.index < 0 ∨ 2147483647 < f.index then 1 else if 491 < f.body.size then 2 else 0

/-- turnoutlaw05.pick -/
def pickN (c : Int) (n : Nat) : Nat := (if c < 0 then (-(c + 1)).toNat else c.toNat) % n
theorem pickN_lt (c : Int) {n : Nat} (hn : 0 < n) : pickN c n < n := Nat.mod_lt _ hn
theorem tmod_nat (m n : Nat) : Int.tmod (m : Int) (n : Int) = ((m % n : Nat) : Int) := (Int.ofNat_tmod m n).symm

theorem pick_c (c : Int) (n : Nat) (hn : 0 < n) (hlo : -9223372036854775808 ≤ c) (hhi : c ≤ 9223372036854775807) (h : Hp) : CallsH Tryd.prog 18 #[vZ c, vI n] h fun e h' => h' = h ∧ e = .returned (vI (pickN c n)) := by
  have hn0 : (n : Int) ≠ 0 := by omega
  refine V18 _ _ h _ ⟨fun hc => ?_, fun hc => ?_⟩
  · have hc : c < 0 := by simpa using hc
    obtain ⟨m, hm⟩ := Int.eq_ofNat_of_zero_le (show 0 ≤ -(c + 1) by omega)
    refine ⟨_, wrapI64 (by omega) (by omega), _, wrapI64 (by omega) (by omega), hn0, _, rfl, rfl, ?_⟩
    rw [show (0 - (c + 1)) = (m : Int) by omega, tmod_nat]
    unfold pickN
    rw [if_pos hc, hm]; rfl
  · have hc : ¬ c < 0 := by simpa using hc
    obtain ⟨m, hm⟩ := Int.eq_ofNat_of_zero_le (show 0 ≤ c by omega)
    refine ⟨hn0, _, rfl, rfl, ?_⟩
    unfold pickN
    rw [hm, tmod_nat, if_neg (by omega)]; rfl

/-- frame.refused -/
theorem refused_c (f : Frm) (h : Hp) : CallsH Tryd.prog 82 #[.agg (frmV f).toArray] h fun e h' => Ext h h' ∧ e = .returned (vZ f.wrong) := by
  refine V82 _ _ _ _ h _ ?_
  intro b h1 hb e1
  have x1 : Ext h h1 := by rw [e1]; exact Ext.push _ _
  have c1 : h1[h.size]? = some (.cells (frmV f).toArray 94) := by rw [e1]; exact push_last
  clear e1
  subst hb
  refine ⟨decide (f.kind < 1 ∨ 255 < f.kind ∨ f.index < 0 ∨ 2147483647 < f.index), ⟨f.kind, cellsAt_one (cellH_at c1), fun hc => ⟨rfl, ?_⟩, fun hc => ⟨f.kind, cellsAt_one (cellH_at c1), fun hd => ⟨rfl, ?_⟩, fun hd => ⟨f.index, cellsAt_one (cellH_at c1), fun he => ⟨rfl, ?_⟩, fun he => ⟨f.index, cellsAt_one (cellH_at c1), rfl, ?_⟩⟩⟩⟩, fun hB => ⟨x1, ?_⟩, fun hB => ⟨f.body, cellsAt_one (cellH_at c1), fun hl => ⟨x1, ?_⟩, fun hl => ⟨x1, ?_⟩⟩⟩
  · have hc : f.kind < 1 := by simpa using hc
    simp [hc]
  · have hd : 255 < f.kind := by simpa using hd
    simp [hd]
  · have he : f.index < 0 := by simpa using he
    simp [he]
  · have h1 : ¬ f.kind < 1 := by simpa using hc
    have h2 : ¬ 255 < f.kind := by simpa using hd
    have h3 : ¬ f.index < 0 := by simpa using he
    simp [h1, h2, h3]
  · unfold Frm.wrong
    rw [if_pos (of_decide_eq_true hB)]
  · unfold Frm.wrong
    have hl : 491 < f.body.size := by simp at hl; omega
    rw [if_neg (of_decide_eq_false hB), if_pos hl]
  · unfold Frm.wrong
    have hl : ¬ 491 < f.body.size := by simp at hl; omega
    rw [if_neg (of_decide_eq_false hB), if_neg hl]

/-- frame.want -/
theorem want_c (ok : Bool) (code : Int) (h : Hp) : CallsH Tryd.prog 85 #[.bool ok, vZ code] h fun e h' => h' = h ∧ ((ok = true ∧ e = .returned (.tuple #[])) ∨ (ok = false ∧ e = .panicked [{ v := .iface 146 (.agg #[vZ code]), recovered := false }])) :=
  V85 _ _ h _ ⟨fun ho => ⟨rfl, .inr ⟨by simpa using ho, rfl⟩⟩, fun ho => ⟨rfl, .inl ⟨by simpa using ho, rfl⟩⟩⟩

theorem wrapU {n : Nat} (h : n < 18446744073709551616) : IntKind.u64.wrap (n : Int) = (n : Int) := by rw [wrapU64]; omega

theorem orWord64 (a b : BitVec 64) : orI .u64 (a.toNat : Int) (b.toNat : Int) = ((a ||| b).toNat : Int) := by
  unfold orI
  rw [show IntKind.u64.bits = 64 from rfl, ofIntWord, ofIntWord]
  exact wrapWord64 _

theorem shl8 (n : Nat) (hn : n < 72057594037927936) : shlI .u64 (n : Int) (8 : Int) = ((256 * n : Nat) : Int) := by
  unfold shlI
  rw [show min (8 : Int).toNat IntKind.u64.bits = 8 from by decide]
  rw [show (n : Int) * 2 ^ 8 = ((256 * n : Nat) : Int) by push_cast; omega]
  exact wrapU (by omega)

theorem or8 (n : Nat) (c : UInt8) (hn : n < 72057594037927936) : orI .u64 ((256 * n : Nat) : Int) (c.toNat : Int) = ((256 * n + c.toNat : Nat) : Int) := by
  have hc : c.toNat < 256 := c.toNat_lt
  have := orWord64 (BitVec.ofNat 64 (256 * n)) (BitVec.ofNat 64 c.toNat)
  rw [BitVec.toNat_ofNat, BitVec.toNat_ofNat, Nat.mod_eq_of_lt (by omega), Nat.mod_eq_of_lt (by omega)] at this
  rw [this, BitVec.toNat_or, BitVec.toNat_ofNat, BitVec.toNat_ofNat, Nat.mod_eq_of_lt (by omega), Nat.mod_eq_of_lt (by omega)]
  congr 1
  have e := Nat.two_pow_add_eq_or_of_lt (i := 8) (b := c.toNat) (by omega) n
  rw [show 2 ^ 8 * n = 256 * n from rfl] at e
  exact e.symm

theorem numL_small {l : List UInt8} {k : Nat} (h : l.length ≤ k) : numL l < 256 ^ k := Nat.lt_of_lt_of_le (numL_lt l) (Nat.pow_le_pow_right (by decide) h)

/-- frame.said -/
theorem said_c (s : ByteArray) (hs : s.size ≤ 8) (h : Hp) : CallsH Tryd.prog 87 #[.string s] h fun e h' => h' = h ∧ e = .returned (vU (numL (bl s))) := by
  refine V87 _ h _ ⟨fun l hq => hq = h ∧ ∃ i : Nat, i ≤ s.size ∧ l = [vU (numL ((bl s).take i)), vI i], fun l _ => (s.size - numAt l 1).toNat, ⟨rfl, 0, Nat.zero_le _, rfl⟩, ?_⟩
  rintro n x hq ⟨rfl, i, hi, hl⟩
  cases hl
  refine ⟨fun hc => ?_, fun hc => ?_⟩
  · have hc : i < s.size := by simpa using hc
    have hsm : numL ((bl s).take i) < 256 ^ 7 := numL_small (by rw [List.length_take]; omega)
    have hsm : numL ((bl s).take i) < 72057594037927936 := hsm
    refine ⟨by omega, _, shl8 _ hsm, by omega, _, byteAt hc, _, wrapU (by have := s[i].toNat_lt; omega), _, or8 _ _ hsm, _, incI (by omega), ⟨rfl, i + 1, hc, ?_⟩, by simp only [numAt]; omega⟩
    rw [take_byte hc, numL_snoc]
  · have hc : i = s.size := by simp at hc; omega
    subst hc
    exact ⟨rfl, by rw [take_size]⟩

end Go.Vc
