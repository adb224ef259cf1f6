/- The document's writer. -/
import Derived.Test.YtloieaoglpjffaaS3PkX
import Derived.Test.YtloieaoglpjffaaS3PkY
set_option maxRecDepth 10000
namespace Go.Vc
open Go Go.Proofs

theorem tx_append (a b : List UInt8) : tx a ++ tx b = tx (a ++ b) := bl_inj (by rw [bl_append, bl_tx, bl_tx, bl_tx])

/-- A text of one byte. -/
theorem semH_byte {h : Hp} (c : UInt8) {parts : Array (Nat × Value)} (hp : parts = #[(0, vB c)]) {tBs tS : TypeId} (uBs : Try.prog.underlying tBs = some (.slice 5)) (uStr : Try.prog.underlying tS = some .string) (rowB : RowT Try.prog tBs 5 1 1) {K : ByteArray → Hp → Prop}
    (hK : ∀ h', Ext h h' → K (tx [c]) h') :
    SemH Try.prog (Instr.buildSlice tBs 1 parts) h fun v_ h1 => ∃ (p1 : Option Addr) (n1 c1 : Nat), v_ = (Value.slice p1 n1 c1) ∧
      SemH Try.prog (convert tBs tS (.slice p1 n1 c1)) h1 fun v_1 h2 => ∃ x : ByteArray, v_1 = .string x ∧ K x h2 := by
  refine semH_build rowB (vs := [vB c]) (by rw [hp]; rfl) rfl (by simp) (by simp) (by simp [Value.oneCell']) ⟨_, _, _, rfl, ?_⟩
  have c1 : (h.push (.cells [vB c].toArray 5))[h.size]? = some (.cells #[vB c] 5) := push_last
  have sg : Seg (h.push (.cells [vB c].toArray 5)) (some ⟨h.size, 0, none⟩) 1 (byteVs (tx [c]).data.toList) :=
    ⟨rfl, .inr ⟨h.size, 0, rfl, cellsAt_all (vs := [vB c]) c1⟩⟩
  exact semH_toText uBs uB uStr sg ⟨_, rfl, hK _ (Ext.push _ _)⟩

/-- turnoutref03.UintBytes -/
theorem uintBytes_c : ∀ (k n : Nat) (h : Hp), n < 128 ^ (k + 1) → n < 18446744073709551616 → k ≤ 9 → CallsH Try.prog 61 #[vU n] h fun e h' => Ext h h' ∧ e = .returned (.string (tx (uintG k n))) := by
  intro k
  induction k with
  | zero =>
    intro n h hn h64 _
    have hn : n < 128 := by simpa using hn
    refine V61 _ h _ ⟨fun _ => ⟨_, show IntKind.u8.wrap (n : Int) = ((UInt8.ofNat n).toNat : Int) by rw [wrapU8, u8_nat]; omega, semH_byte _ rfl uBs uStr rowB fun h1 x1 => ⟨x1, rfl⟩⟩, fun hf => ?_⟩
    have := of_decide_eq_false hf; omega
  | succ k ih =>
    intro n h hn h64 hk
    refine V61 _ h _ ⟨fun hlt => ?_, fun hge => ?_⟩
    · have hlt : n < 128 := by have := of_decide_eq_true hlt; omega
      refine ⟨_, show IntKind.u8.wrap (n : Int) = ((UInt8.ofNat n).toNat : Int) by rw [wrapU8, u8_nat]; omega, semH_byte _ rfl uBs uStr rowB fun h1 x1 => ⟨x1, by rw [uintG_small _ hlt]⟩⟩
    · have hge : 128 ≤ n := by have := of_decide_eq_false hge; omega
      have e1 : Int.tdiv (n : Int) 128 = ((n / 128 : Nat) : Int) := rfl
      have e2 : Int.tmod (n : Int) 128 = ((n % 128 : Nat) : Int) := rfl
      refine ⟨by decide, ((n / 128 : Nat) : Int), by rw [e1, wrapU64]; omega, (ih (n / 128) h (by rw [Nat.pow_succ] at hn; omega) (by omega) (by omega)).mono ?_⟩
      rintro e h1 ⟨x1, rfl⟩
      refine ⟨_, rfl, by decide, _, e2, ((n % 128 : Nat) : Int), by rw [wrapU8]; omega, ((UInt8.ofNat (n % 128 + 128)).toNat : Int), by rw [wrapU8, u8_nat]; omega, semH_byte _ rfl uBs uStr rowB fun h2 x2 => ⟨?_, _, tx_append _ _, x1.trans x2, ?_⟩⟩
      · rw [tx_size, tx_size]
        have := (uintG_len k (n / 128)).2
        simp only [List.length_singleton]; omega
      · rw [uintG, if_neg (by omega), List.singleton_append]

/-- What a number's bytes are, so many of them. -/
def fixedF (n : Nat) (k : Int) : List UInt8 × Int := if k < 1 ∨ 8 < k then ([], 1) else if k < 8 ∧ n / 2 ^ (8 * k.toNat) ≠ 0 then ([], 11) else (beL k.toNat n, 0)

/-- turnoutref03.FixedBytes -/
theorem fixedBytes_c (n : Nat) (hn : n < 18446744073709551616) (k : Int) (h : Hp) : CallsH Try.prog 62 #[vU n, vZ k] h fun e h' => Ext h h' ∧ e = .returned (.tuple #[.string (tx (fixedF n k).1), vZ (fixedF n k).2]) := by
  refine V62 _ _ h _ ⟨fun _ hr => hr = h ∧ ¬ (k < 1 ∨ 8 < k), ⟨decide (k < 1 ∨ 8 < k), ⟨fun h1 => ⟨rfl, ?_⟩, fun h1 => ⟨rfl, ?_⟩⟩, fun hB => ⟨Ext.refl _, ?_⟩, fun hB => ⟨rfl, of_decide_eq_false hB⟩⟩, ?_⟩
  · have h1 := of_decide_eq_true h1
    exact decide_eq_true (.inl h1)
  · have h1 := of_decide_eq_false h1
    apply decide_eq_decide.2
    constructor
    · rintro (h2 | h2)
      · exact absurd h2 h1
      · exact h2
    · exact fun h2 => .inr h2
  · unfold fixedF; rw [if_pos (of_decide_eq_true hB)]; rfl
  rintro h' ⟨rfl, hk⟩
  obtain ⟨m, rfl⟩ := Int.eq_ofNat_of_zero_le (show 0 ≤ k by omega)
  have hm1 : 1 ≤ m := by omega
  have hm8 : m ≤ 8 := by omega
  refine ⟨fun l hr => ∃ i : Nat, i ≤ m ∧ l = [vU (n / 256 ^ i), .string (tx (beL i n)), vI i] ∧ Ext h' hr, fun l _ => (8 - numAt l 2).toNat, ⟨0, Nat.zero_le _, by rw [Nat.pow_zero, Nat.div_one]; rfl, Ext.refl _⟩, ?_⟩
  rintro n1 s1 iv h1 ⟨i, hi, hl, x1⟩
  cases hl
  have hq : n / 256 ^ i ≤ n := Nat.div_le_self _ _
  obtain ⟨Q, hQ⟩ : ∃ Q, Q = n / 256 ^ i := ⟨_, rfl⟩
  have e1 : Int.tdiv (Q : Int) 256 = ((Q / 256 : Nat) : Int) := rfl
  have e2 : Int.tmod (Q : Int) 256 = ((Q % 256 : Nat) : Int) := rfl
  refine ⟨fun hlt => ?_, fun hge => ?_⟩
  · have hlt : i < m := by have := of_decide_eq_true hlt; omega
    rw [← hQ]
    refine ⟨by decide, _, e2, ((UInt8.ofNat Q).toNat : Int), by rw [wrapU8, u8_nat]; omega, semH_byte _ rfl uBs uStr rowB fun h2 x2 => ⟨?_, _, tx_append _ _, by decide, ((Q / 256 : Nat) : Int), by rw [e1, wrapU64]; omega, _, incI (by omega), ⟨i + 1, hlt, ?_, x1.trans x2⟩, by simp only [numAt]; omega⟩⟩
    · rw [tx_size, tx_size, beL_length, List.length_singleton]; omega
    · rw [beL_succ, hQ, Nat.div_div_eq_div_mul, ← Nat.pow_succ]; rfl
  · have him : i = m := by have := of_decide_eq_false hge; omega
    subst him
    have ep : (256 : Nat) ^ i = 2 ^ (8 * i) := by rw [show (256 : Nat) = 2 ^ 8 from rfl, ← Nat.pow_mul]
    have hk' : ¬ (((i : Nat) : Int) < 1 ∨ 8 < ((i : Nat) : Int)) := hk
    refine ⟨fun h0 => ⟨x1, ?_⟩, fun h0 => ⟨x1, ?_⟩⟩
    · have h0 : n / 256 ^ i ≠ 0 := by have := of_decide_eq_true h0; omega
      have h8 : i < 8 := by
        by_cases h8 : i < 8
        · exact h8
        · exfalso; apply h0
          have : i = 8 := by omega
          subst this
          exact Nat.div_eq_of_lt hn
      unfold fixedF
      rw [if_neg hk', if_pos ⟨by omega, by rw [Int.toNat_natCast, ← ep]; exact h0⟩]; rfl
    · have h0 : n / 256 ^ i = 0 := by have := of_decide_eq_false h0; omega
      unfold fixedF
      rw [if_neg hk', if_neg (by rintro ⟨_, hh⟩; rw [Int.toNat_natCast, ← ep] at hh; exact hh h0), Int.toNat_natCast]

section
variable {h : Hp} {B : Nat → Prop} {p : Nat} {w : Wr}

def Wr.put (w : Wr) (s : List UInt8) (e : Int) : Wr := if w.e ≠ 0 then w else if e ≠ 0 then { w with e := e } else { w with b := w.b ++ s }

/-- turnoutref03.Writer.put -/
theorem rput_c (W : QrAt h B p w) (s : ByteArray) (e : Int) (hl : w.b.length + s.size ≤ 140737488355000) :
    CallsH Try.prog 60 #[vP p, .string s, vZ e] h fun e' h' => Same B h h' ∧ QrAt h' (GrowB B h h') p (w.put (bl s) e) ∧ e' = .returned (.tuple #[]) := by
  obtain ⟨q, c, W⟩ := W
  refine V60 _ _ _ h _ ⟨p, 0, rfl, _, cellsAt_one (cellH_at W.cell), fun h0 => ?_, fun h0 => ⟨fun h1 => ?_, fun h1 => ?_⟩⟩
  · have h0 : w.e ≠ 0 := of_decide_eq_true h0
    refine ⟨Same.refl _ _, ?_, rfl⟩
    unfold Wr.put
    rw [if_pos h0]
    exact QrAt.grow ⟨q, c, W⟩
  · have h0 : ¬ w.e ≠ 0 := of_decide_eq_false h0
    have h1 : e ≠ 0 := of_decide_eq_true h1
    obtain ⟨k1, k2⟩ := W.err e
    refine ⟨p, 0, rfl, rfl, k1, fun h3 e3 => ?_⟩
    obtain ⟨y3, W3⟩ := k2 h3 e3
    refine ⟨y3, ?_, rfl⟩
    unfold Wr.put
    rw [if_neg h0, if_pos h1]
    exact W3.more (fun _ hb => .inl hb) (GrowB.lt W.lt y3.size)
  · have h0 : ¬ w.e ≠ 0 := of_decide_eq_false h0
    have h1 : ¬ e ≠ 0 := of_decide_eq_false h1
    refine ⟨p, 0, rfl, _, _, _, cellsAt_one (cellH_at W.cell), semH_appendStr rowB uStr zeroU8 W.row (by simp only [maxLen]; omega) (by omega) (Nat.zero_le _) fun p3 c3 h3 o3 g3 _ b3 => ?_⟩
    have el : w.b.length + s.size = (w.b ++ bl s).length := by simp only [List.length_append, bl_length]
    have ev : byteVs w.b ++ byteVs s.data.toList = byteVs (w.b ++ bl s) := by simp [byteVs]
    rw [ev, el] at o3
    rw [el] at b3 ⊢
    obtain ⟨_, k2, k3⟩ := W.put o3 ⟨g3, b3⟩
    refine ⟨p, 0, rfl, rfl, k2, fun h4 e4 => ?_⟩
    obtain ⟨k4, k5⟩ := k3 h4 e4
    refine ⟨k4, ?_, rfl⟩
    unfold Wr.put
    rw [if_neg h0, if_neg h1]
    exact k5

/-- It is put behind what was computed. -/
theorem rput_x {h1 : Hp} (W : QrAt h B p w) (x : Ext h h1) {s : ByteArray} {e : Int} {w' : Wr} (hl : w.b.length + s.size ≤ 140737488355000) (hw : w.put (bl s) e = w') :
    CallsH Try.prog 60 #[vP p, .string s, vZ e] h1 fun e' h' => e' = .returned (.tuple #[]) ∧ Same B h h' ∧ QrAt h' (GrowB B h h') p w' := by
  refine (rput_c (W.ext x) s e hl).mono ?_
  rintro e' h2 ⟨y2, W2, rfl⟩
  have y : Same B h h2 := (x.same B).trans y2 fun _ h _ => h
  refine ⟨rfl, y, ?_⟩
  rw [← hw]
  refine W2.more (fun b hb => ?_) (GrowB.lt W.lt y.size)
  have := x.size
  rcases hb with hb | hb
  · exact .inl hb
  · exact .inr ⟨by omega, hb.2⟩

theorem ruint_w (W : QrAt h B p w) (n : Nat) (hn : n < 18446744073709551616) (hl : w.b.length ≤ 140737488350000) :
    CallsH Try.prog 35 #[vP p, vU n] h fun e h' => e = .returned (.tuple #[]) ∧ Same B h h' ∧ QrAt h' (GrowB B h h') p (w.uint n) := by
  refine V35 _ _ h _ ((uintBytes_c 9 n h (by omega) hn (by decide)).mono ?_)
  rintro e h1 ⟨x1, rfl⟩
  refine ⟨_, rfl, (rput_x W x1 (w' := w.uint n) ?_ ?_).mono ?_⟩
  · have := (uintG_len 9 n).2
    rw [tx_size]; omega
  · rw [bl_tx]
    unfold Wr.put Wr.uint uintL
    by_cases h0 : w.e = 0
    · rw [if_neg (by simp [h0]), if_neg (by simp), if_pos h0]
    · rw [if_pos h0, if_neg h0]
  · rintro e h2 ⟨rfl, y⟩
    exact ⟨rfl, rfl, y⟩

theorem rfixed_w (W : QrAt h B p w) (n : Nat) (hn : n < 18446744073709551616) (k : Int) (hl : w.b.length ≤ 140737488350000) :
    CallsH Try.prog 36 #[vP p, vU n, vZ k] h fun e h' => e = .returned (.tuple #[]) ∧ Same B h h' ∧ QrAt h' (GrowB B h h') p (w.fixed n k) := by
  refine V36 _ _ _ h _ ((fixedBytes_c n hn k h).mono ?_)
  rintro e h1 ⟨x1, rfl⟩
  refine ⟨_, _, rfl, (rput_x W x1 (w' := w.fixed n k) ?_ ?_).mono ?_⟩
  · rw [tx_size]
    unfold fixedF
    split
    · simp; omega
    · split
      · simp; omega
      · simp only [beL_length]; omega
  · rw [bl_tx]
    unfold Wr.put Wr.fixed fixedF
    by_cases h0 : w.e = 0
    · rw [if_neg (show ¬ w.e ≠ 0 by simp [h0]), if_neg (show ¬ w.e ≠ 0 by simp [h0])]
      by_cases h1 : k < 1 ∨ 8 < k
      · rw [if_pos h1, if_pos h1, if_pos (show ((1 : Int) ≠ 0) by decide)]
      · rw [if_neg h1, if_neg h1]
        by_cases h2 : k < 8 ∧ n / 2 ^ (8 * k.toNat) ≠ 0
        · rw [if_pos h2, if_pos h2, if_pos (show ((11 : Int) ≠ 0) by decide)]
        · rw [if_neg h2, if_neg h2, if_neg (show ¬ ((0 : Int) ≠ 0) by simp)]
    · rw [if_pos h0, if_pos h0]
  · rintro e h2 ⟨rfl, y⟩
    exact ⟨rfl, rfl, y⟩

theorem rtext_w (W : QrAt h B p w) (s : ByteArray) (hl : w.b.length + s.size ≤ 140737488350000) :
    CallsH Try.prog 37 #[vP p, .string s] h fun e h' => e = .returned (.tuple #[]) ∧ Same B h h' ∧ QrAt h' (GrowB B h h') p (w.text (bl s)) := by
  have hu := (uintG_len 9 s.size).2
  refine V37 _ _ h _ ⟨(s.size : Int), by rw [wrapU64]; omega, (uintBytes_c 9 s.size h (by omega) (by omega) (by decide)).mono ?_⟩
  rintro e h1 ⟨x1, rfl⟩
  refine ⟨_, rfl, by rw [tx_size]; omega, _, rfl, (rput_x W x1 (w' := w.text (bl s)) ?_ ?_).mono ?_⟩
  · rw [ByteArray.size_append, tx_size]; omega
  · rw [bl_append, bl_tx]
    unfold Wr.put Wr.text uintL
    rw [bl_length]
    by_cases h0 : w.e = 0
    · rw [if_neg (by simp [h0]), if_neg (by simp), if_pos h0]
    · rw [if_pos h0, if_neg h0]
  · rintro e h2 ⟨rfl, y⟩
    exact ⟨rfl, rfl, y⟩

theorem rraw_w (W : QrAt h B p w) (s : ByteArray) (hl : w.b.length + s.size ≤ 140737488350000) :
    CallsH Try.prog 39 #[vP p, .string s] h fun e h' => e = .returned (.tuple #[]) ∧ Same B h h' ∧ QrAt h' (GrowB B h h') p (w.raw (bl s)) := by
  refine V39 _ _ h _ ((rput_x W (Ext.refl h) (w' := w.raw (bl s)) (by omega) ?_).mono ?_)
  · unfold Wr.put Wr.raw
    by_cases h0 : w.e = 0
    · rw [if_neg (by simp [h0]), if_neg (by simp), if_pos h0]
    · rw [if_pos h0, if_neg h0]
  · rintro e h2 ⟨rfl, y⟩
    exact ⟨rfl, rfl, y⟩

theorem rbits_w (W : QrAt h B p w) (N : Nat) (hN : N < 2 ^ 128) (k : Int) (hl : w.b.length ≤ 140737488350000) :
    CallsH Try.prog 38 #[vP p, bv N, vZ k] h fun e h' => e = .returned (.tuple #[]) ∧ Same B h h' ∧ QrAt h' (GrowB B h h') p (w.bits N k) := by
  refine V38 _ _ _ _ h _ ?_
  intro b h1 hb e1
  have x1 : Ext h h1 := by rw [e1]; exact Ext.push _ _
  have c1 : h1[b]? = some (.cells #[vU (N / 2 ^ 64), vU (N % 2 ^ 64)] 34) := by rw [e1, hb]; exact push_last
  clear e1
  refine ⟨_, _, cellsAt_all (vs := [vU (N / 2 ^ 64), vU (N % 2 ^ 64)]) c1, (rbytes_c N hN k h1).mono ?_⟩
  rintro e h2 ⟨x2, rfl⟩
  refine ⟨_, _, rfl, (rput_x W (x1.trans x2) (w' := w.bits N k) ?_ ?_).mono ?_⟩
  · rw [tx_size]
    unfold bytesF
    split
    · simp; omega
    · rename_i hw
      have hw : isW k = true := by simpa using hw
      have := isW_iff.1 hw
      split
      · simp; omega
      · simp only [beL_length]; omega
  · rw [bl_tx]
    unfold Wr.put Wr.bits
    by_cases h0 : w.e = 0
    · rw [if_neg (by simp [h0]), if_pos h0]
      unfold bytesF
      split
      · rw [if_pos (by decide), List.append_nil]
      · split
        · rw [if_pos (by decide), List.append_nil]
        · rw [if_neg (by simp)]
          rw [h0]
    · rw [if_pos h0, if_neg h0]
  · rintro e h3 ⟨rfl, y⟩
    exact ⟨rfl, rfl, y⟩

/-- turnoutref03.Writer.Out -/
theorem rout_w (W : QrAt h B p w) : CallsH Try.prog 40 #[vP p] h fun e h' => Ext h h' ∧ e = .returned (.tuple #[.string (tx w.out.1), vZ w.out.2]) := by
  obtain ⟨q, c, W⟩ := W
  refine V40 _ h _ ⟨p, 0, rfl, _, cellsAt_one (cellH_at W.cell), fun h0 => ?_, fun h0 => ?_⟩
  · have h0 : w.e ≠ 0 := of_decide_eq_true h0
    refine ⟨p, 0, rfl, _, cellsAt_one (cellH_at W.cell), Ext.refl _, ?_⟩
    unfold Wr.out; rw [if_pos h0]; rfl
  · have h0 : ¬ w.e ≠ 0 := of_decide_eq_false h0
    have sg : Seg h q w.b.length (byteVs (tx w.b).data.toList) := by
      rw [show (tx w.b).data.toList = w.b from bl_tx _]; exact W.row.seg
    refine ⟨p, 0, rfl, _, _, _, cellsAt_one (cellH_at W.cell), semH_toText uBs uB uStr sg ⟨_, rfl, Ext.refl _, ?_⟩⟩
    unfold Wr.out; rw [if_neg h0]

end

end Go.Vc
