/- PackBack: what is written is read. -/
import Derived.Test.YtloieaoglpjffaaS3PkL
import Derived.Test.YtloieaoglpjffaaPkO
set_option maxRecDepth 10000
namespace Go.Vc
open Go Go.Proofs

/-- A thing as it is written and read. -/
def th (i : It) : Th := ⟨i.kind, i.n, i.k, bl i.s, i.a % 2 ^ 64⟩

theorem th_ok {i : It} (ok : i.Ok) : (th i).Ok := ⟨ok.n, by show (bl i.s).length < _; rw [bl_length]; have := ok.s; omega, by show i.a % 2 ^ 64 < _; omega⟩

theorem tx_bl (s : ByteArray) : tx (bl s) = s := bl_inj (bl_tx _)

theorem bits_low {a : Nat} (ha : a < 2 ^ 64) : bv a = .agg #[vU 0, vU a] := by
  unfold bv bvL
  rw [Nat.div_eq_of_lt ha, Nat.mod_eq_of_lt ha]

theorem bytes64 {a : Nat} (ha : a < 2 ^ 64) : bytesF a 64 = (beL 8 a, 0) := by
  unfold bytesF
  rw [if_neg (by rw [isW_iff.2 ⟨by decide, by decide⟩]; simp), if_neg (by rw [fits64, Nat.div_eq_of_lt ha]; simp)]
  rfl

section
variable {h : Hp} {B : Nat → Prop} {p : Nat} {w : Wr} {r : Rd}

/-- The test of a fixed number's fit. -/
theorem bad_iff (i : It) : (th i).bad ↔ (i.k < 1 ∨ 8 < i.k ∨ (i.k < 8 ∧ i.n / 2 ^ (8 * i.k.toNat) ≠ 0)) := Iff.rfl

/-- turnoutlaw03.put -/
theorem put_c (W : WrAt h B p w) (h0 : w.e = 0) (i : It) (ok : i.Ok) (hl : w.b.length + i.s.size ≤ 140737488350000) :
    CallsH Try.prog 14 #[vP p, .agg (itV i).toArray] h fun e h' => Same B h h' ∧ WrAt h' (GrowB B h h') p ⟨w.b ++ putL (th i), 0⟩ ∧ e = .returned (.bool true) := by
  refine V14 _ _ _ _ _ _ _ _ h _ ?_
  intro b h1 hb e1
  have x1 : Ext h h1 := by rw [e1]; exact Ext.push _ _
  have c1 : h1[b]? = some (.cells (itV i).toArray 36) := by rw [e1, hb]; exact push_last
  clear e1
  have lb := (Array.getElem?_eq_some_iff.1 c1).1
  have nB : ¬ B b := fun hh => by have := W.lt _ hh; omega
  have W1 := W.ext x1
  refine (wlen_c W1).mono ?_
  rintro e h1 ⟨rfl, rfl⟩
  have fin : ∀ {hz : Hp} {w' : Wr}, Same B h1 hz → WrAt hz (GrowB B h1 hz) p w' → w' = ⟨w.b ++ putL (th i), 0⟩ → Same B h hz ∧ WrAt hz (GrowB B h hz) p ⟨w.b ++ putL (th i), 0⟩ := by
    rintro hz w' y Wz rfl
    have y' : Same B h hz := (x1.same B).trans y fun _ h _ => h
    refine ⟨y', Wz.more (fun x hx => ?_) (GrowB.lt W.lt y'.size)⟩
    have := x1.size
    rcases hx with hx | hx
    · exact .inl hx
    · exact .inr ⟨by omega, hx.2⟩
  have hw : w = ⟨w.b, 0⟩ := by rw [← h0]
  refine ⟨_, rfl, _, cellsAt_one (cellH_at c1), fun k1 => ?_, fun k1 => ?_⟩
  · have k1 : i.kind = 1 := of_decide_eq_true k1
    refine ⟨_, cellsAt_one (cellH_at c1), (wuint_c W1 i.n ok.n (by omega)).mono ?_⟩
    rintro e h2 ⟨y2, W2, rfl⟩
    obtain ⟨f1, f2⟩ := fin y2 W2 (by unfold Wr.uint putL; rw [if_pos h0, if_pos (show (th i).kind = 1 from k1)]; rw [h0]; rfl)
    exact ⟨rfl, f1, f2, rfl⟩
  have k1 : i.kind ≠ 1 := of_decide_eq_false k1
  refine ⟨fun k2 => ?_, fun k2 => ?_⟩
  · have k2 : i.kind = 2 := of_decide_eq_true k2
    have ep : putL (th i) = if (th i).bad then [] else beL i.k.toNat i.n := by
      unfold putL
      rw [if_neg (show ¬ (th i).kind = 1 from k1), if_pos (show (th i).kind = 2 from k2)]
      rfl
    refine ⟨fun _ hr => hr = h1 ∧ ¬ (th i).bad, ⟨decide (th i).bad, ⟨_, cellsAt_one (cellH_at c1), fun a => ⟨rfl, ?_⟩, fun a => ⟨_, cellsAt_one (cellH_at c1), fun a2 => ⟨rfl, ?_⟩, fun a2 => ⟨_, cellsAt_one (cellH_at c1), fun a3 => ?_, fun a3 => ⟨rfl, ?_⟩⟩⟩⟩, fun hB => ?_, fun hB => ⟨rfl, of_decide_eq_false hB⟩⟩, ?_⟩
    · have a := of_decide_eq_true a
      exact decide_eq_true ((bad_iff i).2 (.inl a))
    · have a2 := of_decide_eq_true a2
      exact decide_eq_true ((bad_iff i).2 (.inr (.inl a2)))
    · have a := of_decide_eq_false a
      have a2 := of_decide_eq_false a2
      have a3 := of_decide_eq_true a3
      obtain ⟨m, hm⟩ := Int.eq_ofNat_of_zero_le (show 0 ≤ i.k by omega)
      refine ⟨_, cellsAt_one (cellH_at c1), _, cellsAt_one (cellH_at c1), ((8 * m : Nat) : Int), by rw [hm, wrapI64] <;> omega, ((8 * m : Nat) : Int), by rw [wrapU64]; omega, by omega, _, sr64n (by omega), rfl, ?_⟩
      apply decide_eq_decide.2
      rw [bad_iff, hm]
      simp only [Int.toNat_natCast]
      generalize i.n / 2 ^ (8 * m) = Q
      constructor
      · intro hh; rcases hh with hh | hh | hh
        · omega
        · omega
        · have := hh.2; omega
      · intro hh; exact .inr (.inr ⟨by omega, by omega⟩)
    · have a := of_decide_eq_false a
      have a2 := of_decide_eq_false a2
      have a3 := of_decide_eq_false a3
      refine decide_eq_false fun hh => ?_
      rcases (bad_iff i).1 hh with hh | hh | hh
      · exact a hh
      · exact a2 hh
      · exact a3 hh.1
    · have hB := of_decide_eq_true hB
      rw [if_pos hB] at ep
      obtain ⟨f1, f2⟩ := fin (Same.refl _ _) W1.grow (by rw [ep, List.append_nil]; exact hw)
      exact ⟨f1, f2, rfl⟩
    · rintro h1' ⟨rfl, hB⟩
      rw [if_neg hB] at ep
      have hb1 : ¬ (i.k < 1 ∨ 8 < i.k) := fun hh => hB ((bad_iff i).2 (by rcases hh with hh | hh; exact .inl hh; exact .inr (.inl hh)))
      have hb2 : ¬ (i.k < 8 ∧ i.n / 2 ^ (8 * i.k.toNat) ≠ 0) := fun hh => hB ((bad_iff i).2 (.inr (.inr hh)))
      refine ⟨_, cellsAt_one (cellH_at c1), _, cellsAt_one (cellH_at c1), (wfixed_c W1 i.n i.k ok.w0 (by omega)).mono ?_⟩
      rintro e h2 ⟨y2, W2, rfl⟩
      have ew : w.fixed i.n i.k = ⟨w.b ++ beL i.k.toNat i.n, w.e⟩ := by
        unfold Wr.fixed
        rw [if_neg (by simpa using h0), if_neg hb1, if_neg hb2]
      have c2 := (y2.old b lb nB).trans c1
      obtain ⟨f1, f2⟩ := fin y2 W2 (by rw [ew, ep, h0])
      rw [ew] at W2
      refine ⟨rfl, fun hr => hr[b]? = some (.cells (itV i).toArray 36), c2, (wlen_c W2).mono ?_⟩
      rintro e h3 ⟨rfl, rfl⟩
      refine ⟨_, rfl, c2, _, fun hr hc => cellsAt_one (cellH_at hc), ((w.b.length : Int) + i.k), by rw [wrapI64] <;> omega, f1, f2, ?_⟩
      congr 2
      apply decide_eq_true
      show (((w.b ++ beL i.k.toNat i.n).length : Nat) : Int) = _
      rw [List.length_append, beL_length]; omega
  have k2 : i.kind ≠ 2 := of_decide_eq_false k2
  refine ⟨fun k3 => ?_, fun k3 => ?_⟩
  · have k3 : i.kind = 3 := of_decide_eq_true k3
    refine ⟨_, cellsAt_one (cellH_at c1), (wtext_c W1 i.s (by omega)).mono ?_⟩
    rintro e h2 ⟨y2, W2, rfl⟩
    have ew : w.text (bl i.s) = ⟨w.b ++ putL (th i), 0⟩ := by
      unfold Wr.text putL
      rw [if_pos h0, if_neg (show ¬ (th i).kind = 1 from k1), if_neg (show ¬ (th i).kind = 2 from k2), if_pos (show (th i).kind = 3 from k3), h0]; rfl
    have c2 := (y2.old b lb nB).trans c1
    obtain ⟨f1, f2⟩ := fin y2 W2 ew
    have hlen : (w.text (bl i.s)).b.length = w.b.length + ((uintL i.s.size).length + i.s.size) := by
      unfold Wr.text; rw [if_pos h0]; simp only [List.length_append, bl_length]
    have hu := (uintG_len 9 i.s.size).1
    have hu2 := (uintG_len 9 i.s.size).2
    refine ⟨rfl, fun hr => hr[b]? = some (.cells (itV i).toArray 36), c2, (wlen_c W2).mono ?_⟩
    rintro e h3 ⟨rfl, rfl⟩
    refine ⟨_, rfl, c2, _, fun hr hc => cellsAt_one (cellH_at hc), ((w.b.length + i.s.size : Nat) : Int), by rw [wrapI64] <;> omega, f1, f2, ?_⟩
    congr 2
    apply decide_eq_true
    rw [hlen]
    unfold uintL
    omega
  have k3 : i.kind ≠ 3 := of_decide_eq_false k3
  refine ⟨fun k5 => ?_, fun k5 => ?_⟩
  · have k5 : i.kind = 5 := of_decide_eq_true k5
    refine ⟨_, cellsAt_one (cellH_at c1), (wraw_c W1 i.s (by omega)).mono ?_⟩
    rintro e h2 ⟨y2, W2, rfl⟩
    have ew : w.raw (bl i.s) = ⟨w.b ++ putL (th i), 0⟩ := by
      unfold Wr.raw putL
      rw [if_pos h0, if_neg (show ¬ (th i).kind = 1 from k1), if_neg (show ¬ (th i).kind = 2 from k2), if_neg (show ¬ (th i).kind = 3 from k3), if_pos (show (th i).kind = 5 from k5), h0]; rfl
    have c2 := (y2.old b lb nB).trans c1
    obtain ⟨f1, f2⟩ := fin y2 W2 ew
    have hlen : (w.raw (bl i.s)).b.length = w.b.length + i.s.size := by
      unfold Wr.raw; rw [if_pos h0]; simp only [List.length_append, bl_length]
    refine ⟨rfl, fun hr => hr[b]? = some (.cells (itV i).toArray 36), c2, (wlen_c W2).mono ?_⟩
    rintro e h3 ⟨rfl, rfl⟩
    refine ⟨_, rfl, c2, _, fun hr hc => cellsAt_one (cellH_at hc), ((w.b.length + i.s.size : Nat) : Int), by rw [wrapI64] <;> omega, f1, f2, ?_⟩
    congr 2
    apply decide_eq_true
    rw [hlen]
  have k5 : i.kind ≠ 5 := of_decide_eq_false k5
  refine ⟨fun k4 => ?_, fun k4 => ?_⟩
  · have k4 : i.kind = 4 := of_decide_eq_true k4
    have hlo : i.a % 2 ^ 64 < 2 ^ 64 := Nat.mod_lt _ (by decide)
    have cb := wbits_c W1 (i.a % 2 ^ 64) (by omega) 64 (by omega)
    rw [bits_low hlo] at cb
    refine ⟨_, cellsAt_one (cellH_at c1), cb.mono ?_⟩
    rintro e h2 ⟨y2, W2, rfl⟩
    have ew : w.bits (i.a % 2 ^ 64) 64 = ⟨w.b ++ putL (th i), 0⟩ := by
      unfold Wr.bits putL
      rw [if_pos h0, if_neg (show ¬ (th i).kind = 1 from k1), if_neg (show ¬ (th i).kind = 2 from k2), if_neg (show ¬ (th i).kind = 3 from k3), if_neg (show ¬ (th i).kind = 5 from k5), if_pos (show (th i).kind = 4 from k4), bytes64 hlo]
      rfl
    obtain ⟨f1, f2⟩ := fin y2 W2 ew
    have hlen : (w.bits (i.a % 2 ^ 64) 64).b.length = w.b.length + 8 := by
      unfold Wr.bits; rw [if_pos h0, bytes64 hlo]; simp only [List.length_append, beL_length]
    refine ⟨rfl, (wlen_c W2).mono ?_⟩
    rintro e h3 ⟨rfl, rfl⟩
    refine ⟨_, rfl, ((w.b.length + 8 : Nat) : Int), by rw [wrapI64] <;> omega, f1, f2, ?_⟩
    congr 2
    apply decide_eq_true
    rw [hlen]
  have k4 : i.kind ≠ 4 := of_decide_eq_false k4
  obtain ⟨f1, f2⟩ := fin (Same.refl _ _) W1.grow (by
    unfold putL
    rw [if_neg (show ¬ (th i).kind = 1 from k1), if_neg (show ¬ (th i).kind = 2 from k2), if_neg (show ¬ (th i).kind = 3 from k3), if_neg (show ¬ (th i).kind = 5 from k5), if_neg (show ¬ (th i).kind = 4 from k4), List.append_nil]
    exact hw)
  exact ⟨f1, f2, rfl⟩

theorem dec_tx {a : List UInt8} {s : ByteArray} : decide (tx a = s) = decide (a = bl s) := by
  apply decide_eq_decide.2
  constructor
  · intro e; rw [← e, bl_tx]
  · intro e; rw [e, tx_bl]

theorem dec_nat {a b : Nat} : decide ((a : Int) = (b : Int)) = decide (a = b) := decide_eq_decide.2 (by omega)

/-- turnoutlaw03.got -/
theorem got_c (R : RdAt h p r) (i : It) (ok : i.Ok) : CallsH Try.prog 17 #[vP p, .agg (itV i).toArray] h fun e h' => Same (P1 p) h h' ∧ RdAt h' p (gotF (th i) r).2 ∧ e = .returned (.bool (gotF (th i) r).1) := by
  refine V17 _ _ _ _ _ _ _ _ h _ ?_
  intro b h1 hb e1
  have x1 : Ext h h1 := by rw [e1]; exact Ext.push _ _
  have c1 : h1[b]? = some (.cells (itV i).toArray 36) := by rw [e1, hb]; exact push_last
  clear e1
  have lb := (Array.getElem?_eq_some_iff.1 c1).1
  have lp := R.lt
  have np : ¬ P1 p b := fun hh => by have : b = p := hh; omega
  have R1 := R.ext x1
  have fin : ∀ {hz : Hp}, Same (P1 p) h1 hz → Same (P1 p) h hz := fun y => (x1.same _).trans y fun _ h _ => h
  have keep : ∀ {hz : Hp}, Same (P1 p) h1 hz → hz[b]? = some (.cells (itV i).toArray 36) := fun y => (y.old b lb np).trans c1
  have hs : (i.s.size : Int) ≤ 9223372036854775807 := by have := ok.s; omega
  refine ⟨_, cellsAt_one (cellH_at c1), fun k1 => ?_, fun k1 => ?_⟩
  · have k1 : i.kind = 1 := of_decide_eq_true k1
    refine ⟨fun hr => hr[b]? = some (.cells (itV i).toArray 36), c1, _, cellsAt_one (cellH_at c1), (ruint_c R1 i.n).mono ?_⟩
    rintro e h2 ⟨y2, R2, rfl⟩
    have eg : gotF (th i) r = (decide ((r.uint i.n).1 = i.n), (r.uint i.n).2) := by unfold gotF; rw [if_pos (show (th i).kind = 1 from k1)]; rfl
    refine ⟨_, rfl, keep y2, _, fun hr hc => cellsAt_one (cellH_at hc), fin y2, by rw [eg]; exact R2, by rw [eg, dec_nat]⟩
  have k1 : i.kind ≠ 1 := of_decide_eq_false k1
  refine ⟨fun k2 => ?_, fun k2 => ?_⟩
  · have k2 : i.kind = 2 := of_decide_eq_true k2
    have eg : gotF (th i) r = if (th i).bad then (true, r) else (decide ((r.fixed i.k).1 = i.n), (r.fixed i.k).2) := by
      unfold gotF
      rw [if_neg (show ¬ (th i).kind = 1 from k1), if_pos (show (th i).kind = 2 from k2)]
      rfl
    refine ⟨fun _ hr => hr = h1 ∧ ¬ (th i).bad, ⟨decide (th i).bad, ⟨_, cellsAt_one (cellH_at c1), fun a => ⟨rfl, ?_⟩, fun a => ⟨_, cellsAt_one (cellH_at c1), fun a2 => ⟨rfl, ?_⟩, fun a2 => ⟨_, cellsAt_one (cellH_at c1), fun a3 => ?_, fun a3 => ⟨rfl, ?_⟩⟩⟩⟩, fun hB => ?_, fun hB => ⟨rfl, of_decide_eq_false hB⟩⟩, ?_⟩
    · have a := of_decide_eq_true a
      exact decide_eq_true ((bad_iff i).2 (.inl a))
    · have a2 := of_decide_eq_true a2
      exact decide_eq_true ((bad_iff i).2 (.inr (.inl a2)))
    · have a := of_decide_eq_false a
      have a2 := of_decide_eq_false a2
      have a3 := of_decide_eq_true a3
      obtain ⟨m, hm⟩ := Int.eq_ofNat_of_zero_le (show 0 ≤ i.k by omega)
      refine ⟨_, cellsAt_one (cellH_at c1), _, cellsAt_one (cellH_at c1), ((8 * m : Nat) : Int), by rw [hm, wrapI64] <;> omega, ((8 * m : Nat) : Int), by rw [wrapU64]; omega, by omega, _, sr64n (by omega), rfl, ?_⟩
      apply decide_eq_decide.2
      rw [bad_iff, hm]
      simp only [Int.toNat_natCast]
      generalize i.n / 2 ^ (8 * m) = Q
      constructor
      · intro hh; rcases hh with hh | hh | hh
        · omega
        · omega
        · have := hh.2; omega
      · intro hh; exact .inr (.inr ⟨by omega, by omega⟩)
    · have a := of_decide_eq_false a
      have a2 := of_decide_eq_false a2
      have a3 := of_decide_eq_false a3
      refine decide_eq_false fun hh => ?_
      rcases (bad_iff i).1 hh with hh | hh | hh
      · exact a hh
      · exact a2 hh
      · exact a3 hh.1
    · have hB := of_decide_eq_true hB
      rw [if_pos hB] at eg
      exact ⟨x1.same _, by rw [eg]; exact R1, by rw [eg]⟩
    · rintro h1' ⟨rfl, hB⟩
      rw [if_neg hB] at eg
      refine ⟨fun hr => hr[b]? = some (.cells (itV i).toArray 36), c1, _, cellsAt_one (cellH_at c1), (rfixed_c R1 i.k ok.w1).mono ?_⟩
      rintro e h2 ⟨y2, R2, rfl⟩
      exact ⟨_, rfl, keep y2, _, fun hr hc => cellsAt_one (cellH_at hc), fin y2, by rw [eg]; exact R2, by rw [eg, dec_nat]⟩
  have k2 : i.kind ≠ 2 := of_decide_eq_false k2
  refine ⟨fun k3 => ?_, fun k3 => ?_⟩
  · have k3 : i.kind = 3 := of_decide_eq_true k3
    refine ⟨fun hr => hr[b]? = some (.cells (itV i).toArray 36), c1, _, cellsAt_one (cellH_at c1), (rtext_c R1 i.s.size hs).mono ?_⟩
    rintro e h2 ⟨y2, R2, rfl⟩
    have eg : gotF (th i) r = (decide ((r.text i.s.size).1 = bl i.s), (r.text i.s.size).2) := by
      unfold gotF
      rw [if_neg (show ¬ (th i).kind = 1 from k1), if_neg (show ¬ (th i).kind = 2 from k2), if_pos (show (th i).kind = 3 from k3), show (th i).s.length = i.s.size from bl_length _]
      rfl
    exact ⟨_, rfl, keep y2, _, fun hr hc => cellsAt_one (cellH_at hc), fin y2, by rw [eg]; exact R2, by rw [eg, dec_tx]⟩
  have k3 : i.kind ≠ 3 := of_decide_eq_false k3
  refine ⟨fun k5 => ?_, fun k5 => ?_⟩
  · have k5 : i.kind = 5 := of_decide_eq_true k5
    refine ⟨fun hr => hr[b]? = some (.cells (itV i).toArray 36), c1, _, cellsAt_one (cellH_at c1), (rraw_c R1 i.s.size hs).mono ?_⟩
    rintro e h2 ⟨y2, R2, rfl⟩
    have eg : gotF (th i) r = (decide ((r.raw i.s.size).1 = bl i.s), (r.raw i.s.size).2) := by
      unfold gotF
      rw [if_neg (show ¬ (th i).kind = 1 from k1), if_neg (show ¬ (th i).kind = 2 from k2), if_neg (show ¬ (th i).kind = 3 from k3), if_pos (show (th i).kind = 5 from k5), show (th i).s.length = i.s.size from bl_length _]
      rfl
    exact ⟨_, rfl, keep y2, _, fun hr hc => cellsAt_one (cellH_at hc), fin y2, by rw [eg]; exact R2, by rw [eg, dec_tx]⟩
  have k5 : i.kind ≠ 5 := of_decide_eq_false k5
  refine ⟨fun k4 => ?_, fun k4 => ?_⟩
  · have k4 : i.kind = 4 := of_decide_eq_true k4
    refine ⟨fun hr => hr[b]? = some (.cells (itV i).toArray 36), c1, (rbits_c R1 64).mono ?_⟩
    rintro e h2 ⟨y2, R2, rfl⟩
    have eg : gotF (th i) r = (decide ((r.bits 64).1 = i.a % 2 ^ 64), (r.bits 64).2) := by
      unfold gotF
      rw [if_neg (show ¬ (th i).kind = 1 from k1), if_neg (show ¬ (th i).kind = 2 from k2), if_neg (show ¬ (th i).kind = 3 from k3), if_neg (show ¬ (th i).kind = 5 from k5), if_pos (show (th i).kind = 4 from k4)]
      rfl
    refine ⟨_, _, rfl, keep y2, _, fun hr hc => cellsAt_one (cellH_at hc), _, eqv_ints (n := 2) (k := .u64) (by kernel_rfl) [(((r.bits 64).1 / 2 ^ 64 : Nat) : Int), (((r.bits 64).1 % 2 ^ 64 : Nat) : Int)] [0, ((i.a % 2 ^ 64 : Nat) : Int)] rfl rfl, fin y2, by rw [eg]; exact R2, ?_⟩
    rw [eg]
    congr 2
    apply decide_eq_decide.2
    simp only [List.cons.injEq, and_true]
    omega
  have k4 : i.kind ≠ 4 := of_decide_eq_false k4
  have eg : gotF (th i) r = (true, r) := by
    unfold gotF
    rw [if_neg (show ¬ (th i).kind = 1 from k1), if_neg (show ¬ (th i).kind = 2 from k2), if_neg (show ¬ (th i).kind = 3 from k3), if_neg (show ¬ (th i).kind = 5 from k5), if_neg (show ¬ (th i).kind = 4 from k4)]
  exact ⟨x1.same _, by rw [eg]; exact R1, by rw [eg]⟩

end

/-- All that is written. -/
def allL (l : List It) : List UInt8 := putAll (l.map th)

theorem allL_take {l : List It} {i : Nat} (hi : i < l.length) : allL (l.take (i + 1)) = allL (l.take i) ++ putL (th l[i]) := by
  unfold allL putAll
  rw [List.take_add_one, List.getElem?_eq_getElem hi]
  simp only [Option.toList_some, List.map_append, List.map_cons, List.map_nil, List.flatten_append, List.flatten_cons, List.flatten_nil, List.append_nil]

theorem heavy_mem : ∀ {l : List It} {i : It}, i ∈ l → 1 + i.s.size / 16 ≤ heavy l
  | j :: l, i, h => by
    have e2 : heavy (j :: l) = (1 + j.s.size / 16) + heavy l := by simp [heavy]
    rcases List.mem_cons.1 h with rfl | h
    · omega
    · have := heavy_mem h; omega

theorem allL_drop {l : List It} {i : Nat} (hi : i < l.length) : allL (l.drop i) = putL (th l[i]) ++ allL (l.drop (i + 1)) := by
  rw [List.drop_eq_getElem_cons hi]; rfl

theorem putL_len (i : It) : (putL (th i)).length ≤ 18 + i.s.size := by
  unfold putL
  have h1 := (uintG_len 9 i.n).2
  have h2 := (uintG_len 9 i.s.size).2
  split
  · show (uintG 9 i.n).length ≤ _; omega
  split
  · split
    · simp
    · rename_i hb
      rw [beL_length]
      have : ¬ (8 < (th i).k) := fun hh => hb (.inr (.inl hh))
      have : (th i).k.toNat ≤ 8 := by omega
      omega
  split
  · have e : (th i).s.length = i.s.size := bl_length _
    rw [List.length_append, e]
    show (uintG 9 i.s.size).length + _ ≤ _; omega
  split
  · have e : (th i).s.length = i.s.size := bl_length _
    omega
  split
  · rw [beL_length]; omega
  · simp

theorem allL_len : ∀ (l : List It), (allL l).length ≤ 34 * heavy l
  | [] => by simp [allL, putAll]
  | i :: l => by
    have e1 : allL (i :: l) = putL (th i) ++ allL l := rfl
    have e2 : heavy (i :: l) = (1 + i.s.size / 16) + heavy l := by simp [heavy]
    have := allL_len l
    have := putL_len i
    rw [e1, e2, List.length_append]; omega

theorem heavy_le {l : List It} (k : Nat) : heavy (l.take k) ≤ heavy l := by
  have : heavy l = heavy (l.take k) + heavy (l.drop k) := by
    unfold heavy
    rw [← List.sum_append_nat, ← List.map_append, List.take_append_drop]
  omega

set_option maxHeartbeats 1000000 in
/-- turnoutlaw03.PackBack -/
theorem back_law (l : List It) (hok : ∀ x ∈ l, x.Ok) (hl : l.length ≤ 2199023255488) (h : Hp) {P0 : Option Addr} {n c : Nat} (sg : SegS h P0 n 7 (l.map itV)) :
    CallsH Try.prog 5 #[.slice P0 n c] h (RetX (.bool true) h) := by
  have hn : l.length = n := by have := sg.1; simpa using this
  refine V5 _ _ _ h _ ((awake_c h).mono ?_)
  rintro e h1 ⟨rfl, x1⟩
  refine ⟨_, rfl, (light_c l hok h1 (sg.ext x1) hl).mono ?_⟩
  rintro e h2 ⟨x2, b, rfl, hb⟩
  have x02 := x1.trans x2
  refine ⟨_, rfl, fun _ => ⟨rfl, x02⟩, fun hbt => ?_⟩
  have hv : heavy l ≤ 1048576 := hb (by simpa using hbt)
  have hsz : ∀ i ∈ l, i.s.size ≤ 16777216 := by
    intro i hi
    have := heavy_mem hi
    omega
  refine (wnew_c h2).mono ?_
  rintro e h3 ⟨x3, W3, rfl⟩
  obtain ⟨q, hq⟩ : ∃ q, q = h2.size := ⟨_, rfl⟩
  rw [← hq] at W3 ⊢
  have x03 := x02.trans x3
  have b3 : ∀ b, GrowB NoB h2 h3 b → h.size ≤ b := fun b hb => by have := x02.size; rcases hb with hb | hb; exact hb.elim; omega
  refine ⟨_, rfl, fun _ hr => hr = h3, ⟨false, ⟨fun hf => (by cases hf), fun _ => ⟨false, eqv_ptr uPW _, rfl, rfl⟩⟩, fun hf => (by cases hf), fun _ => rfl⟩, ?_⟩
  rintro h3' rfl
  have cell : ∀ {hz : Hp} {i : Nat}, Ext h hz → (hc : i < l.length) → ∃ b o, P0 = some ⟨b, o, none⟩ ∧ 0 ≤ (i : Int) ∧ (i : Int) < n ∧ cellsAt hz b (o + Int.toNat (i : Int) * 7) (itV l[i]) := by
    intro hz i xz hc
    obtain ⟨b, o, hp', g1, g2, g3⟩ := (sg.ext xz).at (i := i) (by simpa using hc)
    rw [List.getElem_map] at g3
    exact ⟨b, o, hp', g1, g2, g3⟩
  have hall := allL_len l
  have htk : ∀ k, (allL (l.take k)).length ≤ 35651584 := fun k => by
    have := allL_len (l.take k)
    have := heavy_le (l := l) k
    omega
  refine ⟨fun lv hr => ∃ (i : Nat) (B : Nat → Prop), lv = [vI i] ∧ i ≤ l.length ∧ Ext h hr ∧ WrAt hr B q ⟨allL (l.take i), 0⟩ ∧ (∀ y, B y → h.size ≤ y), fun lv _ => (l.length - numAt lv 0).toNat,
    ⟨0, _, rfl, Nat.zero_le _, x03, W3, b3⟩, ?_⟩
  rintro iv h4 ⟨i, B, hlv, hi, x4, W4, bB⟩
  cases hlv
  refine ⟨fun hc => ?_, fun hc => ?_⟩
  · have hc : i < l.length := by have := of_decide_eq_true hc; omega
    obtain ⟨b, o, hP, g1, g2, g3⟩ := cell x4 hc
    have hmem := List.getElem_mem hc
    have hs := hsz _ hmem
    have htk := htk i
    refine ⟨b, o, hP, g1, g2, _, _, _, _, _, _, _, g3, (put_c W4 rfl l[i] (hok _ hmem) (by show (allL (l.take i)).length + _ ≤ _; omega)).mono ?_⟩
    rintro e h5 ⟨y5, W5, rfl⟩
    rw [← allL_take hc] at W5
    exact ⟨_, rfl, fun hf => (by cases hf), fun _ => ⟨_, incI (by omega), ⟨i + 1, _, rfl, hc, x4.over y5 bB, W5, GrowB.old bB x4.size⟩, by simp only [numAt]; omega⟩⟩
  have hil : i = l.length := by have := of_decide_eq_false hc; omega
  rw [hil, List.take_of_length_le (Nat.le_refl _)] at W4
  obtain ⟨S, hS⟩ : ∃ S, S = allL l := ⟨_, rfl⟩
  rw [← hS] at W4 hall
  have hSl : S.length ≤ 35651584 := by omega
  refine (wout_c W4).mono ?_
  rintro e h5 ⟨x5, rfl⟩
  have hout : (⟨S, 0⟩ : Wr).out = (S, 0) := by unfold Wr.out; rw [if_neg (by simp)]
  rw [hout]
  have x05 := x4.trans x5
  have hts : (tx S).size = S.length := tx_size S
  refine ⟨_, _, rfl, (ropen_c (tx S) (by omega) h5).mono ?_⟩
  rintro e h6 ⟨x6, R6, rfl⟩
  obtain ⟨p, hp⟩ : ∃ p, p = h5.size := ⟨_, rfl⟩
  rw [← hp] at R6 ⊢
  rw [bl_tx] at R6
  have x06 := x05.trans x6
  have hpge : h.size ≤ p := by have := x05.size; omega
  refine ⟨_, rfl, fun _ hr => hr = h6, ⟨fun hf => by simp at hf, fun _ => ⟨false, eqv_ptr uPR _, fun hf => (by cases hf), fun _ => (wlen_c ((W4.ext x5).ext x6)).mono ?_⟩⟩, ?_⟩
  · rintro e h7 ⟨rfl, rfl⟩
    refine ⟨_, rfl, fun hf => ?_, fun _ => rfl⟩
    exact absurd (congrArg Int.ofNat hts.symm) (of_decide_eq_true hf)
  rintro h6' rfl
  have hOk : ∀ k, (l.drop k).map th = (l.map th).drop k := fun k => List.map_drop
  -- read as it was
  refine ⟨fun lv hr => ∃ (i a : Nat), lv = [vI i] ∧ i ≤ l.length ∧ Ext h hr ∧ RdAt hr p ⟨S, a, 0, 0⟩ ∧ S.drop a = allL (l.drop i) ∧ a ≤ S.length, fun lv _ => (l.length - numAt lv 0).toNat,
    ⟨0, 0, rfl, Nat.zero_le _, x06, R6, by rw [List.drop_zero, List.drop_zero, hS], Nat.zero_le _⟩, ?_⟩
  rintro jv h7 ⟨j, a, hlv, hj, x7, R7, hdrop, haS⟩
  cases hlv
  refine ⟨fun hc => ?_, fun hc => ?_⟩
  · have hc : j < l.length := by have := of_decide_eq_true hc; omega
    obtain ⟨b, o, hP, g1, g2, g3⟩ := cell x7 hc
    have hmem := List.getElem_mem hc
    refine ⟨b, o, hP, g1, g2, _, _, _, _, _, _, _, g3, (got_c R7 l[j] (hok _ hmem)).mono ?_⟩
    rintro e h8 ⟨y8, R8, rfl⟩
    rw [allL_drop hc] at hdrop
    have eg := got_back (th_ok (hok _ hmem)) (r := ⟨S, a, 0, 0⟩) rfl (rest := allL (l.drop (j + 1))) hdrop
    rw [eg] at R8 ⊢
    have hlen : (putL (th l[j])).length ≤ S.length - a := by
      have := congrArg List.length hdrop
      rw [List.length_drop, List.length_append] at this
      omega
    refine ⟨_, rfl, fun hf => (by cases hf), fun _ => ⟨_, incI (by omega), ⟨j + 1, a + (putL (th l[j])).length, rfl, hc, x7.over y8 fun x hx => by rw [show x = p from hx]; exact hpge, R8, ?_, by omega⟩, by simp only [numAt]; omega⟩⟩
    rw [← List.drop_drop, hdrop, drop_app]
  have hjl : j = l.length := by have := of_decide_eq_false hc; omega
  rw [hjl, List.drop_of_length_le (Nat.le_refl _)] at hdrop
  have haE : a = S.length := by
    have := congrArg List.length hdrop
    rw [List.length_drop] at this
    have e0 : (allL []).length = 0 := rfl
    omega
  subst haE
  refine (rfault_c R7).mono ?_
  rintro e h8 ⟨rfl, rfl⟩
  refine ⟨_, _, rfl, fun _ hr => hr = h8, ⟨fun hf => by simp at hf, fun _ => ⟨fun hf => by simp at hf, fun _ => (rat_c R7).mono ?_⟩⟩, ?_⟩
  · rintro e h9 ⟨rfl, rfl⟩
    refine ⟨_, rfl, fun hf => absurd (congrArg Int.ofNat hts.symm) (of_decide_eq_true hf), fun _ => (rend_c R7).mono ?_⟩
    rintro e h10 ⟨rfl, rfl⟩
    have ef : (⟨S, S.length, 0, 0⟩ : Rd).fin = 0 := by unfold Rd.fin; rw [if_neg (by rintro ⟨_, hh⟩; exact Nat.lt_irrefl _ hh)]
    rw [ef]
    exact ⟨_, rfl, fun hf => by simp at hf, fun _ => rfl⟩
  rintro h8' rfl
  refine ⟨fun _ => ⟨rfl, x7⟩, fun h0 => ?_⟩
  have h0 : S.length ≠ 0 := by have := of_decide_eq_false h0; rw [hts] at this; omega
  refine ⟨((S.length - 1 : Nat) : Int), by show IntKind.i64.wrap (((tx S).size : Int) - 1) = _; rw [hts, wrapI64] <;> omega, S.length - 1, rfl, Nat.zero_le _, by show S.length - 1 ≤ (tx S).size; omega, _, rfl, ?_⟩
  have hex : (tx S).extract 0 (S.length - 1) = tx (S.take (S.length - 1)) := by
    apply bl_inj; rw [bl_extract, bl_tx, bl_tx, List.drop_zero, Nat.sub_zero]
  rw [hex]
  refine (ropen_c (tx (S.take (S.length - 1))) (by rw [tx_size, List.length_take]; omega) h8').mono ?_
  rintro e h9 ⟨x9, R9, rfl⟩
  obtain ⟨p2, hp2⟩ : ∃ p, p = h8'.size := ⟨_, rfl⟩
  rw [← hp2] at R9 ⊢
  rw [bl_tx] at R9
  have hp2ge : h.size ≤ p2 := by have := x7.size; omega
  refine ⟨_, rfl, false, eqv_ptr uPR _, fun hf => (by cases hf), fun _ => ?_⟩
  refine ⟨fun lv hr => ∃ (i : Nat), lv = [vI i] ∧ i ≤ l.length ∧ Ext h hr ∧ RdAt hr p2 (((l.take i).map th).foldl (fun r i => (gotF i r).2) (Rd.open (S.take (S.length - 1)))), fun lv _ => (l.length - numAt lv 0).toNat,
    ⟨0, rfl, Nat.zero_le _, x7.trans x9, R9⟩, ?_⟩
  rintro kv h10 ⟨k, hlv, hk, x10, R10⟩
  cases hlv
  refine ⟨fun hc => ?_, fun hc => ?_⟩
  · have hc : k < l.length := by have := of_decide_eq_true hc; omega
    obtain ⟨b, o, hP, g1, g2, g3⟩ := cell x10 hc
    have hmem := List.getElem_mem hc
    refine ⟨b, o, hP, g1, g2, _, _, _, _, _, _, _, g3, (got_c R10 l[k] (hok _ hmem)).mono ?_⟩
    rintro e h11 ⟨y11, R11, rfl⟩
    refine ⟨_, rfl, _, incI (by omega), ⟨k + 1, rfl, hc, x10.over y11 fun x hx => by rw [show x = p2 from hx]; exact hp2ge, ?_⟩, by simp only [numAt]; omega⟩
    rw [List.take_add_one, List.getElem?_eq_getElem hc, List.map_append, List.foldl_append]
    exact R11
  · have hkl : k = l.length := by have := of_decide_eq_false hc; omega
    rw [hkl, List.take_of_length_le (Nat.le_refl _)] at R10
    refine (rend_c R10).mono ?_
    rintro e h11 ⟨rfl, rfl⟩
    have el := less_law (l.map th) (Rd.open (S.take (S.length - 1))) (fun i hi => by obtain ⟨x, hx, rfl⟩ := List.mem_map.1 hi; exact th_ok (hok x hx)) rfl
      (by intro hz; apply h0; rw [hS]; unfold allL; rw [hz]; rfl) (by show (S.take (S.length - 1)).drop 0 = _; rw [List.drop_zero, hS]; rfl)
    have ef : (((l.map th).foldl (fun r i => (gotF i r).2) (Rd.open (S.take (S.length - 1))))).fin = 3 := by
      unfold Rd.fin
      rw [if_neg (by rw [el]; rintro ⟨hh, _⟩; exact absurd hh (by decide)), el]
    rw [ef]
    exact ⟨_, rfl, rfl, x10⟩

end Go.Vc
