/- The packer's reader: the rest of it. -/
import Derived.Test.YtloieaoglpjffaaS3PkA
import Derived.Test.YtloieaoglpjffaaS3PkR
set_option maxRecDepth 10000
namespace Go.Vc
open Go Go.Proofs

theorem catUint : Catches 48 := fun a0 a1 X u u' hx h K H => V48 a0 a1 X u u' hx h K H
theorem catText : Catches 53 := fun a0 a1 X u u' hx h K H => V53 a0 a1 X u u' hx h K H
theorem catRaw : Catches 56 := fun a0 a1 X u u' hx h K H => V56 a0 a1 X u u' hx h K H
theorem catBits : Catches 54 := fun a0 a1 X u u' hx h K H => V54 a0 a1 X u u' hx h K H

/-- Seven bits more. -/
theorem more7 {n i : Nat} (hi : i ≤ 9) (hn : n < 128 ^ i) (x : Nat) : n ||| (x * 2 ^ (7 * i) % 18446744073709551616) = (n + x * 128 ^ i) % 18446744073709551616 := by
  have e128 : (128 : Nat) ^ i = 2 ^ (7 * i) := by rw [show (128 : Nat) = 2 ^ 7 from rfl, ← Nat.pow_mul]
  rw [e128] at hn ⊢
  obtain ⟨k, hk⟩ : ∃ k, k = 7 * i := ⟨_, rfl⟩
  rw [← hk] at hn ⊢
  have e64 : 18446744073709551616 = 2 ^ k * 2 ^ (64 - k) := by rw [← Nat.pow_add, show k + (64 - k) = 64 by omega]
  have e1 : x * 2 ^ k % 18446744073709551616 = 2 ^ k * (x % 2 ^ (64 - k)) := by rw [e64, Nat.mul_comm x, Nat.mul_mod_mul_left]
  have hy : x % 2 ^ (64 - k) < 2 ^ (64 - k) := Nat.mod_lt _ (Nat.two_pow_pos _)
  have e2 : n + x * 2 ^ k = 18446744073709551616 * (x / 2 ^ (64 - k)) + (2 ^ k * (x % 2 ^ (64 - k)) + n) := by
    conv => lhs; rw [← Nat.div_add_mod x (2 ^ (64 - k)), Nat.mul_comm _ (2 ^ k), Nat.mul_add, ← Nat.mul_assoc, ← e64]
    omega
  have e3 : 2 ^ k * (x % 2 ^ (64 - k)) + n < 18446744073709551616 := by
    have : 2 ^ k * (x % 2 ^ (64 - k)) + 2 ^ k ≤ 18446744073709551616 := by
      conv => rhs; rw [e64]
      rw [← Nat.mul_succ]; exact Nat.mul_le_mul_left _ hy
    omega
  rw [e1, or_low hn, e2, Nat.mul_add_mod, Nat.mod_eq_of_lt e3]

section
variable {h h' : Hp} {p : Nat} {r : Rd}

/-- pack.Reader.number -/
theorem number_c (R : RdAt h p r) (most : Nat) : CallsH Try.prog 50 #[vP p, vU most] h fun e h' => Same (P1 p) h h' ∧
    (((numG most 10 0 0 r.left).1 = 0 ∧ e = .returned (vU (numG most 10 0 0 r.left).2.1) ∧ RdAt h' p (r.to (numG most 10 0 0 r.left).2.2)) ∨ ((numG most 10 0 0 r.left).1 ≠ 0 ∧ e = .panicked (gone (numG most 10 0 0 r.left).1) ∧ ∃ k, RdAt h' p (r.to k))) := by
  obtain ⟨G, hG⟩ : ∃ G, G = numG most 10 0 0 r.left := ⟨_, rfl⟩
  rw [← hG]
  refine V50 _ _ h _ ⟨fun l hr => ∃ i n : Nat, l = [vU 0, vU n, vI i] ∧ i ≤ 10 ∧ Same (P1 p) h hr ∧ RdAt hr p (r.to i) ∧ i ≤ r.left.length ∧ (i ≤ 9 → n < 128 ^ i) ∧ n < 18446744073709551616 ∧ G = numG most (10 - i) i n (r.left.drop i), fun l _ => (10 - numAt l 2).toNat,
    ⟨0, 0, rfl, by decide, Same.refl _ _, R, Nat.zero_le _, by decide, by decide, hG⟩, ?_⟩
  rintro x4 n0 i0 h1 ⟨i, n, hl, hi, y1, R1, hil, hn, hn64, hGi⟩
  cases hl
  have left1 : (r.to i).left = r.left.drop i := by unfold Rd.left Rd.to; rw [List.drop_drop]
  refine ⟨fun hc => ?_, fun hc => ?_⟩
  · have hc : i < 10 := by have := of_decide_eq_true hc; omega
    have hn := hn (by omega)
    obtain ⟨f, hf⟩ : ∃ f, 10 - i = f + 1 := ⟨9 - i, by omega⟩
    have hf' : 10 - (i + 1) = f := by omega
    refine (take_c R1 1 (by decide)).mono ?_
    rintro e h2 (⟨hle, rfl, y2, R2⟩ | ⟨hlt, rfl, rfl⟩)
    · rw [left1] at hle ⊢
      obtain ⟨c, l, hcl⟩ := List.exists_cons_of_length_pos (l := r.left.drop i) (by omega)
      have hdrop : r.left.drop (i + 1) = l := by rw [← List.drop_drop, hcl]; rfl
      rw [hcl, hf, numG] at hGi
      have hlen : i + 1 ≤ r.left.length := by
        have := congrArg List.length hcl
        rw [List.length_drop, List.length_cons] at this; omega
      have y02 : Same (P1 p) h h2 := y1.trans y2 fun _ h _ => h
      have R2 : RdAt h2 p (r.to (i + 1)) := R2
      have hc256 : c.toNat < 256 := c.toNat_lt
      have hor : n ||| (c.toNat % 128 * 2 ^ (7 * i) % 18446744073709551616) = (n + c.toNat % 128 * 128 ^ i) % 18446744073709551616 := more7 (by omega) hn _
      refine .inl ⟨_, rfl, by decide, c, by rw [hcl]; rfl, _, and127 c, ((c.toNat % 128 : Nat) : Int), by rw [wrapU64]; omega, ((7 * i : Nat) : Int), by rw [wrapI64] <;> omega, by omega, _, shl64n (by omega), _, or64n hn64 (Nat.mod_lt _ (by decide)), fun h128 => ?_, fun h128 => ?_⟩
      · have h128 : 128 ≤ c.toNat := by have := of_decide_eq_true h128; omega
        rw [if_pos h128] at hGi
        refine ⟨_, incI (by omega), ⟨i + 1, _, rfl, by omega, y02, R2, hlen, fun h9 => ?_, ?_, by rw [hor, hdrop, hf']; exact hGi⟩, by simp only [numAt]; omega⟩
        · rw [hor]
          refine Nat.lt_of_le_of_lt (Nat.mod_le _ _) ?_
          rw [Nat.pow_succ]
          have : c.toNat % 128 * 128 ^ i ≤ 127 * 128 ^ i := Nat.mul_le_mul_right _ (by omega)
          omega
        · rw [hor]; exact Nat.mod_lt _ (by decide)
      · have h128 : ¬ 128 ≤ c.toNat := by have := of_decide_eq_false h128; omega
        rw [if_neg h128] at hGi
        refine ⟨fun l hr => l = [.bool (decide ((c.toNat = 0 ∧ 0 < i) ∨ (i = 9 ∧ 1 < c.toNat)))] ∧ hr = h2, ⟨decide (c.toNat = 0 ∧ 0 < i), ⟨fun g => ⟨rfl, ?_⟩, fun g => ⟨rfl, ?_⟩⟩, fun hB => ⟨?_, rfl⟩, fun hB => ⟨decide (i = 9 ∧ 1 < c.toNat), ⟨fun g => ⟨rfl, ?_⟩, fun g => ⟨rfl, ?_⟩⟩, ?_, rfl⟩⟩, ?_⟩
        · have g : c.toNat = 0 := by have := of_decide_eq_true g; omega
          apply decide_eq_decide.2; omega
        · have g : c.toNat ≠ 0 := by have := of_decide_eq_false g; omega
          simp [g]
        · have hB' := of_decide_eq_true hB
          rw [hB, decide_eq_true (p := (c.toNat = 0 ∧ 0 < i) ∨ (i = 9 ∧ 1 < c.toNat)) (.inl hB')]
        · have g : i = 9 := by have := of_decide_eq_true g; omega
          apply decide_eq_decide.2; omega
        · have g : i ≠ 9 := by have := of_decide_eq_false g; omega
          simp [g]
        · have hB' := of_decide_eq_false hB
          congr 2
          apply decide_eq_decide.2
          constructor
          · exact .inr
          · rintro (g | g)
            · exact (hB' g).elim
            · exact g
        · rintro bb h2' ⟨hl, rfl⟩
          cases hl
          refine ⟨fun hb => ?_, fun hb => ?_⟩
          · rw [if_pos (of_decide_eq_true hb)] at hGi
            refine ⟨y02, .inr ⟨by rw [hGi]; decide, by rw [hGi], _, R2⟩⟩
          · rw [if_neg (of_decide_eq_false hb)] at hGi
            rw [hor]
            refine ⟨fun hm => ?_, fun hm => ?_⟩
            · have hm : most < (n + c.toNat % 128 * 128 ^ i) % 18446744073709551616 := by have := of_decide_eq_true hm; omega
              rw [if_pos hm] at hGi
              refine ⟨y02, .inr ⟨by rw [hGi]; decide, by rw [hGi], _, R2⟩⟩
            · have hm : ¬ most < (n + c.toNat % 128 * 128 ^ i) % 18446744073709551616 := by have := of_decide_eq_false hm; omega
              rw [if_neg hm] at hGi
              exact ⟨y02, .inl ⟨by rw [hGi], by rw [hGi], by rw [hGi]; exact R2⟩⟩
    · rw [left1] at hlt
      have hnil : r.left.drop i = [] := List.eq_nil_of_length_eq_zero (by omega)
      rw [hnil, hf, numG] at hGi
      refine .inr ⟨_, rfl, y1, .inr ⟨by rw [hGi]; decide, by rw [hGi], _, R1⟩⟩
  · have hc : i = 10 := by have := of_decide_eq_false hc; omega
    rw [hc, Nat.sub_self, numG] at hGi
    exact ⟨y1, .inr ⟨by rw [hGi]; decide, by rw [hGi], _, R1⟩⟩

/-- pack.Reader.Uint -/
theorem ruint_c (R : RdAt h p r) (most : Nat) : CallsH Try.prog 21 #[vP p, vU most] h fun e h' => Same (P1 p) h h' ∧ RdAt h' p (r.uint most).2 ∧ e = .returned (vU (r.uint most).1) := by
  refine V21 _ _ h _ ?_
  intro a h1 ha e1
  have x1 : Ext h h1 := by rw [e1]; exact Ext.push _ _
  have ca1 : h1[a]? = some (.cells #[vP p] 39) := by rw [e1, ha]; exact push_last
  have s1 : h1.size = h.size + 1 := by rw [e1]; simp
  clear e1
  refine ⟨_, cellsAt_one (cellH_at ca1), (begin_c (R.ext x1)).mono ?_⟩
  rintro e h1 ⟨rfl, rfl⟩
  refine ⟨_, rfl, fun h0 => ?_, fun h0 => ?_⟩
  · have h0 : r.e ≠ 0 := by simpa using h0
    have e0 : r.uint most = (0, r) := by unfold Rd.uint; rw [if_pos h0]
    rw [e0]
    exact ⟨x1.same _, R.ext x1, rfl⟩
  have h0 : r.e = 0 := by simpa using h0
  refine ⟨_, cellsAt_one (cellH_at ca1), p, 0, rfl, _, cellsAt_one (cellH_at (R.ext x1).cell), ?_⟩
  intro b h2 hb e2
  have x2 : Ext h1 h2 := by rw [e2]; exact Ext.push _ _
  have cb2 : h2[b]? = some (.cells #[vZ 0] 3) := by rw [e2, hb, zerosNum]; exact push_last
  clear e2
  obtain ⟨q1, q2, q3⟩ := num_set cb2 (r.at_ : Int)
  refine ⟨infoNum, q1, q2, ?_⟩
  intro h3 e3
  have cb3 : h3[b]? = some (.cells #[vI r.at_] 3) := by rw [e3]; exact q3
  have ca3 : h3[a]? = some (.cells #[vP p] 39) := by rw [e3]; exact (setsH_ne (by omega)).trans ((x2.old a (by omega)).trans ca1)
  have x3 : Ext h h3 := by rw [e3]; exact (x1.trans x2).over (setsH_same (B := fun x => x = b) rfl) fun x hx => by omega
  have R3 : RdAt h3 p r := R.ext x3
  have lp := R.lt
  clear e3
  have la := (Array.getElem?_eq_some_iff.1 ca3).1
  have lb := (Array.getElem?_eq_some_iff.1 cb3).1
  have fail : ∀ (hq : Hp) (rq : Rd) (c : Int), Same (P1 p) h3 hq → RdAt hq p rq → rq.b = r.b → r.uint most = (0, r.bad c) →
      DefH Try.prog 48 #[vP a, vP b] (.panicking (gone c)) hq fun md hr => settle md = .returning ∧ (Same (P1 p) h hr ∧ RdAt hr p (r.uint most).2 ∧ Ending.returned (Value.int .u64 (0 : Int)) = .returned (vU (r.uint most).1)) := by
    intro hq rq c y Rq eb ek
    have ca := (y.old a la (by show ¬ a = p; omega)).trans ca3
    have cb := (y.old b lb (by show ¬ b = p; omega)).trans cb3
    refine catch_bad catUint ca cb Rq (by rw [eb]; exact R.ok.at_) c fun hr yr Rr => ⟨rfl, ((x3.same _).trans y fun _ h _ => h).trans yr fun _ h _ => h, ?_, by rw [ek]; rfl⟩
    rw [ek]
    have : (⟨rq.b, r.at_, c, r.at_⟩ : Rd) = r.bad c := by rw [eb]; rfl
    rw [← this]
    exact Rr
  have done : ∀ (hq : Hp) (rq : Rd) {K : FrameMode → Hp → Prop}, Same (P1 p) h3 hq → RdAt hq p rq → (Same (P1 p) h hq → RdAt hq p rq → K .returning hq) → DefH Try.prog 48 #[vP a, vP b] .returning hq K := by
    intro hq rq K y Rq hK
    exact catch_ok catUint ((y.old a la (by show ¬ a = p; omega)).trans ca3) ((y.old b lb (by show ¬ b = p; omega)).trans cb3) (hK ((x3.same _).trans y fun _ h _ => h) Rq)
  refine ⟨_, cellsAt_one (cellH_at ca3), (number_c R3 most).mono ?_⟩
  rintro e h4 ⟨y4, ⟨g0, rfl, R4⟩ | ⟨g0, rfl, k, R4⟩⟩
  · have ek : r.uint most = ((numG most 10 0 0 r.left).2.1, r.to (numG most 10 0 0 r.left).2.2) := by unfold Rd.uint; rw [if_neg (by simpa using h0), if_neg (by simpa using g0)]
    exact .inl ⟨_, rfl, done h4 _ y4 R4 fun y R => ⟨rfl, y, by rw [ek]; exact R, by rw [ek]⟩⟩
  · exact .inr ⟨_, rfl, fail h4 _ _ y4 R4 rfl (by unfold Rd.uint; rw [if_neg (by simpa using h0), if_pos g0])⟩

theorem ruint_nil (most : Nat) : CallsH Try.prog 21 #[.pointer none, vU most] h fun e h' => Ext h h' ∧ e = .returned (vU 0) := by
  refine V21 _ _ h _ ?_
  intro a h1 ha e1
  have x1 : Ext h h1 := by rw [e1]; exact Ext.push _ _
  have ca1 : h1[a]? = some (.cells #[.pointer none] 39) := by rw [e1, ha]; exact push_last
  clear e1
  refine ⟨_, cellsAt_one (cellH_at ca1), begin_nil.mono ?_⟩
  rintro e h1 ⟨rfl, rfl⟩
  exact ⟨_, rfl, fun _ => ⟨x1, rfl⟩, fun hf => by cases hf⟩

/-- pack.Reader.Raw -/
theorem rraw_c (R : RdAt h p r) (k : Int) (hk1 : k ≤ 9223372036854775807) : CallsH Try.prog 25 #[vP p, vZ k] h fun e h' => Same (P1 p) h h' ∧ RdAt h' p (r.raw k).2 ∧ e = .returned (.string (tx (r.raw k).1)) := by
  refine V25 _ _ h _ ?_
  intro a h1 ha e1
  have x1 : Ext h h1 := by rw [e1]; exact Ext.push _ _
  have ca1 : h1[a]? = some (.cells #[vP p] 39) := by rw [e1, ha]; exact push_last
  have s1 : h1.size = h.size + 1 := by rw [e1]; simp
  clear e1
  refine ⟨_, cellsAt_one (cellH_at ca1), (begin_c (R.ext x1)).mono ?_⟩
  rintro e h1 ⟨rfl, rfl⟩
  refine ⟨_, rfl, fun h0 => ?_, fun h0 => ?_⟩
  · have h0 : r.e ≠ 0 := by simpa using h0
    have e0 : r.raw k = ([], r) := by unfold Rd.raw; rw [if_pos h0]
    rw [e0]
    exact ⟨x1.same _, R.ext x1, rfl⟩
  have h0 : r.e = 0 := by simpa using h0
  refine ⟨_, cellsAt_one (cellH_at ca1), p, 0, rfl, _, cellsAt_one (cellH_at (R.ext x1).cell), ?_⟩
  intro b h2 hb e2
  have x2 : Ext h1 h2 := by rw [e2]; exact Ext.push _ _
  have cb2 : h2[b]? = some (.cells #[vZ 0] 3) := by rw [e2, hb, zerosNum]; exact push_last
  clear e2
  obtain ⟨q1, q2, q3⟩ := num_set cb2 (r.at_ : Int)
  refine ⟨infoNum, q1, q2, ?_⟩
  intro h3 e3
  have cb3 : h3[b]? = some (.cells #[vI r.at_] 3) := by rw [e3]; exact q3
  have ca3 : h3[a]? = some (.cells #[vP p] 39) := by rw [e3]; exact (setsH_ne (by omega)).trans ((x2.old a (by omega)).trans ca1)
  have x3 : Ext h h3 := by rw [e3]; exact (x1.trans x2).over (setsH_same (B := fun x => x = b) rfl) fun x hx => by omega
  have R3 : RdAt h3 p r := R.ext x3
  have lp := R.lt
  clear e3
  have la := (Array.getElem?_eq_some_iff.1 ca3).1
  have lb := (Array.getElem?_eq_some_iff.1 cb3).1
  have fail : ∀ (hq : Hp) (rq : Rd) (c : Int), Same (P1 p) h3 hq → RdAt hq p rq → rq.b = r.b → r.raw k = ([], r.bad c) →
      DefH Try.prog 56 #[vP a, vP b] (.panicking (gone c)) hq fun md hr => settle md = .returning ∧ (Same (P1 p) h hr ∧ RdAt hr p (r.raw k).2 ∧ Ending.returned (Value.string (⟨#[]⟩ : ByteArray)) = .returned (.string (tx (r.raw k).1))) := by
    intro hq rq c y Rq eb ek
    have ca := (y.old a la (by show ¬ a = p; omega)).trans ca3
    have cb := (y.old b lb (by show ¬ b = p; omega)).trans cb3
    refine catch_bad catRaw ca cb Rq (by rw [eb]; exact R.ok.at_) c fun hr yr Rr => ⟨rfl, ((x3.same _).trans y fun _ h _ => h).trans yr fun _ h _ => h, ?_, by rw [ek]; rfl⟩
    rw [ek]
    have : (⟨rq.b, r.at_, c, r.at_⟩ : Rd) = r.bad c := by rw [eb]; rfl
    rw [← this]
    exact Rr
  have done : ∀ (hq : Hp) (rq : Rd) {K : FrameMode → Hp → Prop}, Same (P1 p) h3 hq → RdAt hq p rq → (Same (P1 p) h hq → RdAt hq p rq → K .returning hq) → DefH Try.prog 56 #[vP a, vP b] .returning hq K := by
    intro hq rq K y Rq hK
    exact catch_ok catRaw ((y.old a la (by show ¬ a = p; omega)).trans ca3) ((y.old b lb (by show ¬ b = p; omega)).trans cb3) (hK ((x3.same _).trans y fun _ h _ => h) Rq)
  refine ⟨fun hc => ?_, fun hc => ?_⟩
  · have hc : k < 0 := of_decide_eq_true hc
    exact fail h3 r 1 (Same.refl _ _) R3 rfl (by unfold Rd.raw; rw [if_neg (by simpa using h0), if_pos hc])
  have hc : ¬ k < 0 := of_decide_eq_false hc
  obtain ⟨m, rfl⟩ := Int.eq_ofNat_of_zero_le (show 0 ≤ k by omega)
  refine ⟨_, cellsAt_one (cellH_at ca3), (m : Int), by rw [wrapU64]; omega, (take_c R3 m (by omega)).mono ?_⟩
  rintro e h4 (⟨hle, rfl, y4, R4⟩ | ⟨hlt, rfl, rfl⟩)
  · have ek : r.raw (m : Int) = (r.left.take m, r.to m) := by unfold Rd.raw; rw [if_neg (by simpa using h0), if_neg hc, if_neg (by omega), Int.toNat_natCast]
    exact .inl ⟨_, rfl, done h4 _ y4 R4 fun y R => ⟨rfl, y, by rw [ek]; exact R, by rw [ek]⟩⟩
  · exact .inr ⟨_, rfl, fail _ r 3 (Same.refl _ _) R3 rfl (by unfold Rd.raw; rw [if_neg (by simpa using h0), if_neg hc, if_pos (by omega)])⟩

theorem rraw_nil (k : Int) : CallsH Try.prog 25 #[.pointer none, vZ k] h fun e h' => Ext h h' ∧ e = .returned (.string ⟨#[]⟩) := by
  refine V25 _ _ h _ ?_
  intro a h1 ha e1
  have x1 : Ext h h1 := by rw [e1]; exact Ext.push _ _
  have ca1 : h1[a]? = some (.cells #[.pointer none] 39) := by rw [e1, ha]; exact push_last
  clear e1
  refine ⟨_, cellsAt_one (cellH_at ca1), begin_nil.mono ?_⟩
  rintro e h1 ⟨rfl, rfl⟩
  exact ⟨_, rfl, fun _ => ⟨x1, rfl⟩, fun hf => by cases hf⟩

/-- What a number says is less than 2^64. -/
theorem numG_lt (most : Nat) : ∀ (f i n : Nat) (l : List UInt8), (numG most f i n l).2.1 < 18446744073709551616
  | 0, _, _, _ => by rw [numG]; decide
  | f + 1, _, _, [] => by rw [numG]; decide
  | f + 1, i, n, c :: l => by
    rw [numG]
    split
    · exact numG_lt most f _ _ l
    · split
      · decide
      · split
        · decide
        · exact Nat.mod_lt _ (by decide)

/-- pack.Reader.Text -/
theorem rtext_c (R : RdAt h p r) (k : Int) (hk1 : k ≤ 9223372036854775807) : CallsH Try.prog 23 #[vP p, vZ k] h fun e h' => Same (P1 p) h h' ∧ RdAt h' p (r.text k).2 ∧ e = .returned (.string (tx (r.text k).1)) := by
  refine V23 _ _ h _ ?_
  intro a h1 ha e1
  have x1 : Ext h h1 := by rw [e1]; exact Ext.push _ _
  have ca1 : h1[a]? = some (.cells #[vP p] 39) := by rw [e1, ha]; exact push_last
  have s1 : h1.size = h.size + 1 := by rw [e1]; simp
  clear e1
  refine ⟨_, cellsAt_one (cellH_at ca1), (begin_c (R.ext x1)).mono ?_⟩
  rintro e h1 ⟨rfl, rfl⟩
  refine ⟨_, rfl, fun h0 => ?_, fun h0 => ?_⟩
  · have h0 : r.e ≠ 0 := by simpa using h0
    have e0 : r.text k = ([], r) := by unfold Rd.text; rw [if_pos h0]
    rw [e0]
    exact ⟨x1.same _, R.ext x1, rfl⟩
  have h0 : r.e = 0 := by simpa using h0
  refine ⟨_, cellsAt_one (cellH_at ca1), p, 0, rfl, _, cellsAt_one (cellH_at (R.ext x1).cell), ?_⟩
  intro b h2 hb e2
  have x2 : Ext h1 h2 := by rw [e2]; exact Ext.push _ _
  have cb2 : h2[b]? = some (.cells #[vZ 0] 3) := by rw [e2, hb, zerosNum]; exact push_last
  clear e2
  obtain ⟨q1, q2, q3⟩ := num_set cb2 (r.at_ : Int)
  refine ⟨infoNum, q1, q2, ?_⟩
  intro h3 e3
  have cb3 : h3[b]? = some (.cells #[vI r.at_] 3) := by rw [e3]; exact q3
  have ca3 : h3[a]? = some (.cells #[vP p] 39) := by rw [e3]; exact (setsH_ne (by omega)).trans ((x2.old a (by omega)).trans ca1)
  have x3 : Ext h h3 := by rw [e3]; exact (x1.trans x2).over (setsH_same (B := fun x => x = b) rfl) fun x hx => by omega
  have R3 : RdAt h3 p r := R.ext x3
  have lp := R.lt
  clear e3
  have la := (Array.getElem?_eq_some_iff.1 ca3).1
  have lb := (Array.getElem?_eq_some_iff.1 cb3).1
  have fail : ∀ (hq : Hp) (rq : Rd) (c : Int), Same (P1 p) h3 hq → RdAt hq p rq → rq.b = r.b → r.text k = ([], r.bad c) →
      DefH Try.prog 53 #[vP a, vP b] (.panicking (gone c)) hq fun md hr => settle md = .returning ∧ (Same (P1 p) h hr ∧ RdAt hr p (r.text k).2 ∧ Ending.returned (Value.string (⟨#[]⟩ : ByteArray)) = .returned (.string (tx (r.text k).1))) := by
    intro hq rq c y Rq eb ek
    have ca := (y.old a la (by show ¬ a = p; omega)).trans ca3
    have cb := (y.old b lb (by show ¬ b = p; omega)).trans cb3
    refine catch_bad catText ca cb Rq (by rw [eb]; exact R.ok.at_) c fun hr yr Rr => ⟨rfl, ((x3.same _).trans y fun _ h _ => h).trans yr fun _ h _ => h, ?_, by rw [ek]; rfl⟩
    rw [ek]
    have : (⟨rq.b, r.at_, c, r.at_⟩ : Rd) = r.bad c := by rw [eb]; rfl
    rw [← this]
    exact Rr
  have done : ∀ (hq : Hp) (rq : Rd) {K : FrameMode → Hp → Prop}, Same (P1 p) h3 hq → RdAt hq p rq → (Same (P1 p) h hq → RdAt hq p rq → K .returning hq) → DefH Try.prog 53 #[vP a, vP b] .returning hq K := by
    intro hq rq K y Rq hK
    exact catch_ok catText ((y.old a la (by show ¬ a = p; omega)).trans ca3) ((y.old b lb (by show ¬ b = p; omega)).trans cb3) (hK ((x3.same _).trans y fun _ h _ => h) Rq)
  refine ⟨fun _ hr => hr = h3 ∧ ¬ k < 0, ⟨fun hc => ?_, fun hc => ⟨rfl, of_decide_eq_false hc⟩⟩, ?_⟩
  · have hc : k < 0 := of_decide_eq_true hc
    exact fail h3 r 1 (Same.refl _ _) R3 rfl (by unfold Rd.text; rw [if_neg (by simpa using h0), if_pos hc])
  rintro h3' ⟨rfl, hc⟩
  obtain ⟨m, rfl⟩ := Int.eq_ofNat_of_zero_le (show 0 ≤ k by omega)
  refine ⟨fun hr => hr[a]? = some (.cells #[vP p] 39), ca3, _, fun hr hc => cellsAt_one (cellH_at hc), _, cellsAt_one (cellH_at ca3), (m : Int), by rw [wrapU64]; omega, (number_c R3 m).mono ?_⟩
  rintro e h4 ⟨y4, ⟨g0, rfl, R4⟩ | ⟨g0, rfl, k, R4⟩⟩
  · have ca4 := (y4.old a la (by show ¬ a = p; omega)).trans ca3
    refine .inl ⟨_, rfl, ca4, (take_c R4 _ (numG_lt _ _ _ _ _)).mono ?_⟩
    have hleft : ∀ j, (r.to j).left = r.left.drop j := fun j => by unfold Rd.left Rd.to; rw [List.drop_drop]
    have hno : ¬ ((m : Int) < 0) := by omega
    obtain ⟨G, hG⟩ : ∃ G, G = numG m 10 0 0 r.left := ⟨_, rfl⟩
    have et : r.text (m : Int) = (if r.left.length < G.2.2 + G.2.1 then ([], r.bad 3) else ((r.left.drop G.2.2).take G.2.1, r.to (G.2.2 + G.2.1))) := by
      unfold Rd.text
      rw [if_neg (by simpa using h0), if_neg hno, Int.toNat_natCast, if_neg (by simpa using g0), ← hG]
    rw [← hG] at R4 ⊢
    have lG := R4.ok.at_
    have ll := r.left_length
    have la0 := R.ok.at_
    have hat : (r.to G.2.2).at_ = r.at_ + G.2.2 := rfl
    have hbt : (r.to G.2.2).b = r.b := rfl
    rw [hat, hbt] at lG
    rintro e h5 (⟨hle, rfl, y5, R5⟩ | ⟨hlt, rfl, rfl⟩)
    · rw [hleft, List.length_drop] at hle
      have ca5 := (y5.old a (Nat.lt_of_lt_of_le la y4.size) (by show ¬ a = p; omega)).trans ca4
      have ek : r.text (m : Int) = ((r.left.drop G.2.2).take G.2.1, r.to (G.2.2 + G.2.1)) := by rw [et, if_neg (by omega)]
      have R5 : RdAt h5 p (r.to (G.2.2 + G.2.1)) := by
        have : (r.to G.2.2).to G.2.1 = r.to (G.2.2 + G.2.1) := by unfold Rd.to; simp only [Nat.add_assoc]
        rw [← this]; exact R5
      exact .inl ⟨_, rfl, ca5, done h5 _ (y4.trans y5 fun _ h _ => h) R5 fun y R => ⟨rfl, y, by rw [ek]; exact R, by rw [ek, hleft]⟩⟩
    · rw [hleft, List.length_drop] at hlt
      exact .inr ⟨_, rfl, fail _ _ 3 y4 R4 rfl (by rw [et, if_pos (by omega)])⟩
  · exact .inr ⟨_, rfl, fail h4 _ _ y4 R4 rfl (by unfold Rd.text; rw [if_neg (by simpa using h0), if_neg hc, Int.toNat_natCast, if_pos g0])⟩

theorem rtext_nil (k : Int) : CallsH Try.prog 23 #[.pointer none, vZ k] h fun e h' => Ext h h' ∧ e = .returned (.string ⟨#[]⟩) := by
  refine V23 _ _ h _ ?_
  intro a h1 ha e1
  have x1 : Ext h h1 := by rw [e1]; exact Ext.push _ _
  have ca1 : h1[a]? = some (.cells #[.pointer none] 39) := by rw [e1, ha]; exact push_last
  clear e1
  refine ⟨_, cellsAt_one (cellH_at ca1), begin_nil.mono ?_⟩
  rintro e h1 ⟨rfl, rfl⟩
  exact ⟨_, rfl, fun _ => ⟨x1, rfl⟩, fun hf => by cases hf⟩

theorem rat_c (R : RdAt h p r) : CallsH Try.prog 19 #[vP p] h fun e h' => h' = h ∧ e = .returned (vI r.at_) :=
  V19 _ h _ ⟨false, eqv_ptr uPR _, fun hf => (by cases hf), fun _ => ⟨p, 0, rfl, _, cellsAt_one (cellH_at R.cell), rfl, rfl⟩⟩
theorem rat_nil : CallsH Try.prog 19 #[.pointer none] h fun e h' => h' = h ∧ e = .returned (vI 0) :=
  V19 _ h _ ⟨true, eqv_nil uPR, fun _ => ⟨rfl, rfl⟩, fun hf => by cases hf⟩
theorem rfault_c (R : RdAt h p r) : CallsH Try.prog 18 #[vP p] h fun e h' => h' = h ∧ e = .returned (.tuple #[vZ r.e, vI r.place]) :=
  V18 _ h _ ⟨false, eqv_ptr uPR _, fun hf => (by cases hf), fun _ => ⟨p, 0, rfl, _, cellsAt_one (cellH_at R.cell), p, 0, rfl, _, cellsAt_one (cellH_at R.cell), rfl, rfl⟩⟩
theorem rfault_nil : CallsH Try.prog 18 #[.pointer none] h fun e h' => h' = h ∧ e = .returned (.tuple #[vZ 1, vI 0]) :=
  V18 _ h _ ⟨true, eqv_nil uPR, fun _ => ⟨rfl, rfl⟩, fun hf => by cases hf⟩
theorem rend_c (R : RdAt h p r) : CallsH Try.prog 20 #[vP p] h fun e h' => h' = h ∧ e = .returned (vZ r.fin) := by
  refine V20 _ h _ ⟨false, eqv_ptr uPR _, fun hf => (by cases hf), fun _ => ⟨decide (r.e = 0 ∧ r.at_ < r.b.length), ⟨p, 0, rfl, _, cellsAt_one (cellH_at R.cell), fun g => ⟨p, 0, rfl, _, cellsAt_one (cellH_at R.cell), p, 0, rfl, _, cellsAt_one (cellH_at R.cell), rfl, ?_⟩, fun g => ⟨rfl, ?_⟩⟩, fun hB => ⟨rfl, ?_⟩, fun hB => ⟨p, 0, rfl, _, cellsAt_one (cellH_at R.cell), rfl, ?_⟩⟩⟩
  · have g : r.e = 0 := of_decide_eq_true g
    apply decide_eq_decide.2
    rw [tx_size]; omega
  · have g : r.e ≠ 0 := of_decide_eq_false g
    simp [g]
  · unfold Rd.fin; rw [if_pos (of_decide_eq_true hB)]
  · unfold Rd.fin; rw [if_neg (of_decide_eq_false hB)]
theorem rend_nil : CallsH Try.prog 20 #[.pointer none] h fun e h' => h' = h ∧ e = .returned (vZ 1) :=
  V20 _ h _ ⟨true, eqv_nil uPR, fun _ => ⟨rfl, rfl⟩, fun hf => by cases hf⟩

end

end Go.Vc
