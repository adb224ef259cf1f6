/- SumsPatched: the plain law of sums of ones, and the walk. -/
import Derived.Test.YtmjbccjelnhhiaaDoorS2H
import Derived.Test.YtmjbccjelnhhiaaDoorS2J
set_option maxRecDepth 10000
namespace Go.Vc
open Go Go.Proofs Go.MapKept

theorem wsum_two : ∀ (l : List UInt8) (k : Nat), wsum (k + 2) l = wsum k l := by
  intro l
  induction l with
  | nil => intro k; rfl
  | cons c r ih =>
    intro k
    simp only [wsum]
    rw [show k + 2 + 1 = (k + 1) + 2 by omega, ih, show (k + 2) % 2 = k % 2 by omega]

theorem wsum_even (l : List UInt8) : ∀ {k : Nat}, k % 2 = 0 → wsum k l = wsum 0 l := by
  have : ∀ n, wsum (2 * n) l = wsum 0 l := by
    intro n
    induction n with
    | zero => rfl
    | succ n ih => rw [show 2 * (n + 1) = 2 * n + 2 by omega, wsum_two, ih]
  intro k hk
  rw [show k = 2 * (k / 2) by omega, this]

/-- The bytes of words, the other way round. -/
def swapL : List UInt8 → List UInt8
  | a :: b :: r => b :: a :: swapL r
  | _ => []

theorem swapL_length : ∀ (n : Nat) (l : List UInt8), l.length = 2 * n → (swapL l).length = 2 * n := by
  intro n
  induction n with
  | zero => intro l h; have : l = [] := List.eq_nil_of_length_eq_zero (by omega); subst this; rfl
  | succ n ih =>
    intro l h
    obtain ⟨a, l, rfl⟩ := List.exists_cons_of_length_eq_add_one (show l.length = (2 * n + 1) + 1 by omega)
    obtain ⟨b, l, rfl⟩ := List.exists_cons_of_length_eq_add_one (show l.length = 2 * n + 1 by simp at h; omega)
    have := ih l (by simp at h; omega)
    simp only [swapL, List.length_cons, this]
    omega

theorem swapL_snoc : ∀ (n : Nat) (l : List UInt8) (a b : UInt8), l.length = 2 * n → swapL (l ++ [a, b]) = swapL l ++ [b, a] := by
  intro n
  induction n with
  | zero => intro l a b h; have : l = [] := List.eq_nil_of_length_eq_zero (by omega); subst this; rfl
  | succ n ih =>
    intro l a b h
    obtain ⟨c, l, rfl⟩ := List.exists_cons_of_length_eq_add_one (show l.length = (2 * n + 1) + 1 by omega)
    obtain ⟨d, l, rfl⟩ := List.exists_cons_of_length_eq_add_one (show l.length = 2 * n + 1 by simp at h; omega)
    have := ih l a b (by simp at h; omega)
    simp only [swapL, List.cons_append, this]

theorem wsum_swap : ∀ (n : Nat) (l : List UInt8), l.length = 2 * n → (∃ q, 256 * wsum 0 l = wsum 0 (swapL l) + 65535 * q) ∧ (wsum 0 (swapL l) = 0 ↔ wsum 0 l = 0) := by
  intro n
  induction n with
  | zero => intro l h; have : l = [] := List.eq_nil_of_length_eq_zero (by omega); subst this; exact ⟨⟨0, rfl⟩, Iff.rfl⟩
  | succ n ih =>
    intro l h
    obtain ⟨a, l, rfl⟩ := List.exists_cons_of_length_eq_add_one (show l.length = (2 * n + 1) + 1 by omega)
    obtain ⟨b, l, rfl⟩ := List.exists_cons_of_length_eq_add_one (show l.length = 2 * n + 1 by simp at h; omega)
    obtain ⟨⟨q, hq⟩, hz⟩ := ih l (by simp at h; omega)
    have e1 : wsum 0 (a :: b :: l) = 256 * a.toNat + (b.toNat + wsum 0 l) := by
      rw [← wsum_two l 0]; rfl
    have e2 : wsum 0 (swapL (a :: b :: l)) = 256 * b.toNat + (a.toNat + wsum 0 (swapL l)) := by
      rw [← wsum_two (swapL l) 0]; rfl
    rw [e1, e2]
    exact ⟨⟨q + a.toNat, by omega⟩, by omega⟩

theorem fold_swap {S S' r q : Nat} (h : FoldOk S r) (hq : 256 * S = S' + 65535 * q) (hz : S' = 0 ↔ S = 0) : FoldOk S' (r / 256 + r % 256 * 256) := by
  obtain ⟨h1, h2, h3⟩ := h
  refine ⟨by omega, ?_, ?_⟩
  · omega
  · rw [hz, ← h3]; omega

/-- A sum with itself behind. -/
theorem fold_own {S r q : Nat} (h : FoldOk S r) (k : FoldOk (S + (65535 - r)) q) : q = 65535 := by
  obtain ⟨h1, h2, h3⟩ := h
  obtain ⟨k1, k2, k3⟩ := k
  omega

theorem fold_patch {S W r r2 r3 o f : Nat} (h : FoldOk S r) (ho : o ≤ 65535) (hoS : o ≤ S) (hW : W + o = S + f) (h2 : FoldOk (r + (65535 - o) + f) r2) (h3 : FoldOk W r3) (hW0 : W ≠ 0) : r2 = r3 := by
  obtain ⟨a1, a2, a3⟩ := h
  obtain ⟨b1, b2, b3⟩ := h2
  obtain ⟨c1, c2, c3⟩ := h3
  omega

theorem wsum_zero : ∀ (l : List UInt8) (k : Nat), wsum k l = 0 ↔ (l.any fun c => c != 0) = false := by
  intro l
  induction l with
  | nil => intro k; simp [wsum]
  | cons c r ih =>
    intro k
    have hc : c.toNat = 0 ↔ c = 0 := ⟨fun h => UInt8.toNat_inj.1 h, fun h => by rw [h]; rfl⟩
    simp only [wsum, List.any_cons, Bool.or_eq_false_iff, bne_eq_false_iff_eq]
    rw [← ih (k + 1), ← hc]
    split <;> omega

theorem mk_bl (b : ByteArray) : (⟨(bl b).toArray⟩ : ByteArray) = b := by
  cases b; simp

/-- Two bytes, as a text. -/
theorem text_two (x y : UInt8) (h : Hp) {K : ByteArray → Hp → Prop} (hK : ∀ h', Ext h h' → K ⟨#[x, y]⟩ h') :
    SemH Tryd.prog (Instr.buildSlice 35 2 #[(0, (Value.int .u8 (x.toNat : Int))), (1, (Value.int .u8 (y.toNat : Int)))]) h fun v_ hp_3 =>
      ∃ (p_ : Option Addr) (n_ c_ : Nat), v_ = (Value.slice p_ n_ c_) ∧
      SemH Tryd.prog (convert 35 9 (Value.slice p_ n_ c_)) hp_3 fun v_1 hp_4 =>
      ∃ t_ : ByteArray, v_1 = (Value.string t_) ∧ K t_ hp_4 := by
  refine semH_build row35 (vs := byteVs [x, y]) rfl rfl (by simp [byteVs]) (by simp [byteVs]) (by simp [byteVs, Value.oneCell']) ⟨_, _, _, rfl, ?_⟩
  have hseg : Seg (h.push (.cells (byteVs [x, y]).toArray 5)) (some ⟨h.size, 0, none⟩) 2 (byteVs (⟨#[x, y]⟩ : ByteArray).data.toList) :=
    ⟨rfl, .inr ⟨_, _, rfl, cellsAt_all push_last⟩⟩
  exact semH_toText u35 u5 u9 hseg ⟨_, rfl, hK _ (Ext.push _ _)⟩

theorem hi_lo (a : Nat) (_ha : a < 65536) : IntKind.u8.wrap (IntKind.u16.wrap (Int.tdiv (a : Int) 256)) = ((UInt8.ofNat (a / 256)).toNat : Int) ∧ IntKind.u8.wrap (Int.tmod (a : Int) 256) = ((UInt8.ofNat (a % 256)).toNat : Int) := by
  have h1 : Int.tdiv (a : Int) 256 = ((a / 256 : Nat) : Int) := (Int.ofNat_tdiv a 256).symm
  have h2 : Int.tmod (a : Int) 256 = ((a % 256 : Nat) : Int) := (Int.ofNat_tmod a 256).symm
  rw [h1, h2]
  have e1 : (UInt8.ofNat (a / 256)).toNat = a / 256 % 256 := by simp
  have e2 : (UInt8.ofNat (a % 256)).toNat = a % 256 % 256 := by simp
  rw [e1, e2, wrapU16, wrapU8, wrapU8]
  omega

theorem wsum_hilo (a : Nat) (_ha : a < 65536) : wsum 0 [UInt8.ofNat (a / 256), UInt8.ofNat (a % 256)] = a := by
  have e1 : (UInt8.ofNat (a / 256)).toNat = a / 256 % 256 := by simp
  have e2 : (UInt8.ofNat (a % 256)).toNat = a % 256 % 256 := by simp
  have : wsum 0 [UInt8.ofNat (a / 256), UInt8.ofNat (a % 256)] = 256 * (UInt8.ofNat (a / 256)).toNat + ((UInt8.ofNat (a % 256)).toNat + 0) := rfl
  rw [this, e1, e2]
  omega

/-- A number counted round. -/
theorem round_in (x : Int) (hlo : -9223372036854775808 ≤ x) (hhi : x ≤ 9223372036854775807) (h : Hp) :
    ((decide (x < (0 : Int))) = true → ∃ y, IntKind.i64.wrap (x + (1 : Int)) = y ∧ ∃ z, IntKind.i64.wrap (0 - y) = z ∧ (h = h ∧ ∃ m : Nat, m < 9223372036854775808 ∧ [(Value.int .i64 z)] = [vI m])) ∧
    ((decide (x < (0 : Int))) = false → (h = h ∧ ∃ m : Nat, m < 9223372036854775808 ∧ [(Value.int .i64 x)] = [vI m])) := by
  refine ⟨fun hneg => ?_, fun hpos => ?_⟩
  · have hneg : x < 0 := by simpa using hneg
    refine ⟨x + 1, wrapI64 (by omega) (by omega), (((-(x + 1)).toNat : Nat) : Int), by rw [wrapI64] <;> omega, rfl, _, ?_, rfl⟩
    omega
  · have hpos : 0 ≤ x := by simp at hpos; omega
    obtain ⟨m, rfl⟩ := Int.eq_ofNat_of_zero_le hpos
    exact ⟨rfl, m, by omega, rfl⟩

theorem tmod_nat (m n : Nat) : Int.tmod (m : Int) (n : Int) = ((m % n : Nat) : Int) := (Int.ofNat_tmod m n).symm

/-- turnoutlaw02.SumsPatched -/
theorem law_8 (text : ByteArray) (ht : text.size ≤ 140737488351232) (c0 : Int) (fr : Nat) (c2 : Int) (h0 : -9223372036854775808 ≤ c0 ∧ c0 ≤ 9223372036854775807) (hfr : fr < 65536) (h2 : -9223372036854775808 ≤ c2 ∧ c2 ≤ 9223372036854775807) (h : Hp) (hh : Halves h) :
    CallsH Tryd.prog 8 #[.string text, .agg #[.int .i64 c0, .int .u16 (fr : Int), .int .i64 c2]] h (RetX (.bool true) h) := by
  refine V8 _ _ _ _ h _ ?_
  intro q hp hq hhp
  have hx : Ext h hp := by rw [hhp]; exact Ext.push _ _
  have hcell : hp[q]? = some (.cells #[.int .i64 c0, .int .u16 (fr : Int), .int .i64 c2] 47) := by rw [hhp, hq]; exact push_last
  refine (live_12 hp (hh.ext hx)).mono ?_
  rintro e h1 ⟨rfl, hx1⟩
  have hcell1 : h1[q]? = some (.cells #[.int .i64 c0, .int .u16 (fr : Int), .int .i64 c2] 47) := (hx1.old q (Array.getElem?_eq_some_iff.1 hcell).1).trans hcell
  obtain ⟨n, hn⟩ : ∃ n, n = text.size / 2 := ⟨_, rfl⟩
  have hn2 : 2 * n ≤ text.size := by omega
  have hdv : IntKind.i64.wrap (Int.tdiv (text.size : Int) 2) = (n : Int) := by
    have : Int.tdiv (text.size : Int) 2 = ((text.size / 2 : Nat) : Int) := (Int.ofNat_tdiv text.size 2).symm
    rw [this, wrapI64] <;> omega
  refine ⟨_, rfl, by decide, (n : Int), hdv, ((2 * n : Nat) : Int), by rw [wrapI64] <;> omega, 2 * n, rfl, Nat.zero_le _, hn2, _, rfl, _, cellsAt_one (cellH_at hcell1), _, cellsAt_one (cellH_at hcell1), _, cellsAt_one (cellH_at hcell1), ?_⟩
  generalize hb : text.extract 0 (2 * n) = b
  have hbs : b.size = 2 * n := by rw [← hb, ByteArray.size_extract]; omega
  clear hb hdv hn
  have hbl : (bl b).length = 2 * n := by simp [hbs]
  refine (ones_23 b (by omega) h1).mono ?_
  rintro e h1' ⟨rfl, a, ⟨r, hr, ha⟩, rfl⟩
  have hrl := hr.1
  have haL : a < 65536 := by omega
  obtain ⟨hhi, hlo⟩ := hi_lo a haL
  refine ⟨_, rfl, by decide, _, rfl, _, hhi, by decide, _, rfl, _, hlo, text_two _ _ h1' fun h3 hx3 => ?_⟩
  refine ⟨by rw [hbs]; show 2 * n + 2 ≤ _; omega, _, rfl, (ones_23 _ (by rw [ByteArray.size_append, hbs]; show 2 * n + 2 ≤ _; omega) h3).mono ?_⟩
  rintro e h4 ⟨rfl, a2, ⟨r2, hr2, ha2⟩, rfl⟩
  have e1 : wsum 0 (bl (b ++ ⟨#[UInt8.ofNat (a / 256), UInt8.ofNat (a % 256)]⟩)) = wsum 0 (bl b) + (65535 - r) := by
    rw [bl_append, wsum_append, wsum_even _ (show (0 + (bl b).length) % 2 = 0 by omega)]
    have := wsum_hilo a haL
    rw [show bl (⟨#[UInt8.ofNat (a / 256), UInt8.ofNat (a % 256)]⟩ : ByteArray) = [UInt8.ofNat (a / 256), UInt8.ofNat (a % 256)] from rfl, this, ha]
  rw [e1] at hr2
  have e2 := fold_own hr hr2
  have ha20 : a2 = 0 := by omega
  subst ha20
  refine ⟨_, rfl, fun l' hq => l' = [] ∧ hq = h4, ⟨false, ⟨fun hf => (by cases hf), fun _ => ⟨rfl, rfl⟩⟩, fun hB => (by cases hB), fun _ => ⟨rfl, rfl⟩⟩, ?_⟩
  rintro h5 ⟨_, rfl⟩
  have hxx : Ext h h5 := (hx.trans hx1).trans hx3
  refine ⟨fun hz => ?_, fun hz => ?_⟩
  · have hn0 : n = 0 := by simp at hz; omega
    have : bl b = [] := List.eq_nil_of_length_eq_zero (by omega)
    rw [this] at hr
    have h3 := (hr.2.2).2 rfl
    refine ⟨?_, hxx⟩
    have : a = 65535 := by omega
    rw [this]; rfl
  have hn0 : 0 < n := by simp at hz; omega
  have hnz : (n : Int) ≠ 0 := by omega
  refine ⟨fun l' hq => hq = h5 ∧ ∃ m : Nat, m < 9223372036854775808 ∧ l' = [vI m], round_in c2 h2.1 h2.2 _, ?_⟩
  rintro tn h6 ⟨rfl, m, hm, hl⟩
  cases hl
  obtain ⟨k, hk⟩ : ∃ k, k = m % n := ⟨_, rfl⟩
  have hkn : k < n := by rw [hk]; exact Nat.mod_lt _ hn0
  refine ⟨hnz, (k : Int), by rw [tmod_nat, hk], ((2 * k : Nat) : Int), by rw [wrapI64] <;> omega, 2 * k, rfl, by omega, Nat.le_refl _, _, rfl, 2 * k, rfl, Nat.zero_le _, by omega, _, rfl, ?_⟩
  refine ⟨by rw [ByteArray.size_extract, ByteArray.size_extract]; omega, _, rfl, (ones_23 _ (by rw [ByteArray.size_append, ByteArray.size_extract, ByteArray.size_extract]; omega) h6).mono ?_⟩
  rintro e h7 ⟨rfl, a3, ⟨r3, hr3, ha3⟩, rfl⟩
  have e3 : wsum 0 (bl (b.extract (2 * k) b.size ++ b.extract 0 (2 * k))) = wsum 0 (bl b) := by
    rw [bl_append, bl_extract, bl_extract, wsum_append, hbs, Nat.sub_zero, List.drop_zero]
    rw [List.take_of_length_le (l := (bl b).drop (2 * k)) (by simp; omega), wsum_even ((bl b).take (2 * k)) (k := 0 + ((bl b).drop (2 * k)).length) (by simp; omega)]
    have : wsum 0 (bl b) = wsum 0 ((bl b).take (2 * k) ++ (bl b).drop (2 * k)) := by rw [List.take_append_drop]
    rw [this, wsum_append, wsum_even ((bl b).drop (2 * k)) (k := 0 + ((bl b).take (2 * k)).length) (by simp; omega)]
    omega
  rw [e3] at hr3
  have e4 := hr3.uniq hr
  obtain rfl : a3 = a := by omega
  refine ⟨_, rfl, fun l' hq => ∃ (i : Nat) (p : Option Addr) (c : Nat), i ≤ n ∧ l' = [.slice p (2 * i) c, vI (2 * i)] ∧ Own hq h7.size 5 1 (.slice p (2 * i) c) (2 * i) (byteVs (swapL ((bl b).take (2 * i)))) ∧ Ext h7 hq,
    fun l' _ => (2 * n - numAt l' 1).toNat, ⟨0, none, 0, Nat.zero_le _, rfl, by rw [Nat.mul_zero]; exact Own.nil _ _ _ _, Ext.refl _⟩, ?_⟩
  rintro op on oc x h8 ⟨i, p', c', hi, hl, ho, hx8⟩
  cases hl
  refine ⟨fun hlt => ?_, fun hge => ?_⟩
  · have hlt : i < n := by simp [hbs] at hlt; omega
    have q1 : 2 * i < b.size := by omega
    have q2 : 2 * i + 1 < b.size := by omega
    refine ⟨_, incI (by omega), by omega, _, byteAt q2, by omega, _, byteAt q1, ?_⟩
    refine semH_push row35 ho (vs := byteVs [b[2 * i + 1], b[2 * i]]) (m := 2) rfl rfl (by simp [byteVs]) (by simp [byteVs]) (by simp [byteVs, Value.oneCell']) (by omega) (by simp only [maxLen]; omega) hx8.size fun p2 c2 h9 ho2 hg2 _ _ => ?_
    refine ⟨((2 * (i + 1) : Nat) : Int), by rw [wrapI64] <;> omega, ⟨i + 1, p2, c2, hlt, by rw [show 2 * i + 2 = 2 * (i + 1) by omega], ?_, hx8.own ho (Nat.le_refl _) hg2⟩, by simp only [numAt]; omega⟩
    have e5 : (bl b).take (2 * (i + 1)) = (bl b).take (2 * i) ++ [b[2 * i], b[2 * i + 1]] := by
      have t1 := take_byte q2
      have t2 := take_byte q1
      rw [show 2 * (i + 1) = 2 * i + 1 + 1 by omega]
      show b.data.toList.take (2 * i + 1 + 1) = _
      rw [t1, t2]; simp
    rw [e5, swapL_snoc i _ _ _ (by simp; omega), byteVs, List.map_append, show 2 * (i + 1) = 2 * i + 2 by omega]
    exact ho2
  have hin : i = n := by simp [hbs] at hge; omega
  subst hin
  have tb : (bl b).take (2 * i) = bl b := List.take_of_length_le (by omega)
  rw [tb] at ho
  refine semH_toText u35 u5 u9 (t := ⟨(swapL (bl b)).toArray⟩) ho.seg ⟨_, rfl, ?_⟩
  have hsl := swapL_length i (bl b) hbl
  refine (ones_23 _ (by show Array.size _ ≤ _; rw [List.size_toArray, hsl]; omega) h8).mono ?_
  rintro e h9 ⟨rfl, d, ⟨r4, hr4, hd⟩, rfl⟩
  have hx9 : Ext h h9 := hxx.trans hx8
  obtain ⟨⟨qq, hqq⟩, hzz⟩ := wsum_swap i (bl b) hbl
  have e6 := hr4.uniq (fold_swap hr hqq hzz)
  have hdd : d = a3 / 256 + a3 % 256 * 256 := by omega
  refine ⟨_, rfl, fun l' hq => l' = [] ∧ hq = h9, ⟨false, ⟨fun hf => (by simp at hf), fun _ => ?_⟩, fun hB => (by cases hB), fun _ => ⟨rfl, rfl⟩⟩, ?_⟩
  · have h1 : Int.tdiv (a3 : Int) 256 = ((a3 / 256 : Nat) : Int) := (Int.ofNat_tdiv a3 256).symm
    refine ⟨by decide, ((a3 / 256 : Nat) : Int), by rw [h1, wrapU16]; omega, by decide, ((a3 % 256 : Nat) : Int), tmod_nat a3 256, ((a3 % 256 * 256 : Nat) : Int), by rw [wrapU16]; omega, ((a3 / 256 + a3 % 256 * 256 : Nat) : Int), by rw [wrapU16]; omega, rfl, ?_⟩
    rw [hdd]; simp
  rintro h10 ⟨_, rfl⟩
  refine ⟨fun l' hq => hq = h10 ∧ ∃ m : Nat, m < 9223372036854775808 ∧ l' = [vI m], round_in c0 h0.1 h0.2 _, ?_⟩
  rintro av h11 ⟨rfl, m1, hm1, hl⟩
  cases hl
  obtain ⟨p, hp⟩ : ∃ p, p = m1 % i := ⟨_, rfl⟩
  have hpn : p < i := by rw [hp]; exact Nat.mod_lt _ hn0
  have q1 : 2 * p < b.size := by omega
  have q2 : 2 * p + 1 < b.size := by omega
  have l1 := b[2 * p].toNat_lt
  have l2 := b[2 * p + 1].toNat_lt
  obtain ⟨fhi, flo⟩ := hi_lo fr hfr
  refine ⟨hnz, (p : Int), by rw [tmod_nat, hp], ((2 * p : Nat) : Int), by rw [wrapI64] <;> omega, by omega, _, byteAt q1, (b[2 * p].toNat : Int), by rw [wrapU16]; omega, ((256 * b[2 * p].toNat : Nat) : Int), by rw [wrapU16]; omega,
    _, incI (by omega), by omega, _, byteAt q2, (b[2 * p + 1].toNat : Int), by rw [wrapU16]; omega, ((256 * b[2 * p].toNat + b[2 * p + 1].toNat : Nat) : Int), by rw [wrapU16]; omega, 2 * p, rfl, Nat.zero_le _, by omega, _, rfl,
    by decide, _, rfl, _, fhi, by decide, _, rfl, _, flo, text_two _ _ h11 fun h12 hx12 => ?_⟩
  have s1 : (b.extract 0 (2 * p)).size = 2 * p := by rw [ByteArray.size_extract]; omega
  have s2 : (b.extract (2 * p + 2) b.size).size = b.size - (2 * p + 2) := by rw [ByteArray.size_extract]; omega
  have s3 : (⟨#[UInt8.ofNat (fr / 256), UInt8.ofNat (fr % 256)]⟩ : ByteArray).size = 2 := rfl
  refine ⟨by rw [s1, s3]; omega, _, rfl, ((2 * p + 2 : Nat) : Int), by rw [wrapI64] <;> omega, 2 * p + 2, rfl, by omega, Nat.le_refl _, _, rfl, by rw [ByteArray.size_append, s1, s2, s3]; omega, _, rfl, ?_⟩
  generalize hw : b.extract 0 (2 * p) ++ ⟨#[UInt8.ofNat (fr / 256), UInt8.ofNat (fr % 256)]⟩ ++ b.extract (2 * p + 2) b.size = w
  have hws : w.size = 2 * i := by rw [← hw, ByteArray.size_append, ByteArray.size_append, s1, s2, s3]; omega
  have hW : wsum 0 (bl w) + (256 * b[2 * p].toNat + b[2 * p + 1].toNat) = wsum 0 (bl b) + fr ∧ 256 * b[2 * p].toNat + b[2 * p + 1].toNat ≤ wsum 0 (bl b) := by
    have t1 := take_byte q2
    have t2 := take_byte q1
    have e5 : bl b = (bl b).take (2 * p) ++ [b[2 * p], b[2 * p + 1]] ++ (bl b).drop (2 * p + 2) := by
      have : (bl b).take (2 * p) ++ [b[2 * p], b[2 * p + 1]] = (bl b).take (2 * p + 2) := by
        show b.data.toList.take (2 * p) ++ _ = b.data.toList.take (2 * p + 1 + 1)
        rw [t1, t2]; simp
      rw [this, List.take_append_drop]
    have hT : ((bl b).take (2 * p)).length = 2 * p := by simp; omega
    have e6 : wsum 0 (bl b) = wsum 0 ((bl b).take (2 * p)) + (256 * b[2 * p].toNat + b[2 * p + 1].toNat) + wsum 0 ((bl b).drop (2 * p + 2)) := by
      conv => lhs; rw [e5]
      rw [wsum_append, wsum_append, wsum_even _ (show (0 + ((bl b).take (2 * p)).length) % 2 = 0 by omega), wsum_even ((bl b).drop (2 * p + 2)) (by simp; omega)]
      have : wsum 0 [b[2 * p], b[2 * p + 1]] = 256 * b[2 * p].toNat + (b[2 * p + 1].toNat + 0) := rfl
      omega
    have e7 : wsum 0 (bl w) = wsum 0 ((bl b).take (2 * p)) + fr + wsum 0 ((bl b).drop (2 * p + 2)) := by
      rw [← hw, bl_append, bl_append, bl_extract, bl_extract, Nat.sub_zero, List.drop_zero, List.take_of_length_le (l := (bl b).drop (2 * p + 2)) (by simp)]
      rw [show bl (⟨#[UInt8.ofNat (fr / 256), UInt8.ofNat (fr % 256)]⟩ : ByteArray) = [UInt8.ofNat (fr / 256), UInt8.ofNat (fr % 256)] from rfl]
      rw [wsum_append, wsum_append, wsum_even _ (show (0 + ((bl b).take (2 * p)).length) % 2 = 0 by omega), wsum_even ((bl b).drop (2 * p + 2)) (by simp; omega), wsum_hilo fr hfr]
    omega
  clear hw
  have hwl : (bl w).length = w.size := by simp
  refine ⟨fun l' hq => hq = h12 ∧ ∃ j : Nat, j ≤ w.size ∧ l' = [.bool (((bl w).take j).any fun c => c != 0), vI j], fun l' _ => (w.size - numAt l' 1).toNat, ⟨rfl, 0, Nat.zero_le _, rfl⟩, ?_⟩
  rintro sm x h13 ⟨rfl, j, hj, hl⟩
  cases hl
  refine ⟨fun hlt => ?_, fun hge => ?_⟩
  · have hlt : j < w.size := by simp at hlt; omega
    have tj : ((bl w).take (j + 1)).any (fun c => c != 0) = (((bl w).take j).any (fun c => c != 0) || (w[j] != 0)) := by
      have := take_byte hlt
      show (w.data.toList.take (j + 1)).any _ = _
      rw [this, List.any_append]; simp
    refine ⟨((bl w).take (j + 1)).any (fun c => c != 0), ⟨fun hs => ⟨rfl, by rw [tj, hs]; rfl⟩, fun hs => ⟨by omega, _, byteAt hlt, rfl, ?_⟩⟩, _, incI (by omega), ⟨rfl, j + 1, hlt, rfl⟩, by simp only [numAt]; omega⟩
    rw [tj, hs, Bool.false_or, Bool.eq_iff_iff, bne_iff_ne, decide_eq_true_eq]
    apply not_congr
    constructor
    · intro h1; rw [h1]; rfl
    · intro h1; exact UInt8.toNat_inj.1 (by show _ = 0; omega)
  have hjw : j = w.size := by simp at hge; omega
  subst hjw
  rw [take_size]
  refine (ones_23 w (by omega) h13).mono ?_
  rintro e h14 ⟨rfl, x1, ⟨r5, hr5, hx1'⟩, rfl⟩
  refine ⟨_, rfl, (patch_25 a3 (256 * b[2 * p].toNat + b[2 * p + 1].toNat) fr haL (by omega) hfr h14).mono ?_⟩
  rintro e h15 ⟨rfl, r6, hr6, rfl⟩
  have hx15 : Ext h h15 := hx9.trans hx12
  refine ⟨_, rfl, true, ⟨fun _ => ⟨rfl, rfl⟩, fun hne => ?_⟩, rfl, hx15⟩
  have hne : ¬ (x1 : Int) = ((65535 - r6 : Nat) : Int) := by simpa using hne
  have hW0 : wsum 0 (bl w) = 0 := by
    rcases Nat.eq_zero_or_pos (wsum 0 (bl w)) with h1 | h1
    · exact h1
    · exfalso
      rw [show 65535 - a3 = r by omega] at hr6
      have := fold_patch hr (by omega) hW.2 hW.1 hr6 hr5 (by omega)
      apply hne
      rw [this, hx1']
  refine ⟨fun _ => ⟨rfl, ?_⟩, fun hs => ?_⟩
  · have : r5 = 0 := (hr5.2.2).2 hW0
    symm
    rw [decide_eq_true_eq]
    omega
  · have := (wsum_zero (bl w) 0).1 hW0
    rw [this] at hs
    simp at hs

end Go.Vc
