/- SumsApart: the walk. -/
import Derived.Test.YtmjbccjelnhhiaaDoorS2X
import Derived.Test.YtmjbccjelnhhiaaDoorS2J
set_option maxRecDepth 10000
namespace Go.Vc
open Go Go.Proofs Go.MapKept

theorem eqv_bool {P : Program} {t : TypeId} (ht : P.underlying t = some .bool) (a b : Bool) : EqV P t (.bool a) (.bool b) (a == b) := by
  intro w
  have h : ∀ d, (Op.equalIn (d + 1) t (.bool a) (.bool b)).run P w = .ok (a == b) w := fun d => by
    rw [Op.equalIn]
    simp only [Sem.run_bind, run_underlying ht, Result.andThen_ok, Sem.run_pure]
  obtain ⟨d, hd⟩ : ∃ d, Op.maxDepth = d + 1 := ⟨Op.maxDepth - 1, by decide⟩
  unfold Op.equal
  rw [hd]
  exact h d

theorem u4 : Tryd.prog.underlying 4 = some .bool := by kernel_rfl

theorem u9' : Tryd.prog.underlying 9 = some .string := by kernel_rfl

/-- What is turned so far. -/
def turnedL (v k i n : Nat) : List UInt8 := List.replicate k 0 ++ bytesN v (i - k) ++ List.replicate (n - i) 0

theorem turnedL_length {v k i n : Nat} (hk : k ≤ i) (hi : i ≤ n) : (turnedL v k i n).length = n := by
  simp [turnedL, bytesN_length]; omega

theorem xorL_set {x y : List UInt8} {i : Nat} (hx : i < x.length) (hy : i < y.length) (c : UInt8) : (xorL x y).set i (x[i] ^^^ c) = xorL x (y.set i c) := by
  induction x generalizing y i with
  | nil => cases hx
  | cons a r ih =>
    cases y with
    | nil => cases hy
    | cons d s =>
      cases i with
      | zero => rfl
      | succ i =>
        simp only [xorL, List.set_cons_succ, List.getElem_cons_succ]
        rw [ih (by simpa using hx) (by simpa using hy)]

theorem turnedL_step {v k i n : Nat} (hk : k ≤ i) (hi : i < n) : (turnedL v k i n).set i (UInt8.ofNat (v / 256 ^ (i - k))) = turnedL v k (i + 1) n := by
  unfold turnedL
  have h1 : (List.replicate k (0 : UInt8) ++ bytesN v (i - k)).length = i := by simp [bytesN_length]; omega
  rw [List.set_append_right _ _ (by omega), h1, Nat.sub_self, show n - i = n - (i + 1) + 1 by omega, List.replicate_succ, List.set_cons_zero,
    show i + 1 - k = (i - k) + 1 by omega, bytesN_add]
  simp [bytesN]

theorem turnedL_at {v k i n : Nat} (hk : k ≤ i) (hi : i < n) : (turnedL v k i n)[i]? = some 0 := by
  have h1 : (List.replicate k (0 : UInt8) ++ bytesN v (i - k)).length = i := by simp [bytesN_length]; omega
  unfold turnedL
  rw [List.getElem?_append_right (by omega), h1, Nat.sub_self, List.getElem?_replicate, if_pos (by omega)]

theorem xorL_zeros_right (l : List UInt8) : xorL l (List.replicate l.length 0) = l := by
  induction l with
  | nil => rfl
  | cons c r ih => rw [List.length_cons, List.replicate_succ]; simp only [xorL, ih]; congr 1; simp

theorem turnedL_first (v k n : Nat) (hk : k ≤ n) : turnedL v k k n = List.replicate n 0 := by
  unfold turnedL
  rw [Nat.sub_self]
  simp only [bytesN, List.append_nil, List.replicate_append_replicate]
  congr 1; omega

theorem turnedL_ends {v k i n : Nat} (hk : k ≤ i) (hi : i ≤ n) (h : v / 256 ^ (i - k) = 0) : bytesN v (n - k) = bytesN v (i - k) ++ List.replicate (n - i) 0 := by
  rw [show n - k = (i - k) + (n - i) by omega, bytesN_add, h, bytesN_zero]

/-- Whether something is turned. -/
def someB (l : List UInt8) : Bool := decide (l ≠ List.replicate l.length 0)

theorem someB_append_zeros (l : List UInt8) (n : Nat) : someB (l ++ List.replicate n 0) = someB l := by
  unfold someB
  congr 1
  apply propext
  apply not_congr
  rw [List.length_append, List.length_replicate, ← List.replicate_append_replicate]
  constructor
  · intro h
    exact List.append_cancel_right h
  · intro h
    rw [← h]

theorem someB_snoc (l : List UInt8) (c : UInt8) : someB (l ++ [c]) = (someB l || decide (c ≠ 0)) := by
  unfold someB
  rw [← Bool.decide_or]
  congr 1
  apply propext
  rw [List.length_append, List.length_singleton, List.replicate_succ']
  constructor
  · intro h
    by_cases h1 : l = List.replicate l.length 0
    · right
      intro hc
      apply h
      rw [hc, ← h1]
    · exact .inl h1
  · rintro h he
    have hl := List.append_inj he (by simp)
    rcases h with h | h
    · exact h hl.1
    · simp at hl; exact h hl.2

/-- turnoutlaw02.SumsApart -/
theorem law_4 (b : ByteArray) (hb : b.size ≤ maxLen) (place : Int) (hlo : -9223372036854775808 ≤ place) (hhi : place ≤ 9223372036854775807) (mask : W32) (h : Hp) (hh : Halves h) :
    CallsH Tryd.prog 4 #[.string b, .int .i64 place, vW mask] h (RetX (.bool true) h) := by
  have hb' : b.size ≤ 9223372036854775807 := hb
  refine V4 b _ _ h _ ((live_12 h hh).mono ?_)
  rintro e h1 ⟨rfl, hx1⟩
  have hdiv : 0 ≤ place → Int.tdiv place 8 = ((place.toNat / 8 : Nat) : Int) := fun hp => by
    obtain ⟨m, rfl⟩ := Int.eq_ofNat_of_zero_le hp
    exact (Int.ofNat_tdiv m 8).symm
  refine ⟨_, rfl, fun l hq => hq = h1 ∧ ∃ m : Nat, (m = 0 ∨ m / 8 < b.size) ∧ m < 9223372036854775808 ∧ l = [vI m], ⟨decide (place < 0 ∨ (b.size : Int) ≤ Int.tdiv place 8), ⟨fun hneg => ⟨rfl, ?_⟩, fun hpos => ?_⟩, fun hB => ⟨rfl, 0, .inl rfl, by decide, rfl⟩, fun hB => ?_⟩, ?_⟩
  · have : place < 0 := by simpa using hneg
    simp [this]
  · have hp : 0 ≤ place := by simp at hpos; omega
    have hn : ¬ place < 0 := by omega
    refine ⟨by decide, Int.tdiv place 8, by rw [hdiv hp, wrapI64] <;> omega, rfl, ?_⟩
    simp [hn]
  · have hB := of_decide_eq_false hB
    have hp : 0 ≤ place := by omega
    rw [hdiv hp] at hB
    exact ⟨rfl, place.toNat, .inr (by omega), by omega, by simp [Int.toNat_of_nonneg hp]⟩
  rintro pl hp ⟨rfl, m, hm, hm63, hl⟩
  cases hl
  obtain ⟨s, hs⟩ : ∃ s, s = m % 8 := ⟨_, rfl⟩
  obtain ⟨k, hk⟩ : ∃ k, k = m / 8 := ⟨_, rfl⟩
  have hkn : k ≤ b.size := by omega
  have hs8 : s < 8 := by omega
  have hmod : Int.tmod (m : Int) 8 = (s : Int) := by rw [hs]; exact (Int.ofNat_tmod m 8).symm
  have hkd : IntKind.i64.wrap (Int.tdiv (m : Int) 8) = (k : Int) := by
    have : Int.tdiv (m : Int) 8 = ((m / 8 : Nat) : Int) := (Int.ofNat_tdiv m 8).symm
    rw [this, wrapI64] <;> omega
  clear hs hk hm hm63
  refine semH_toBytes u9 u35 u5 fun c cur hcs hbc htk => ⟨_, _, _, rfl, (mask.toNat : Int), by rw [wrapU64]; exact Int.emod_eq_of_lt (by omega) (by have := mask.isLt; omega), ?_⟩
  generalize hh2 : hp.push (.cells cur 5 (c, c + 1)) = h2
  have hx2 : Ext h h2 := by rw [← hh2]; exact hx1.trans (Ext.push _ _)
  have hg2 : h2[hp.size]? = some (.cells cur 5 (c, c + 1)) := by rw [← hh2]; exact push_last
  refine ⟨fun l hq => hq = h2 ∧ ∃ i : Nat, i ≤ s ∧ l = [.int .u64 ((mask.toNat * 2 ^ i : Nat) : Int), vI i], fun l _ => (s - numAt l 1).toNat, ⟨rfl, 0, Nat.zero_le _, by rw [Nat.pow_zero, Nat.mul_one]; rfl⟩, ?_⟩
  rintro bits x h3 ⟨rfl, i, hi, hl⟩
  cases hl
  refine ⟨by decide, _, hmod, fun hlt => ?_, fun hge => ?_⟩
  · have hlt : i < s := by simp at hlt; omega
    have hb40 : mask.toNat * 2 ^ (i + 1) < 4294967296 * 2 ^ 8 := by
      have h1 := mask.isLt
      have h2 : 2 ^ (i + 1) ≤ 2 ^ 8 := Nat.pow_le_pow_right (by decide) (by omega)
      exact Nat.lt_of_le_of_lt (Nat.mul_le_mul_left _ h2) (by omega)
    refine ⟨((mask.toNat * 2 ^ (i + 1) : Nat) : Int), ?_, _, incI (by omega), ⟨rfl, i + 1, hlt, rfl⟩, by simp only [numAt]; omega⟩
    have : mask.toNat * 2 ^ (i + 1) = 2 * (mask.toNat * 2 ^ i) := by rw [Nat.pow_succ, ← Nat.mul_assoc]; omega
    rw [wrapU64]; omega
  have his : i = s := by simp at hge; omega
  subst his
  obtain ⟨V, hV⟩ : ∃ V, V = mask.toNat * 2 ^ i := ⟨_, rfl⟩
  have hV64 : V < 18446744073709551616 := by
    have h1 := mask.isLt
    have h2 : 2 ^ i ≤ 2 ^ 8 := Nat.pow_le_pow_right (by decide) (by omega)
    rw [hV]
    exact Nat.lt_of_le_of_lt (Nat.mul_le_mul_left _ h2) (by omega)
  rw [← hV]
  have hlb : (bl b).length = b.size := by simp
  have hgx : h.size ≤ hp.size := hx1.size
  have hVi : ∀ j, V / 256 ^ j ≤ V := fun j => Nat.div_le_self _ _
  refine ⟨fun l hq => ∃ cur' : Array Value, l = [.bool (someB (bytesN V (b.size - k)))] ∧ hq[hp.size]? = some (.cells cur' 5 (c, c + 1)) ∧ cur'.size = c ∧ cur'.toList.take b.size = byteVs (xorL (bl b) (turnedL V k b.size b.size)) ∧ Ext h hq,
    ⟨by decide, (k : Int), hkd, fun l hq => ∃ (i : Nat) (cur' : Array Value), k ≤ i ∧ i ≤ b.size ∧ l = [.int .u64 ((V / 256 ^ (i - k) : Nat) : Int), .bool (someB (bytesN V (i - k))), vI i] ∧ hq[hp.size]? = some (.cells cur' 5 (c, c + 1)) ∧ cur'.size = c ∧
      cur'.toList.take b.size = byteVs (xorL (bl b) (turnedL V k i b.size)) ∧ Ext h hq, fun l _ => (b.size - numAt l 2).toNat,
      ⟨k, cur, Nat.le_refl _, hkn, by rw [Nat.sub_self, Nat.pow_zero, Nat.div_one]; rfl, hg2, hcs, ?_, hx2⟩, ?_⟩, ?_⟩
  · rw [htk, turnedL_first V k _ hkn, ← hlb, xorL_zeros_right]
  · rintro bits turned x h4 ⟨q, cur', hkq, hqn, hl, hg4, hcs4, htk4, hx4⟩
    cases hl
    refine ⟨fun l hq => l = [] ∧ hq = h4 ∧ q < b.size ∧ 0 < V / 256 ^ (q - k), ⟨decide (q < b.size ∧ 0 < V / 256 ^ (q - k)), ⟨fun hlt => ⟨rfl, ?_⟩, fun hge => ⟨rfl, ?_⟩⟩, fun hB => ?_, fun hB => ?_⟩, ?_⟩
    · have hlt : q < b.size := by simp at hlt; omega
      simp only [hlt, true_and]
      apply decide_eq_decide.2
      omega
    · have hge : ¬ q < b.size := by simp at hge; omega
      simp [hge]
    · have hB := of_decide_eq_true hB
      exact ⟨rfl, rfl, hB.1, hB.2⟩
    · have hB := of_decide_eq_false hB
      have hcase : q = b.size ∨ V / 256 ^ (q - k) = 0 := by
        rcases Nat.lt_or_ge q b.size with h5 | h5
        · right
          rcases Nat.eq_zero_or_pos (V / 256 ^ (q - k)) with h6 | h6
          · exact h6
          · exact (hB ⟨h5, h6⟩).elim
        · left; omega
      have key : someB (bytesN V (q - k)) = someB (bytesN V (b.size - k)) ∧ turnedL V k q b.size = turnedL V k b.size b.size := by
        rcases hcase with rfl | h0
        · exact ⟨rfl, rfl⟩
        · have e := turnedL_ends hkq hqn h0
          refine ⟨by rw [e, someB_append_zeros], ?_⟩
          unfold turnedL
          rw [e]
          simp
      rw [key.2] at htk4
      exact ⟨cur', by rw [key.1], hg4, hcs4, htk4, hx4⟩
    · rintro h5 ⟨_, rfl, hqb, hpos⟩
      obtain ⟨W, hW⟩ : ∃ W, W = V / 256 ^ (q - k) := ⟨_, rfl⟩
      have hWV : W ≤ V := by rw [hW]; exact hVi _
      rw [← hW] at hpos ⊢
      have hcN : (UInt8.ofNat W).toNat = W % 256 := by simp
      have hq1 : q < (bl b).length := by rw [hlb]; exact hqb
      have hq2 : q < (turnedL V k q b.size).length := by rw [turnedL_length hkq hqn]; exact hqb
      have hy0 : (turnedL V k q b.size)[q] = 0 := by
        have := turnedL_at (v := V) hkq hqb
        rw [List.getElem?_eq_getElem hq2] at this
        exact Option.some.inj this
      have hL : (xorL (bl b) (turnedL V k q b.size))[q]? = some (bl b)[q] := by
        rw [xorL_at _ _ _ hq1 hq2, hy0]
        congr 1
        simp
      have hcell : cellH h5 ⟨hp.size, 0 + Int.toNat (q : Int) * 1, none⟩ = some (.int .u8 ((bl b)[q].toNat : Int)) := by
        rw [Int.toNat_natCast, Nat.zero_add, Nat.mul_one, cellH_at hg4]
        have h6 : (cur'.toList.take b.size)[q]? = cur'[q]? := by rw [List.getElem?_take_of_lt hqb, Array.getElem?_toList]
        rw [← h6, htk4, byteVs, List.getElem?_map, hL]; rfl
      refine ⟨by decide, ((W % 256 : Nat) : Int), (Int.ofNat_tmod W 256).symm, ((UInt8.ofNat W).toNat : Int), by rw [hcN, wrapU8]; omega, hp.size, 0, rfl, by omega, by omega, _, cellsAt_one hcell, _, xor8b _ _, hp.size, 0, rfl, by omega, by omega, rfl,
        wrAt_of hg4 (by rw [Int.toNat_natCast]; omega) (by rw [Int.toNat_natCast]; omega), ?_⟩
      rintro h6 rfl
      have e0 : 0 + Int.toNat (q : Int) * 1 = q := by rw [Int.toNat_natCast]; omega
      rw [e0]
      refine ⟨someB (bytesN V (q + 1 - k)), ?_, by decide, ((V / 256 ^ (q + 1 - k) : Nat) : Int), ?_, _, incI (by omega), ⟨q + 1, layC cur' q [.int .u8 (((bl b)[q] ^^^ UInt8.ofNat W).toNat : Int)], by omega, by omega, rfl, setsH_at hg4, by rw [layC_size]; exact hcs4, ?_, setsH_ext hx4 hgx⟩, by simp only [numAt]; omega⟩
      · have e1 : bytesN V (q + 1 - k) = bytesN V (q - k) ++ [UInt8.ofNat W] := by
          rw [show q + 1 - k = (q - k) + 1 by omega, bytesN_add, ← hW]; rfl
        rw [e1, someB_snoc]
        refine ⟨fun ht => ⟨rfl, by rw [ht]; rfl⟩, fun ht => ⟨rfl, ?_⟩⟩
        rw [ht, Bool.false_or]
        apply decide_eq_decide.2
        constructor
        · intro h7
          have : (UInt8.ofNat W).toNat ≠ 0 := fun h8 => h7 (UInt8.toNat_inj.1 (by rw [h8]; rfl))
          omega
        · rintro h7 h8
          rw [h8] at h7
          simp at h7
      · have e2 : V / 256 ^ (q + 1 - k) = W / 256 := by
          rw [hW, Nat.div_div_eq_div_mul, show q + 1 - k = (q - k) + 1 by omega, Nat.pow_succ]
        have : Int.tdiv (W : Int) 256 = ((W / 256 : Nat) : Int) := (Int.ofNat_tdiv W 256).symm
        rw [e2, this, wrapU64]
        omega
      · simp only [layC, Array.toList_setIfInBounds, List.take_set, htk4]
        rw [← turnedL_step hkq hqb, ← hW, ← xorL_set hq1 hq2]
        simp only [byteVs, List.map_set]
  · rintro turned h7 ⟨cur', hl, hg7, hcs7, htk7, hx7⟩
    cases hl
    obtain ⟨D, hD⟩ : ∃ D, D = turnedL V k b.size b.size := ⟨_, rfl⟩
    have hDl : D.length = (bl b).length := by rw [hD, turnedL_length hkn (Nat.le_refl _), hlb]
    rw [← hD] at htk7
    refine sum_one b hb h7 (hh.ext hx7) fun h9 hx9 => ?_
    have hg9 : h9[hp.size]? = some (.cells cur' 5 (c, c + 1)) := (hx9.old _ (Array.getElem?_eq_some_iff.1 hg7).1).trans hg7
    have hLl : (xorL (bl b) D).length = b.size := by rw [xorL_length _ _ hDl.symm, hlb]
    have hseg : Seg h9 (some ⟨hp.size, 0, none⟩) b.size (byteVs (⟨(xorL (bl b) D).toArray⟩ : ByteArray).data.toList) := by
      refine ⟨by simp [byteVs, hLl], .inr ⟨_, _, rfl, cellsAt_of hg9 fun j hj => ?_⟩⟩
      have hj' : j < b.size := by simpa [byteVs, hLl] using hj
      have h6 : (cur'.toList.take b.size)[j]? = cur'[j]? := by rw [List.getElem?_take_of_lt hj', Array.getElem?_toList]
      rw [Nat.zero_add, ← h6, htk7]
      exact List.getElem?_eq_getElem hj
    refine semH_toText u35 u5 u9 hseg ⟨_, rfl, ?_⟩
    refine sum_one _ (by show Array.size _ ≤ _; rw [List.size_toArray, hLl]; exact hb) h9 (hh.ext (hx7.trans hx9)) fun h12 hx12 => ?_
    refine ⟨true, ⟨fun _ => ⟨_, eqv_bool u4 _ _, rfl, ?_⟩, fun hf => (by cases hf)⟩, rfl, (hx7.trans hx9).trans hx12⟩
    symm
    rw [beq_iff_eq]
    -- the sums are alike just where nothing is turned
    have hsum : sumB [b] = sumB [⟨(xorL (bl b) D).toArray⟩] ↔ takesB 0#32 D = 0#32 := by
      rw [sumB_one, sumB_one]
      have e : takesB (BitVec.allOnes 32) (bl (⟨(xorL (bl b) D).toArray⟩ : ByteArray)) = takesB (BitVec.allOnes 32) (bl b) ^^^ takesB 0#32 D := by
        have := takesB_lin (bl b) D (BitVec.allOnes 32) 0#32 hDl.symm
        rw [BitVec.xor_zero] at this
        exact this
      rw [e]
      generalize takesB (BitVec.allOnes 32) (bl b) = A
      constructor
      · intro h8
        have h9 := congrArg (fun x : W32 => A ^^^ ~~~x) h8
        simp only [BitVec.not_not, BitVec.xor_self, ← BitVec.xor_assoc, BitVec.zero_xor] at h9
        exact h9.symm
      · intro h8
        rw [h8, BitVec.xor_zero]
    have hD0 : takesB 0#32 D = 0#32 ↔ bytesN V (b.size - k) = List.replicate (b.size - k) 0 := by
      have : D = List.replicate k 0 ++ bytesN V (b.size - k) := by rw [hD]; unfold turnedL; simp
      rw [this, takes_zeros_ahead, hV]
      exact burst mask i _ (by omega)
    unfold someB
    apply decide_eq_decide.2
    rw [bytesN_length]
    apply not_congr
    rw [Int.natCast_inj, ← hD0, ← hsum]
    exact ⟨fun h8 => BitVec.eq_of_toNat_eq h8, fun h8 => by rw [h8]⟩

end Go.Vc
