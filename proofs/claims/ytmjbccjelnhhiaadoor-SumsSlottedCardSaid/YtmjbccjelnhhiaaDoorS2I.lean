/- Turns done many times: Join and Split; the law SumsJoins. -/
import Derived.Test.YtmjbccjelnhhiaaDoorS2D
set_option maxRecDepth 10000
namespace Go.Vc
open Go Go.Proofs Go.MapKept

/-- What becomes of the first 'k' bits of a register, when it is known what becomes of each. -/
def onK (t : List W32) (r : W32) : Nat → W32
  | 0 => 0#32
  | k + 1 => onK t r k ^^^ (bif r.getLsbD k then t.getD k 0#32 else 0#32)
def onB (t : List W32) (r : W32) : W32 := onK t r 32
def twiceB (t : List W32) : List W32 := t.map (onB t)

/-- The register behind the turns, done 'n' times. -/
def timesB (n : Nat) (t : List W32) (r : W32) : W32 :=
  if h : n = 0 then r else timesB (n / 2) (twiceB t) (if n % 2 = 1 then onB t r else r)
termination_by n
decreasing_by omega

theorem timesB_zero (t : List W32) (r : W32) : timesB 0 t r = r := by rw [timesB]; rfl
theorem timesB_pos {n : Nat} (h : 0 < n) (t : List W32) (r : W32) : timesB n t r = timesB (n / 2) (twiceB t) (if n % 2 = 1 then onB t r else r) := by
  rw [timesB, dif_neg (by omega)]

def eightB (f : W32 → W32) : List W32 := (List.range 32).map fun i => iter f 8 (1#32 <<< i)

/-- Words as numbers. -/
abbrev tv (t : List W32) : List Int := t.map fun x : W32 => (x.toNat : Int)

theorem bit_and (r : W32) (i : Nat) : (decide ((((r >>> i) &&& 1#32).toNat : Int) = (1 : Int))) = r.getLsbD i := by
  rw [BitVec.getLsbD, BitVec.toNat_and, BitVec.toNat_ushiftRight, show (1#32).toNat = 1 from rfl, Nat.and_one_is_mod, Nat.testBit_eq_decide_div_mod_eq, Nat.shiftRight_eq_div_pow]
  congr 1
  apply propext
  omega

theorem andI64_one (n : Nat) (h : n < 9223372036854775808) : andI .i64 (n : Int) (1 : Int) = ((n % 2 : Nat) : Int) := by
  unfold andI
  rw [show IntKind.i64.bits = 64 from rfl, show (1 : Int) = ((1 : Nat) : Int) from rfl, BitVec.ofInt_natCast, BitVec.ofInt_natCast, BitVec.toNat_and, BitVec.toNat_ofNat, BitVec.toNat_ofNat, Nat.mod_eq_of_lt (by omega : n < 2 ^ 64), Nat.mod_eq_of_lt (by decide : 1 < 2 ^ 64), Nat.and_one_is_mod]
  exact wrapI64 (by omega) (by omega)

theorem tv_at {t : List W32} {i : Nat} (hi : i < t.length) : ((tv t).map (Value.int .u32))[i]'(by simpa using hi) = vW (t.getD i 0#32) := by
  simp [List.getD, List.getElem?_eq_getElem hi]

theorem oneW (t : List Int) : ∀ c ∈ t.map (Value.int .u32), c.oneCell' = true := by
  intro v hv
  obtain ⟨_, _, rfl⟩ := List.mem_map.1 hv
  rfl

/-- turns.on -/
theorem on_44 (t : List W32) (ht : t.length = 32) (r : W32) (h : Hp) : CallsH Tryd.prog 44 #[.agg ((tv t).map (Value.int .u32)).toArray, vW r] h (RetX (vW (onB t r)) h) := by
  refine V44 (tv t) _ h _ ?_
  intro b hp hb hhp
  have hx : Ext h hp := by rw [hhp]; exact Ext.push _ _
  have hc : hp[b]? = some (.cells ((tv t).map (Value.int .u32)).toArray 64) := by rw [hhp, hb]; exact push_last
  refine ⟨fun l hq => hq = hp ∧ ∃ i : Nat, i ≤ 32 ∧ l = [vW (onK t r i), vI i], fun l _ => (32 - numAt l 1).toNat, ⟨rfl, 0, by decide, rfl⟩, ?_⟩
  rintro o x hp1 ⟨rfl, i, hi, hl⟩
  cases hl
  refine ⟨fun hlt => ?_, fun hge => ?_⟩
  · have hlt : i < 32 := by simp at hlt; omega
    refine ⟨by omega, _, shr32 r i (by omega), _, and32 _ 1#32, fun h1 => ?_, fun h0 => ?_⟩
    · rw [bit_and] at h1
      refine ⟨by omega, by omega, _, cellsAt_one (v := vW (t.getD i 0#32)) ?_, _, xor32 _ _, _, incI (by omega), ⟨rfl, i + 1, hlt, ?_⟩, by simp only [numAt]; omega⟩
      · rw [Int.toNat_natCast, Nat.zero_add, Nat.mul_one, cellH_at hc, List.getElem?_toArray, List.getElem?_eq_getElem (by simpa [ht] using hlt), tv_at (by omega)]
      · rw [onK, h1]; rfl
    · rw [bit_and] at h0
      refine ⟨_, incI (by omega), ⟨rfl, i + 1, hlt, ?_⟩, by simp only [numAt]; omega⟩
      rw [onK, h0, cond_false, BitVec.xor_zero]
  · have hi : i = 32 := by simp at hge; omega
    subst hi
    exact ⟨rfl, hx⟩

theorem zeros64 : zeros Tryd.prog 64 = ((tv (List.replicate 32 0#32)).map (Value.int .u32)).toArray := by kernel_rfl
theorem info64 : ∃ i z, Tryd.prog.info? 64 = some i ∧ i.zero = some z := by
  have h : ((Tryd.prog.info? 64).bind (·.zero)).isSome = true := by kernel_rfl
  obtain ⟨z, hz⟩ := Option.isSome_iff_exists.1 h
  obtain ⟨i, hi, hz⟩ := Option.bind_eq_some_iff.1 hz
  exact ⟨i, z, hi, hz⟩

/-- A block of words. -/
def Words (h : Hp) (b : Nat) (t : List W32) : Prop := h[b]? = some (.cells ((tv t).map (Value.int .u32)).toArray 64)

theorem Words.ext {h h' : Hp} {b : Nat} {t : List W32} (w : Words h b t) (x : Ext h h') : Words h' b t := (x.old b (Array.getElem?_eq_some_iff.1 w).1).trans w
theorem Words.all {h : Hp} {b : Nat} {t : List W32} (w : Words h b t) : cellsAt h b 0 ((tv t).map (Value.int .u32)) := cellsAt_all w
theorem Words.wr {h : Hp} {b : Nat} {t : List W32} (w : Words h b t) {o n : Nat} (hn : o + n ≤ t.length) : wrAt h b o n := wrAt_of w (by simpa using hn) (by omega)
theorem Words.set {h : Hp} {b : Nat} {t : List W32} (w : Words h b t) (i : Nat) (x : W32) : Words (setsH h b i [vW x]) b (t.set i x) := by
  refine (setsH_at w).trans ?_
  congr 2
  apply Array.toList_inj.1
  simp only [layC, List.setIfInBounds_toArray, tv, List.map_set]
theorem Words.over {h : Hp} {b : Nat} {t t' : List W32} (w : Words h b t) (hl : t'.length = t.length) : Words (setsH h b 0 ((tv t').map (Value.int .u32))) b t' := by
  refine (setsH_at w).trans ?_
  rw [layC_all (by simp [hl])]
theorem setsH_ext {h h' : Hp} (x : Ext h h') {b : Nat} (hb : h.size ≤ b) {o : Nat} {vs : List Value} : Ext h (setsH h' b o vs) :=
  ⟨by rw [setsH_size]; exact x.size, fun k hk => (setsH_ne (by omega)).trans (x.old k hk)⟩

/-- turns.twice -/
theorem twice_45 (t : List W32) (ht : t.length = 32) (h : Hp) : CallsH Tryd.prog 45 #[.agg ((tv t).map (Value.int .u32)).toArray] h (RetX (.agg ((tv (twiceB t)).map (Value.int .u32)).toArray) h) := by
  refine V45 (tv t) h _ ?_
  intro b hp hb hhp
  have hx : Ext h hp := by rw [hhp]; exact Ext.push _ _
  have hw : Words hp b t := by unfold Words; rw [hhp, hb]; exact push_last
  intro b1 hp1 hb1 hhp1
  have hx1 : Ext hp hp1 := by rw [hhp1]; exact Ext.push _ _
  have hw1 : Words hp1 b1 (List.replicate 32 0#32) := by unfold Words; rw [hhp1, hb1, ← zeros64]; exact push_last
  refine ⟨info64, ?_⟩
  intro b2 hp2 hb2 hhp2
  have hx2 : Ext hp1 hp2 := by rw [hhp2]; exact Ext.push _ _
  have hw2 : Words hp2 b2 (List.replicate 32 0#32) := by unfold Words; rw [hhp2, hb2, ← zeros64]; exact push_last
  have z : hp.size = h.size + 1 ∧ hp1.size = hp.size + 1 := by rw [hhp1, hhp]; simp
  refine ⟨info64, fun l hq => ∃ (i : Nat) (zs : List W32), i ≤ 32 ∧ l = [vI i] ∧ zs.length = 32 ∧ Words hq b t ∧ Words hq b1 (List.replicate 32 0#32) ∧ Words hq b2 zs ∧ (∀ j, j < i → zs[j]? = some (onB t (t.getD j 0#32))) ∧ Ext h hq,
    fun l _ => (32 - numAt l 0).toNat, ⟨0, List.replicate 32 0#32, by decide, rfl, by simp, (hw.ext hx1).ext hx2, hw1.ext hx2, hw2, fun j hj => by omega, (hx.trans hx1).trans hx2⟩, ?_⟩
  rintro x h3 ⟨i, zs, hi, hl, hz, ha, hb', hc, hj, hx3⟩
  cases hl
  refine ⟨fun hlt => ?_, fun hge => ?_⟩
  · have hlt : i < 32 := by simp at hlt; omega
    refine ⟨tv t, by simp [ht], ha.all, by omega, by omega, _, cellsAt_one (v := vW (t.getD i 0#32)) ?_, ?_⟩
    · rw [Int.toNat_natCast, Nat.zero_add, Nat.mul_one, cellH_at ha, List.getElem?_toArray, List.getElem?_eq_getElem (by simpa [ht] using hlt), tv_at (by omega)]
    refine (on_44 t ht _ h3).mono ?_
    rintro e h4 ⟨rfl, hx4⟩
    refine ⟨_, rfl, by omega, by omega, rfl, (hc.ext hx4).wr (by rw [Int.toNat_natCast]; omega), ?_⟩
    rintro h5 rfl
    have e0 : 0 + Int.toNat (i : Int) * 1 = i := by rw [Int.toNat_natCast]; omega
    rw [e0]
    refine ⟨_, incI (by omega), ⟨i + 1, zs.set i (onB t (t.getD i 0#32)), hlt, rfl, by simp [hz], (setsH_ne (by omega)).trans (ha.ext hx4), (setsH_ne (by omega)).trans (hb'.ext hx4), (hc.ext hx4).set i _, fun j hj' => ?_, setsH_ext (hx3.trans hx4) (by omega)⟩, by simp only [numAt]; omega⟩
    rw [List.getElem?_set]
    by_cases hij : i = j
    · subst hij; rw [if_pos rfl, if_pos (by omega)]
    · rw [if_neg hij]; exact hj j (by omega)
  · have hi : i = 32 := by simp at hge; omega
    subst hi
    have hzs : zs = twiceB t := by
      apply List.ext_getElem?
      intro j
      by_cases hj32 : j < 32
      · rw [hj j hj32, twiceB, List.getElem?_map, List.getElem?_eq_getElem (by omega)]
        simp [List.getD, List.getElem?_eq_getElem (show j < t.length by omega)]
      · rw [List.getElem?_eq_none (by omega), List.getElem?_eq_none (by simp [twiceB]; omega)]
    subst hzs
    refine ⟨tv (twiceB t), by simp [twiceB, ht], hc.all, by simp [twiceB, ht], oneW _, hb'.wr (by simp), ?_⟩
    rintro h6 rfl
    exact ⟨tv (twiceB t), by simp [twiceB, ht], (hb'.over (by simp [twiceB, ht])).all, rfl, setsH_ext hx3 (by omega)⟩

/-- turns.times -/
theorem times_40 (t : List W32) (ht : t.length = 32) (r : W32) (n : Nat) (hn : n < 9223372036854775808) (h : Hp) : CallsH Tryd.prog 40 #[.agg ((tv t).map (Value.int .u32)).toArray, vW r, vI n] h (RetX (vW (timesB n t r)) h) := by
  refine V40 (tv t) _ _ h _ ?_
  intro b hp hb hhp
  have hx : Ext h hp := by rw [hhp]; exact Ext.push _ _
  have hw : Words hp b t := by unfold Words; rw [hhp, hb]; exact push_last
  refine ⟨fun l hq => ∃ (t' : List W32) (r' : W32) (n' : Nat), l = [vW r', vI n'] ∧ n' < 9223372036854775808 ∧ t'.length = 32 ∧ Words hq b t' ∧ timesB n' t' r' = timesB n t r ∧ Ext h hq, fun l _ => (numAt l 1).toNat, ⟨t, r, n, rfl, hn, ht, hw, rfl, hx⟩, ?_⟩
  rintro r1 n1 h1 ⟨t', r', n', hl, hn', ht', hw', he, hx'⟩
  cases hl
  refine ⟨fun hpos => ?_, fun hz => ?_⟩
  · have hpos : 0 < n' := by simp at hpos; omega
    have ht2 : (twiceB t').length = 32 := by simp [twiceB, ht']
    rw [timesB_pos hpos] at he
    refine ⟨_, andI64_one n' hn', fun h1' => ?_, fun h0' => ?_⟩
    · have hodd : n' % 2 = 1 := by simp at h1'; omega
      rw [if_pos hodd] at he
      refine ⟨tv t', by simp [ht'], hw'.all, (on_44 t' ht' r' h1).mono ?_⟩
      rintro e h2 ⟨rfl, hx2⟩
      refine ⟨_, rfl, tv t', by simp [ht'], (hw'.ext hx2).all, (twice_45 t' ht' h2).mono ?_⟩
      rintro e h3 ⟨rfl, hx3⟩
      refine ⟨tv (twiceB t'), by simp [ht2], rfl, by simp [ht2], oneW _, ((hw'.ext hx2).ext hx3).wr (by omega), ?_⟩
      rintro h4 rfl
      refine ⟨by decide, ((n' / 2 : Nat) : Int), by rw [show (1 : Int) = ((1 : Nat) : Int) from rfl, shr_nat .i64 n' 1 (by decide), Nat.shiftRight_eq_div_pow], ⟨twiceB t', _, n' / 2, rfl, by omega, ht2, ((hw'.ext hx2).ext hx3).over (by omega), he, setsH_ext ((hx'.trans hx2).trans hx3) (by omega)⟩, by simp only [numAt]; omega⟩
    · have hev : ¬ n' % 2 = 1 := by simp at h0'; omega
      rw [if_neg hev] at he
      refine ⟨tv t', by simp [ht'], hw'.all, (twice_45 t' ht' h1).mono ?_⟩
      rintro e h3 ⟨rfl, hx3⟩
      refine ⟨tv (twiceB t'), by simp [ht2], rfl, by simp [ht2], oneW _, (hw'.ext hx3).wr (by omega), ?_⟩
      rintro h4 rfl
      refine ⟨by decide, ((n' / 2 : Nat) : Int), by rw [show (1 : Int) = ((1 : Nat) : Int) from rfl, shr_nat .i64 n' 1 (by decide), Nat.shiftRight_eq_div_pow], ⟨twiceB t', _, n' / 2, rfl, by omega, ht2, (hw'.ext hx3).over (by omega), he, setsH_ext (hx'.trans hx3) (by omega)⟩, by simp only [numAt]; omega⟩
  · have hz : n' = 0 := by simp at hz; omega
    subst hz
    rw [timesB_zero] at he
    exact ⟨by rw [he], hx'⟩

theorem shl_one (i : Nat) (hi : i ≤ 32) : shlI .u32 (1 : Int) (i : Int) = ((1#32 <<< i).toNat : Int) := shl32 1#32 i hi

/-- sums.eight, of a turn of a kind. -/
theorem eight_38 (g : FuncId) (f : W32 → W32) (hb : bodied Tryd.prog g = true) (hg : ∀ (r : W32) (h : Hp), CallsH Tryd.prog g #[vW r] h (Ret (vW (f r)) h)) (h : Hp) :
    CallsH Tryd.prog 38 #[.func (.func g) #[] #[]] h (RetX (.agg ((tv (eightB f)).map (Value.int .u32)).toArray) h) := by
  refine V38 _ h _ ?_
  intro b hp hb0 hhp
  have hx : Ext h hp := by rw [hhp]; exact Ext.push _ _
  have hw : Words hp b (List.replicate 32 0#32) := by unfold Words; rw [hhp, hb0, ← zeros64]; exact push_last
  refine ⟨info64, ?_⟩
  intro b1 hp1 hb1 hhp1
  have hx1 : Ext hp hp1 := by rw [hhp1]; exact Ext.push _ _
  have hw1 : Words hp1 b1 (List.replicate 32 0#32) := by unfold Words; rw [hhp1, hb1, ← zeros64]; exact push_last
  have z : hp.size = h.size + 1 := by rw [hhp]; simp
  refine ⟨info64, fun l hq => ∃ (i : Nat) (zs : List W32), i ≤ 32 ∧ l = [vI i] ∧ zs.length = 32 ∧ Words hq b (List.replicate 32 0#32) ∧ Words hq b1 zs ∧ (∀ j, j < i → zs[j]? = some (iter f 8 (1#32 <<< j))) ∧ Ext h hq,
    fun l _ => (32 - numAt l 0).toNat, ⟨0, List.replicate 32 0#32, by decide, rfl, by simp, hw.ext hx1, hw1, fun j hj => by omega, hx.trans hx1⟩, ?_⟩
  rintro x h3 ⟨i, zs, hi, hl, hz, ha, hc, hj, hx3⟩
  cases hl
  refine ⟨fun hlt => ?_, fun hge => ?_⟩
  · have hlt : i < 32 := by simp at hlt; omega
    refine ⟨by omega, _, shl_one i hi, fun l hq => hq = h3 ∧ ∃ k : Nat, k ≤ 8 ∧ l = [vW (iter f k (1#32 <<< i)), vI k], fun l _ => (8 - numAt l 1).toNat, ⟨rfl, 0, by decide, rfl⟩, ?_⟩
    rintro r k h4 ⟨rfl, k, hk, hl⟩
    cases hl
    refine ⟨fun hck => ?_, fun hck => ?_⟩
    · have hck : k < 8 := by simp at hck; omega
      refine ⟨g, #[], #[], rfl, hb, (hg _ h4).mono ?_⟩
      rintro e h5 ⟨rfl, rfl⟩
      exact ⟨_, rfl, _, incI (by omega), ⟨rfl, k + 1, hck, by rw [iter_succ']⟩, by simp only [numAt]; omega⟩
    · have hck : k = 8 := by simp at hck; omega
      subst hck
      refine ⟨by omega, by omega, rfl, hc.wr (by rw [Int.toNat_natCast]; omega), ?_⟩
      rintro h5 rfl
      have e0 : 0 + Int.toNat (i : Int) * 1 = i := by rw [Int.toNat_natCast]; omega
      rw [e0]
      refine ⟨_, incI (by omega), ⟨i + 1, zs.set i (iter f 8 (1#32 <<< i)), hlt, rfl, by simp [hz], (setsH_ne (by omega)).trans ha, hc.set i _, fun j hj' => ?_, setsH_ext hx3 (by omega)⟩, by simp only [numAt]; omega⟩
      rw [List.getElem?_set]
      by_cases hij : i = j
      · subst hij; rw [if_pos rfl, if_pos (by omega)]
      · rw [if_neg hij]; exact hj j (by omega)
  · have hi : i = 32 := by simp at hge; omega
    subst hi
    have hzs : zs = eightB f := by
      apply List.ext_getElem?
      intro j
      by_cases hj32 : j < 32
      · rw [hj j hj32, eightB, List.getElem?_map, List.getElem?_range hj32]; rfl
      · rw [List.getElem?_eq_none (by omega), List.getElem?_eq_none (by simp [eightB]; omega)]
    refine ⟨tv zs, by simp [hz], hc.all, by simp [hz], oneW _, ha.wr (by simp), ?_⟩
    rintro h6 rfl
    exact ⟨tv zs, by simp [hz], (ha.over (by simp [hz])).all, by rw [hzs], setsH_ext hx3 (by omega)⟩

/-- sums.Join -/
theorem join_28 (a b : W32) (n : Int) (h0 : 0 ≤ n) (h1 : n < 9223372036854775808) (h : Hp) : CallsH Tryd.prog 28 #[vW a, vW b, .int .i64 n] h (RetX (.tuple #[vW (timesB n.toNat (eightB turnB) a ^^^ b), .int .i64 0]) h) := by
  refine V28 _ _ _ h _ ⟨fun hn => by simp at hn; omega, fun _ => (eight_38 41 turnB (by kernel_rfl) ahead_41 h).mono ?_⟩
  rintro e h2 ⟨rfl, hx2⟩
  refine ⟨tv (eightB turnB), by simp [eightB], rfl, ?_⟩
  obtain ⟨m, rfl⟩ := Int.eq_ofNat_of_zero_le h0
  refine (times_40 (eightB turnB) (by simp [eightB]) a m (by omega) h2).mono ?_
  rintro e h3 ⟨rfl, hx3⟩
  exact ⟨_, rfl, _, xor32 _ _, rfl, hx2.trans hx3⟩

/-- sums.Split -/
theorem split_29 (a b : W32) (n : Int) (h0 : 0 ≤ n) (h1 : n < 9223372036854775808) (h : Hp) : CallsH Tryd.prog 29 #[vW a, vW b, .int .i64 n] h (RetX (.tuple #[vW (timesB n.toNat (eightB undoB) (a ^^^ b)), .int .i64 0]) h) := by
  refine V29 _ _ _ h _ ⟨fun hn => by simp at hn; omega, fun _ => (eight_38 39 undoB (by kernel_rfl) back_39 h).mono ?_⟩
  rintro e h2 ⟨rfl, hx2⟩
  refine ⟨tv (eightB undoB), by simp [eightB], rfl, _, xor32 _ _, ?_⟩
  obtain ⟨m, rfl⟩ := Int.eq_ofNat_of_zero_le h0
  refine (times_40 (eightB undoB) (by simp [eightB]) (a ^^^ b) m (by omega) h2).mono ?_
  rintro e h3 ⟨rfl, hx3⟩
  exact ⟨_, rfl, rfl, hx2.trans hx3⟩

theorem row70 : RowT Tryd.prog 70 22 1 4 := RowT.of (by kernel_rfl)

theorem mod_odd (r : W32) (i : Nat) : (decide ((((r >>> i) % 2#32).toNat : Int) = (1 : Int))) = r.getLsbD i := by
  rw [BitVec.getLsbD, BitVec.toNat_umod, BitVec.toNat_ushiftRight, show (2#32).toNat = 2 from rfl, Nat.testBit_eq_decide_div_mod_eq, Nat.shiftRight_eq_div_pow]
  congr 1
  apply propext
  omega

theorem shr_half (r : W32) (i : Nat) : (r >>> i) / 2#32 = r >>> (i + 1) := by
  rw [div_shift _ 1 2#32 rfl, BitVec.shiftRight_add]

/-- turnoutref02.of -/
theorem of_47 (t : List W32) (ht : t.length = 32) (r : W32) (h : Hp) {p : Option Addr} {n c : Nat} (hs : Seg h p n ((tv t).map (Value.int .u32))) : CallsH Tryd.prog 47 #[.slice p n c, vW r] h (Ret (vW (onB t r)) h) := by
  refine V47 _ _ _ _ h _ ⟨fun l hq => hq = h ∧ ∃ i : Nat, i ≤ 32 ∧ l = [vW (r >>> i), vW (onK t r i), vI i], fun l _ => (32 - numAt l 2).toNat, ⟨rfl, 0, by decide, by rw [BitVec.ushiftRight_zero]; rfl⟩, ?_⟩
  rintro r1 o x hp1 ⟨rfl, i, hi, hl⟩
  cases hl
  refine ⟨fun hlt => ?_, fun hge => ?_⟩
  · have hlt : i < 32 := by simp at hlt; omega
    refine ⟨by decide, _, mod32 _ 2#32, fun h1 => ?_, fun h0 => ?_⟩
    · rw [mod_odd] at h1
      refine hs.num (i := i) (by simpa [ht] using hlt) ?_
      rw [List.getElem_map]
      refine ⟨_, xor32 _ _, by decide, _, div32 _ 2#32, _, incI (by omega), ⟨rfl, i + 1, hlt, ?_⟩, by simp only [numAt]; omega⟩
      rw [onK, h1, shr_half, cond_true]
      simp [List.getD, List.getElem?_eq_getElem (show i < t.length by omega)]
    · rw [mod_odd] at h0
      refine ⟨by decide, _, div32 _ 2#32, _, incI (by omega), ⟨rfl, i + 1, hlt, ?_⟩, by simp only [numAt]; omega⟩
      rw [onK, h0, shr_half, cond_false, BitVec.xor_zero]
  · have hi : i = 32 := by simp at hge; omega
    subst hi
    exact ⟨rfl, rfl⟩

theorem shl_double (i : Nat) : 2#32 * (1#32 <<< i) = 1#32 <<< (i + 1) := by
  rw [BitVec.shiftLeft_add, BitVec.shiftLeft_eq_mul_twoPow (1#32 <<< i) 1, BitVec.mul_comm]; rfl

/-- turnoutref02.far -/
theorem far_42 (r : W32) (n : Nat) (hn : n < 9223372036854775808) (back : Bool) (h : Hp) :
    CallsH Tryd.prog 42 #[vW r, vI n, .bool back] h (RetX (vW (timesB n (eightB (if back then undoB else turnB)) r)) h) := by
  refine V42 _ _ _ h _ ?_
  generalize hf : (if back then undoB else turnB) = f
  refine ⟨fun l hq => ∃ (i : Nat) (p : Option Addr) (c : Nat), i ≤ 32 ∧ l = [.slice p i c, vW (1#32 <<< i), vI i] ∧ Own hq h.size 22 1 (.slice p i c) i ((tv ((eightB f).take i)).map (Value.int .u32)) ∧ Ext h hq,
    fun l _ => (32 - numAt l 2).toNat, ⟨0, none, 0, by decide, rfl, Own.nil _ _ _ _, Ext.refl h⟩, ?_⟩
  rintro p n1 c one x hp ⟨i, p', c', hi, hl, ho, hx⟩
  cases hl
  refine ⟨fun hlt => ?_, fun hge => ?_⟩
  · have hlt : n1 < 32 := by simp at hlt; omega
    refine ⟨fun l hq => hq = hp ∧ ∃ k : Nat, k ≤ 8 ∧ l = [vW (iter f k (1#32 <<< n1)), vI k], fun l _ => (8 - numAt l 1).toNat, ⟨rfl, 0, by decide, rfl⟩, ?_⟩
    rintro x k h1 ⟨rfl, k, hk, hl⟩
    cases hl
    refine ⟨fun hck => ?_, fun hck => ?_⟩
    · have hck : k < 8 := by simp at hck; omega
      refine ⟨fun hbk => ?_, fun hbk => ?_⟩
      · refine (undone_46 _ h1).mono ?_
        rintro e h2 ⟨rfl, rfl⟩
        refine ⟨_, rfl, _, incI (by omega), ⟨rfl, k + 1, hck, ?_⟩, by simp only [numAt]; omega⟩
        rw [iter_succ', ← hf, hbk]; rfl
      · refine (turn_43 _ h1).mono ?_
        rintro e h2 ⟨rfl, rfl⟩
        refine ⟨_, rfl, _, incI (by omega), ⟨rfl, k + 1, hck, ?_⟩, by simp only [numAt]; omega⟩
        rw [iter_succ', ← hf, hbk]; rfl
    · have hck : k = 8 := by simp at hck; omega
      subst hck
      refine semH_push row70 ho (vs := [vW (iter f 8 (1#32 <<< n1))]) (m := 1) rfl rfl (by simp) (by simp) (by simp [Value.oneCell']) (by omega) (by simp only [maxLen]; omega) hx.size fun p2 c2 h2 ho2 hg2 _ _ => ?_
      refine ⟨_, mul32 2#32 _, _, incI (by omega), ⟨n1 + 1, p2, c2, hlt, by rw [shl_double], ?_, hx.own ho (Nat.le_refl _) hg2⟩, by simp only [numAt]; omega⟩
      have e : (eightB f).take (n1 + 1) = (eightB f).take n1 ++ [iter f 8 (1#32 <<< n1)] := by
        rw [take_one (by simpa [eightB] using hlt)]
        simp [eightB]
      rw [e, tv, List.map_append, List.map_append]
      exact ho2
  · have hi : n1 = 32 := by simp at hge; omega
    subst hi
    have e32 : (eightB f).take 32 = eightB f := List.take_of_length_le (by simp [eightB])
    rw [e32] at ho
    refine ⟨fun l hq => ∃ (t' : List W32) (r' : W32) (n' : Nat) (p' : Option Addr) (c' : Nat), l = [vW r', vI n', .slice p' 32 c'] ∧ n' < 9223372036854775808 ∧ t'.length = 32 ∧ Own hq h.size 22 1 (.slice p' 32 c') 32 ((tv t').map (Value.int .u32)) ∧ timesB n' t' r' = timesB n (eightB f) r ∧ Ext h hq,
      fun l _ => (numAt l 1).toNat, ⟨eightB f, r, n, p, c, rfl, hn, by simp [eightB], ho, rfl, hx⟩, ?_⟩
    rintro r1 n1 p1 m1 c1 h1 ⟨t', r', n', p', c', hl, hn', ht', ho', he, hx'⟩
    cases hl
    refine ⟨fun hpos => ?_, fun hz => ?_⟩
    · have hpos : 0 < n' := by simp at hpos; omega
      rw [timesB_pos hpos] at he
      refine ⟨fun l hq => hq = h1 ∧ l = [vW (if n' % 2 = 1 then onB t' r' else r')], ?_, ?_⟩
      · refine ⟨by decide, ((n' % 2 : Nat) : Int), (Int.ofNat_tmod n' 2).symm, fun ho1 => ?_, fun he1 => ?_⟩
        · have hodd : n' % 2 = 1 := by simp at ho1; omega
          refine (of_47 t' ht' r' h1 ho'.seg).mono ?_
          rintro e h2 ⟨rfl, rfl⟩
          exact ⟨_, rfl, rfl, by rw [if_pos hodd]⟩
        · have hev : ¬ n' % 2 = 1 := by simp at he1; omega
          exact ⟨rfl, by rw [if_neg hev]⟩
      · rintro r2 h2 ⟨rfl, hl⟩
        cases hl
        refine ⟨fun l hq => ∃ (i : Nat) (p : Option Addr) (c : Nat), i ≤ 32 ∧ l = [.slice p i c, vI i] ∧ Own hq h2.size 22 1 (.slice p i c) i ((tv ((twiceB t').take i)).map (Value.int .u32)) ∧ Ext h2 hq,
          fun l _ => (32 - numAt l 1).toNat, ⟨0, none, 0, by decide, rfl, Own.nil _ _ _ _, Ext.refl h2⟩, ?_⟩
        rintro p3 n3 c3 x h3 ⟨i, p', c', hi, hl, ho3, hx3⟩
        cases hl
        refine ⟨fun hlt => ?_, fun hge => ?_⟩
        · have hlt : n3 < 32 := by simp at hlt; omega
          refine (ho'.ext hx3).seg.num (i := n3) (by simpa [ht'] using hlt) ?_
          rw [List.getElem_map]
          refine (of_47 t' ht' _ h3 (ho'.ext hx3).seg).mono ?_
          rintro e h4 ⟨rfl, rfl⟩
          refine ⟨_, rfl, semH_push row70 ho3 (vs := [vW (onB t' t'[n3])]) (m := 1) rfl rfl (by simp) (by simp) (by simp [Value.oneCell']) (by omega) (by simp only [maxLen]; omega) hx3.size fun p5 c5 h5 ho5 hg5 _ _ => ?_⟩
          refine ⟨_, incI (by omega), ⟨n3 + 1, p5, c5, hlt, rfl, ?_, hx3.own ho3 (Nat.le_refl _) hg5⟩, by simp only [numAt]; omega⟩
          have e : (twiceB t').take (n3 + 1) = (twiceB t').take n3 ++ [onB t' t'[n3]] := by
            rw [take_one (by simpa [twiceB, ht'] using hlt)]
            simp [twiceB]
          rw [e, tv, List.map_append, List.map_append]
          exact ho5
        · have hi : n3 = 32 := by simp at hge; omega
          subst hi
          have e32 : (twiceB t').take 32 = twiceB t' := List.take_of_length_le (by simp [twiceB, ht'])
          rw [e32] at ho3
          refine ⟨by decide, ((n' / 2 : Nat) : Int), ?_, ⟨twiceB t', _, n' / 2, p3, c3, rfl, by omega, by simp [twiceB, ht'], ho3.mono hx'.size, he, hx'.trans hx3⟩, by simp only [numAt]; omega⟩
          have : Int.tdiv (n' : Int) 2 = ((n' / 2 : Nat) : Int) := (Int.ofNat_tdiv n' 2).symm
          rw [this, wrapI64] <;> omega
    · have hz : n' = 0 := by simp at hz; omega
      subst hz
      rw [timesB_zero] at he
      exact ⟨by rw [he], hx'⟩

/-- turnoutref02.Join -/
theorem join_30 (a b : W32) (n : Int) (h0 : 0 ≤ n) (h1 : n < 9223372036854775808) (h : Hp) : CallsH Tryd.prog 30 #[vW a, vW b, .int .i64 n] h (RetX (.tuple #[vW (timesB n.toNat (eightB turnB) a ^^^ b), .int .i64 0]) h) := by
  obtain ⟨m, rfl⟩ := Int.eq_ofNat_of_zero_le h0
  refine V30 _ _ _ h _ ⟨fun hn => by simp at hn; omega, fun _ => (far_42 a m (by omega) false h).mono ?_⟩
  rintro e h2 ⟨rfl, hx2⟩
  exact ⟨_, rfl, _, xor32 _ _, rfl, hx2⟩

/-- turnoutref02.Split -/
theorem split_31 (a b : W32) (n : Int) (h0 : 0 ≤ n) (h1 : n < 9223372036854775808) (h : Hp) : CallsH Tryd.prog 31 #[vW a, vW b, .int .i64 n] h (RetX (.tuple #[vW (timesB n.toNat (eightB undoB) (a ^^^ b)), .int .i64 0]) h) := by
  obtain ⟨m, rfl⟩ := Int.eq_ofNat_of_zero_le h0
  refine V31 _ _ _ h _ ⟨fun hn => by simp at hn; omega, fun _ => ⟨_, xor32 _ _, (far_42 (a ^^^ b) m (by omega) true h).mono ?_⟩⟩
  rintro e h2 ⟨rfl, hx2⟩
  exact ⟨_, rfl, rfl, hx2⟩

/-- turnoutlaw02.SumsJoins -/
theorem law_10 (a b : W32) (n : Int) (hlo : -9223372036854775808 ≤ n) (hhi : n ≤ 9223372036854775807) (h : Hp) (hh : Halves h) : CallsH Tryd.prog 10 #[vW a, vW b, .int .i64 n] h (RetX (.bool true) h) := by
  have _ := hlo
  refine V10 _ _ _ h _ ((live_12 h hh).mono ?_)
  rintro e h1 ⟨rfl, hx1⟩
  refine ⟨_, rfl, ?_⟩
  rcases Int.lt_or_le n 0 with hneg | h0
  · refine (V28 _ _ _ h1 (RetX (.tuple #[.int .u32 0, .int .i64 1]) h1) ⟨fun _ => ⟨rfl, Ext.refl _⟩, fun hp => by simp at hp; omega⟩).mono ?_
    rintro e h2 ⟨rfl, hx2⟩
    refine ⟨_, _, rfl, (V29 _ _ _ h2 (RetX (.tuple #[.int .u32 0, .int .i64 1]) h2) ⟨fun _ => ⟨rfl, Ext.refl _⟩, fun hp => by simp at hp; omega⟩).mono ?_⟩
    rintro e h3 ⟨rfl, hx3⟩
    refine ⟨_, _, rfl, (V30 _ _ _ h3 (RetX (.tuple #[.int .u32 0, .int .i64 1]) h3) ⟨fun _ => ⟨rfl, Ext.refl _⟩, fun hp => by simp at hp; omega⟩).mono ?_⟩
    rintro e h4 ⟨rfl, hx4⟩
    refine ⟨_, _, rfl, (V31 _ _ _ h4 (RetX (.tuple #[.int .u32 0, .int .i64 1]) h4) ⟨fun _ => ⟨rfl, Ext.refl _⟩, fun hp => by simp at hp; omega⟩).mono ?_⟩
    rintro e h5 ⟨rfl, hx5⟩
    exact ⟨_, _, rfl, true, ⟨fun _ => ⟨fun _ => ⟨fun _ => ⟨fun _ => ⟨rfl, by simp⟩, fun hf => (by simp at hf)⟩, fun hf => (by simp at hf)⟩, fun hf => (by simp at hf)⟩, fun hf => (by cases hf)⟩, rfl, (((hx1.trans hx2).trans hx3).trans hx4).trans hx5⟩
  · refine (join_28 a b n h0 (by omega) h1).mono ?_
    rintro e h2 ⟨rfl, hx2⟩
    refine ⟨_, _, rfl, (split_29 a b n h0 (by omega) h2).mono ?_⟩
    rintro e h3 ⟨rfl, hx3⟩
    refine ⟨_, _, rfl, (join_30 a b n h0 (by omega) h3).mono ?_⟩
    rintro e h4 ⟨rfl, hx4⟩
    refine ⟨_, _, rfl, (split_31 a b n h0 (by omega) h4).mono ?_⟩
    rintro e h5 ⟨rfl, hx5⟩
    exact ⟨_, _, rfl, true, ⟨fun _ => ⟨fun _ => ⟨fun _ => ⟨fun _ => ⟨rfl, by simp⟩, fun hf => (by simp at hf)⟩, fun hf => (by simp at hf)⟩, fun hf => (by simp at hf)⟩, fun hf => (by cases hf)⟩, rfl, (((hx1.trans hx2).trans hx3).trans hx4).trans hx5⟩

end Go.Vc
