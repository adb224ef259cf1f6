import Derived.Test.YthkbecpgbjejkaaDoorS9WWrI
import Derived.Test.YthkbecpgbjejkaaDoorS9WWlT
set_option maxRecDepth 10000
/- The log's laws: any calls over two disks. -/
namespace Go.Vc
open Go Go.Proofs Go.MapKept

theorem rowPs : RowT Tryd.prog 79 61 1 8 := RowT.of (by kernel_rfl)

structure WOpX where
  o : WOp
  p : Option Addr
  k : Nat
  c : Nat
def wopV (x : WOpX) : List Value := wopL x.o x.p x.k x.c
structure WOpX.Ok (x : WOpX) (h : Hp) : Prop where
  o : x.o.Ok
  seg : SegS h x.p x.k 2 (x.o.fates.map fateV)

section
variable {C : Nat → Prop} {h hq hs h3 h5 : Hp} {s N M k c : Nat} {p : Option Addr} {a0 a1 : Addr} {ss : List Nat}

theorem Sd.told (S : Sd C h s N) : CallsH Tryd.prog 36 #[vP s] h fun e hs => Ext h hs ∧ e = .returned (.bool true) := by
  obtain ⟨_, _, _, _, _, _, _, _, _, S, _⟩ := S
  exact told_c S
theorem Sd.lies (S : Sd C h s N) (hN : N ≤ 2000000000000) : CallsH Tryd.prog 37 #[vP s] h fun e hs => Ext h hs ∧ e = .returned (.bool true) := by
  obtain ⟨_, _, _, _, _, _, _, _, _, S, b⟩ := S
  exact lies_c S b hN
theorem Sd.play (S : Sd C h s N) (g : Gl C h a0 a1) (hN : N ≤ 1900000000000) (x : WOpX) (ok : x.Ok h) (hB : ∀ b o', x.p = some ⟨b, o', none⟩ → x.o.fates ≠ [] → ¬ C b) : CallsH Tryd.prog 35 #[vP s, .agg (wopV x).toArray] h (PlayT C h s (N + 1)) := by
  obtain ⟨_, _, _, _, _, _, _, _, _, S, b⟩ := S
  exact play_c S g b hN x.o ok.o ok.seg hB

/-- The sides. -/
structure Sides (h hq : Hp) (N k : Nat) (ss : List Nat) (p : Option Addr) (c : Nat) : Prop where
  x : Ext h hq
  own : Own hq h.size 61 1 (.slice p k c) k (ss.map vP)
  len : ss.length = k
  sides : ∃ A : Nat → Nat → Prop, (∀ i (hi : i < ss.length), Sd (A i) hq ss[i] N) ∧ (∀ i j b, i < ss.length → j < ss.length → A i b → A j b → i = j) ∧
    (∀ i b, i < ss.length → A i b → h.size ≤ b ∧ (Value.slice p k c).ownBlock ≠ some b)

theorem Sides.ext (R : Sides h hq N k ss p c) (x : Ext hq hs) : Sides h hs N k ss p c := by
  obtain ⟨x0, own, len, A, h1, h2, h3⟩ := R
  exact ⟨x0.trans x, own.ext x, len, A, fun i hi => (h1 i hi).ext x, h2, h3⟩

theorem Sides.at (R : Sides h hq N k ss p c) {j : Nat} (hj : j < ss.length) : ∃ b o, p = some ⟨b, o, none⟩ ∧ 0 ≤ (j : Int) ∧ (j : Int) < k ∧ cellsAt hq b (o + Int.toNat (j : Int) * 1) [vP ss[j]] := by
  obtain ⟨b, o, hp, hc⟩ := R.own.seg.at (i := j) (by simpa using hj)
  have := R.len
  exact ⟨b, o, hp, by omega, by omega, by simpa using hc⟩

theorem Sides.get (R : Sides h hq N k ss p c) {j : Nat} (hj : j < ss.length) : ∃ Aj, Sd Aj hq ss[j] N ∧ (∀ b, Aj b → h.size ≤ b) ∧ ∀ C' hs M, N ≤ M → Sd C' hs ss[j] M → Kp Aj hq C' hs → Sides h hs M k ss p c := by
  obtain ⟨x, own, len, A, h1, h2, h3⟩ := R
  refine ⟨A j, h1 j hj, fun b hb => (h3 j b hj hb).1, fun C' hs M hM T K => ?_⟩
  have hsz := K.1
  have inC : ∀ b, C' b → A j b ∨ hq.size ≤ b := fun b hb => by
    by_cases hl : b < hq.size
    · left
      by_cases hc : A j b
      · exact hc
      · exact ((K.2 b hl hc).1 hb).elim
    · right; omega
  have sx := x.size
  refine ⟨⟨by omega, fun b hb => (K.2 b (by omega) fun hc => by have := (h3 j b hj hc).1; omega).2.trans (x.old b hb)⟩, own.keep fun b hb => (K.2 b (own.lt hb).2 fun hc => (h3 j b hj hc).2 hb).2, len, fun i => if i = j then C' else A i, ?_, ?_, ?_⟩
  · intro i hi
    by_cases e : i = j
    · subst e
      simp only [if_true]
      exact T
    · simp only [if_neg e]
      exact ((h1 i hi).keep hsz fun b hb => (K.2 b ((h1 i hi).lt b hb) fun hc => e (h2 i j b hi hj hb hc)).2).more hM
  · intro i m b hi hm hb1 hb2
    by_cases e : i = j
    · by_cases e' : m = j
      · rw [e, e']
      · simp only [if_pos e, if_neg e'] at hb1 hb2
        have := (h1 m hm).lt b hb2
        rcases inC b hb1 with hb1 | hb1
        · exact (e' (h2 m j b hm hj hb2 hb1)).elim
        · omega
    · by_cases e' : m = j
      · simp only [if_neg e, if_pos e'] at hb1 hb2
        have := (h1 i hi).lt b hb1
        rcases inC b hb2 with hb2 | hb2
        · exact (e (h2 i j b hi hj hb1 hb2)).elim
        · omega
      · simp only [if_neg e, if_neg e'] at hb1 hb2
        exact h2 i m b hi hm hb1 hb2
  · intro i b hi hb
    by_cases e : i = j
    · simp only [if_pos e] at hb
      rcases inC b hb with hb | hb
      · exact h3 j b hj hb
      · exact ⟨by omega, fun e2 => by have := (own.lt e2).2; omega⟩
    · simp only [if_neg e] at hb
      exact h3 i b hi hb

theorem Sides.next (R : Sides h hq N k ss p c) {An : Nat → Prop} (x3 : Ext hq h3) (T : Sd An h3 s N) (hA : ∀ b, An b → hq.size ≤ b)
    {p5 : Option Addr} {c5 : Nat} (o5 : Own h5 h.size 61 1 (.slice p5 (k + 1) c5) (k + 1) (ss.map vP ++ [vP s])) (g5 : Grown h3 h5 (Value.slice p k c).ownBlock) (hb5 : (Value.slice p5 (k + 1) c5).ownBlock = (Value.slice p k c).ownBlock ∨ ∃ b, (Value.slice p5 (k + 1) c5).ownBlock = some b ∧ h3.size ≤ b) :
    Sides h h5 N (k + 1) (ss ++ [s]) p5 c5 := by
  obtain ⟨x, own, len, A, h1, h2, h3'⟩ := R
  have hlt := fun b (hb : (Value.slice p k c).ownBlock = some b) => own.lt hb
  have s3 := x3.size
  have sx := x.size
  have y5 : Same (fun b => (Value.slice p k c).ownBlock = some b) h3 h5 := g5.same _ fun b hb => hb
  have s5 := y5.size
  have nk : ∀ {b}, An b → ¬ (Value.slice p k c).ownBlock = some b := fun hb e => by have := hA _ hb; have := (hlt _ e).2; omega
  refine ⟨(x.trans x3).grown g5 fun b hb => (hlt b hb).1, by rw [List.map_append]; exact o5, by simp [len], fun i => if i = k then An else A i, ?_, ?_, ?_⟩
  · intro i hi
    by_cases e : i = k
    · subst e
      simp only [if_true]
      have : (ss ++ [s])[i] = s := by rw [List.getElem_append_right (by omega)]; simp [len]
      rw [this]
      exact T.keep s5 fun b hb => y5.old b (T.lt b hb) (nk hb)
    · have hi' : i < ss.length := by simp at hi; omega
      simp only [if_neg e]
      rw [List.getElem_append_left hi']
      have W := (h1 i hi').ext x3
      exact W.keep s5 fun b hb => y5.old b (W.lt b hb) (h3' i b hi' hb).2
  · intro i j b hi hj hb1 hb2
    simp at hi hj
    by_cases e : i = k
    · by_cases e' : j = k
      · omega
      · simp only [if_pos e, if_neg e'] at hb1 hb2
        have := (h1 j (by omega)).lt b hb2
        have := hA b hb1
        omega
    · by_cases e' : j = k
      · simp only [if_neg e, if_pos e'] at hb1 hb2
        have := (h1 i (by omega)).lt b hb1
        have := hA b hb2
        omega
      · simp only [if_neg e, if_neg e'] at hb1 hb2
        exact h2 i j b (by omega) (by omega) hb1 hb2
  · intro i b hi hb
    simp at hi
    by_cases e : i = k
    · simp only [if_pos e] at hb
      have hbq := hA b hb
      refine ⟨by omega, fun e2 => ?_⟩
      rcases hb5 with e3 | ⟨b', e3, hl⟩
      · rw [e3] at e2; exact nk hb e2
      · rw [e3] at e2; cases e2; have := T.lt b hb; omega
    · simp only [if_neg e] at hb
      obtain ⟨k1, k2⟩ := h3' i b (by omega) hb
      refine ⟨k1, fun e2 => ?_⟩
      rcases hb5 with e3 | ⟨b', e3, hl⟩
      · rw [e3] at e2; exact k2 e2
      · rw [e3] at e2; cases e2; have := (h1 i (by omega)).lt b hb; omega

end

set_option maxHeartbeats 2000000 in
/-- turnoutlaw19.WalPlays -/
theorem plays_law (sectors first : Int) (ops : List WOpX) (hs0 : -9223372036854775808 ≤ sectors) (hs1 : sectors ≤ 9223372036854775807) (hf0 : -9223372036854775808 ≤ first) (hf1 : first ≤ 9223372036854775807) (hl : ops.length ≤ 1600000000000) {h : Hp} {a0 a1 : Addr} (hh : Halves h) (G : Errs h a0 a1) (hok : ∀ o ∈ ops, o.Ok h)
    {p : Option Addr} {k c : Nat} (hs : SegS h p k 8 (ops.map wopV)) :
    CallsH Tryd.prog 9 #[vZ sectors, vZ first, .slice p k c] h (RetX (.bool true) h) := by
  have hk : ops.length = k := by have := hs.1; simpa using this
  refine V9 _ _ _ _ _ h _ ((awake_c hh G).mono ?_)
  rintro _ h0 ⟨rfl, x0⟩
  refine ⟨_, rfl, (pick_c sectors 7 (by decide) hs0 hs1 h0).mono ?_⟩
  rintro _ k0 ⟨e1, rfl⟩
  rw [e1]; clear e1 k0
  have hp7 := pickN_lt sectors (show 0 < 7 by decide)
  obtain ⟨n, hn⟩ : ∃ n, n = 2 + pickN sectors 7 := ⟨_, rfl⟩
  refine ⟨_, rfl, (n : Int), by rw [wrapI64] <;> omega, (pick_c first n (by omega) hf0 hf1 h0).mono ?_⟩
  rintro _ k0 ⟨e1, rfl⟩
  rw [e1]; clear e1 k0
  have hat := pickN_lt first (show 0 < n by omega)
  obtain ⟨at_, hae⟩ : ∃ a, a = pickN first n := ⟨_, rfl⟩
  rw [← hae] at hat ⊢
  refine ⟨_, rfl, fun l hq => ∃ (j : Nat) (ss : List Nat) (p : Option Addr) (c : Nat), l = [.slice p j c, vI j] ∧ j ≤ 2 ∧ Sides h hq 0 j ss p c, fun l _ => (2 - numAt l 1).toNat,
    ⟨0, [], none, 0, rfl, by decide, ⟨x0, Own.nil _ _ _ _, rfl, fun _ _ => False, fun i hi => by simp at hi, fun i j b hi => by simp at hi, fun i b hi => by simp at hi⟩⟩, ?_⟩
  rintro lp ln lc j hq ⟨j', ss, p', c', hl', hj, R⟩
  have hl'' := hl'
  simp only [List.cons.injEq, Value.slice.injEq, Value.int.injEq, and_true, true_and] at hl''
  obtain ⟨⟨rfl, rfl, rfl⟩, rfl⟩ := hl''
  refine ⟨fun hlt => ?_, fun hlt => ?_⟩
  · have hlt : ln < 2 := by have := of_decide_eq_true hlt; omega
    refine (new_c (n : Int)).mono ?_
    rintro _ h1 (⟨hbad, _⟩ | ⟨_, _, d, ⟨x1, X1⟩, rfl⟩)
    · omega
    refine ⟨_, _, rfl, (rNew_c (n : Int)).mono ?_⟩
    rintro _ h2 (⟨hbad, _⟩ | ⟨_, _, q, ⟨x2, Y2⟩, rfl⟩)
    · omega
    rw [Int.toNat_natCast] at X1 Y2
    refine ⟨_, _, rfl, fun l hr => hr = h2, ⟨false, ⟨fun hf => (by simp at hf), fun _ => ⟨false, eqv_ptr uPD _, fun hf => (by cases hf), fun _ => ⟨rfl, by simp⟩⟩⟩, fun hB => (by cases hB), fun _ => rfl⟩, ?_⟩
    rintro h2' rfl
    intro s h3 hsz e3
    have x3 : Ext h2' h3 := by rw [e3]; exact Ext.push _ _
    have cs : h3[s]? = some (.cells #[vP d, vP q, .pointer none, .pointer none] 64) := by rw [e3, hsz]; exact push_last
    have ls := (Array.getElem?_eq_some_iff.1 cs).1
    clear e3
    have s1 := x1.size
    have s2 := x2.size
    have s3 := x3.size
    have hlen : (DS.new n).safe.length = n := by show (List.replicate n zero512).length = n; simp
    refine ⟨((n - at_ : Nat) : Int), by rw [wrapI64] <;> omega, (ln : Int), by rw [wrapU64]; omega, ((1 + ln : Nat) : Int), by rw [wrapU64]; omega, (made_c (X1.ext (x2.trans x3)) (Y2.ext x3) (Rds.refl _) cs (fun hb => by have := hb.2; omega) (fun hb => by have := hb.2; omega) (at_ : Int) ((n - at_ : Nat) : Int) (by omega) (1 + ln)).mono ?_⟩
    rintro _ h4 ⟨rfl, ⟨hr, _⟩ | ⟨hr, l, m, hll, hlm, hne, hz, old, cs4, A, B, ok⟩⟩
    · exfalso
      rw [hlen] at hr
      have h1 : regionB n (at_ : Int) ((n - at_ : Nat) : Int) = true := decide_eq_true (by omega)
      have h2 : epochB (1 + ln) = true := decide_eq_true (by omega)
      rw [h1, h2] at hr; cases hr
    have x4 : Ext hq h4 := ⟨by omega, fun b hb => ((((old b (by omega) (by omega)).trans (x3.old b (by omega))).trans (x2.old b (by omega))).trans (x1.old b hb))⟩
    have T : Sd (fun b => hq.size ≤ b ∧ b < h4.size) h4 s 0 := by
      have lA := A.lt
      have lB := B.lt
      refine ⟨_, _, d, q, l, m, DS.new n, DS.new n, _, ⟨cs4, A, B, Rds.refl _, newL_rdy ok, ?_, ?_, ?_, ?_, ?_, ⟨by omega, by omega⟩, fun b hb => hb.2⟩, ⟨?_, ?_, ?_⟩⟩
      · rintro b (⟨h1, h2⟩ | h1) (⟨h3, h4⟩ | h3) <;> omega
      · rintro (⟨h1, h2⟩ | h1) <;> omega
      · rintro (⟨h1, h2⟩ | h1) <;> omega
      · intro b hb
        refine ⟨?_, lA b hb⟩
        rcases hb with ⟨h1, h2⟩ | h1 <;> omega
      · intro b hb
        refine ⟨?_, lB b hb⟩
        rcases hb with ⟨h1, h2⟩ | h1 <;> omega
      · show 0 + ((((n - at_ : Nat) : Int).toNat - 0) - 4) ≤ 4 * 0 + 4
        omega
      · rw [hlen]; omega
      · show ((n - at_ : Nat) : Int).toNat ≤ 8
        omega
    refine ⟨_, rfl, false, ⟨fun hf => (by cases hf), fun _ => ⟨_, side_at cs4 rfl, false, eqv_ptr uPL _, rfl, rfl⟩⟩, fun hf => (by cases hf), fun _ => ?_⟩
    have sx := R.x.size
    refine semH_push rowPs (R.own.ext x4) (vs := [vP s]) (m := 1) rfl rfl (by simp) (by simp) (by simp [Value.oneCell']) (by omega) (by simp only [maxLen]; omega) (by omega) fun p5 c5 h5 o5 g5 _ b5 => ?_
    exact ⟨_, incI (by omega), ⟨ln + 1, ss ++ [s], p5, _, rfl, by omega, R.next x4 T (fun b hb => hb.1) o5 g5 b5⟩, by simp only [numAt]; omega⟩
  have hj2 : ln = 2 := by have := of_decide_eq_false hlt; omega
  subst hj2
  have hlen := R.len
  clear hl'
  have l0 : 0 < ss.length := by omega
  have l1 : 1 < ss.length := by omega
  refine ⟨fun l hr => ∃ i : Nat, i ≤ k ∧ l = [vI i] ∧ Sides h hr i 2 ss lp lc, fun l _ => (k - numAt l 0).toNat, ⟨0, Nat.zero_le _, rfl, R⟩, ?_⟩
  rintro x hr ⟨i, hi, hl', R⟩
  cases hl'
  refine ⟨fun hlt => ?_, fun hlt => ?_⟩
  · have hlt : i < k := by simp at hlt; omega
    have hio : i < ops.length := by omega
    have ok := hok ops[i] (List.getElem_mem hio)
    obtain ⟨b, o, hp, q0, q1, hc⟩ := (hs.ext R.x).get (i := i) (by simpa using hio)
    have eo : (ops.map wopV)[i]'(by simpa using hio) = wopV ops[i] := by simp
    refine ⟨b, o, hp, q0, q1, ops[i].o.on, hc 1 _ (by rw [eo]; rfl), (pick_c ops[i].o.on 2 (by decide) ok.o.o0 ok.o.o1 hr).mono ?_⟩
    rintro _ k0 ⟨e1, rfl⟩
    rw [e1]; clear e1 k0
    obtain ⟨j, hj⟩ : ∃ j, j = pickN ops[i].o.on 2 := ⟨_, rfl⟩
    have hjl : j < 2 := by rw [hj]; exact pickN_lt _ (by decide)
    have hjs : j < ss.length := by omega
    rw [← hj]
    obtain ⟨b1, o1, e1, a0, a1, a2⟩ := R.at hjs
    obtain ⟨b2, o2, hp2, q2, q3, hc2⟩ := (hs.ext R.x).at (i := i) (by simpa using hio)
    rw [eo] at hc2
    obtain ⟨A, S, hA, next⟩ := R.get hjs
    refine ⟨_, rfl, b1, o1, e1, a0, a1, _, a2, b2, o2, hp2, q2, q3, _, _, _, _, _, _, _, _, _, _, hc2, (S.play (Gl.fresh hh G hA R.x) (by omega) ops[i] ⟨ok.o, ok.seg.ext R.x⟩ fun b q hp h0 hb => ?_).mono ?_⟩
    · have h1 := ok.seg.block (by decide) hp fun e => h0 (List.map_eq_nil_iff.1 e)
      have h2 := hA b hb
      omega
    rintro _ h9 ⟨C', S', K, rfl⟩
    have R9 := next C' h9 (i + 1) (by omega) S' K
    obtain ⟨b3, o3, e3, f0, f1, f2⟩ := R9.at l0
    obtain ⟨_, T0, _⟩ := R9.get l0
    refine ⟨true, rfl, fun hf => (by cases hf), fun _ => ⟨b3, o3, e3, by decide, by decide, _, f2, T0.told.mono ?_⟩⟩
    rintro _ h10 ⟨x10, rfl⟩
    have R10 := R9.ext x10
    obtain ⟨b4, o4, e4, u0, u1, u2⟩ := R10.at l1
    obtain ⟨_, T1, _⟩ := R10.get l1
    refine ⟨true, rfl, b4, o4, e4, by decide, by decide, _, u2, T1.told.mono ?_⟩
    rintro _ h11 ⟨x11, rfl⟩
    exact ⟨true, rfl, false, ⟨fun hf => (by cases hf), fun _ => ⟨rfl, rfl⟩⟩, fun hf => (by cases hf), fun _ => ⟨_, incI (by omega), ⟨i + 1, hlt, rfl, R10.ext x11⟩, by simp only [numAt]; omega⟩⟩
  · obtain ⟨b3, o3, e3, f0, f1, f2⟩ := R.at l0
    obtain ⟨_, T0, _⟩ := R.get l0
    refine ⟨b3, o3, e3, by decide, by decide, _, f2, (T0.lies (by omega)).mono ?_⟩
    rintro _ h10 ⟨x10, rfl⟩
    have R10 := R.ext x10
    obtain ⟨b4, o4, e4, u0, u1, u2⟩ := R10.at l1
    obtain ⟨_, T1, _⟩ := R10.get l1
    refine ⟨true, rfl, b4, o4, e4, by decide, by decide, _, u2, (T1.lies (by omega)).mono ?_⟩
    rintro _ h11 ⟨x11, rfl⟩
    exact ⟨true, rfl, true, ⟨fun _ => ⟨rfl, rfl⟩, fun hf => (by cases hf)⟩, rfl, R10.x.trans x11⟩

end Go.Vc

/- Scripts that come in. -/
namespace Go.Vc
open Go Go.Proofs Go.ChangeShapes Go.WideShapes Go.ChangeAt Go.RowKit

theorem undOps : Tryd.prog.underlying 78 = some (.slice 82) := by kernel_rfl
theorem cOp : Tryd.prog.cellsOf 82 = 8 := by kernel_rfl
theorem bOp : Tryd.prog.bytesOf 82 = 88 := by kernel_rfl
theorem fieldsOp : fieldsOf Tryd.prog 82 = [(3, 0), (3, 1), (3, 2), (3, 3), (3, 4), (22, 5), (9, 6), (73, 7)] := by kernel_rfl

section
variable {H : Type} {enc : TypeId × Value → H} {W : World} {sp : Nat → Bool} {held : Bool} {base : Nat}

theorem wop_in {n : Nat} {cs : List Value} {y : DataW H × List MemPlace} (hl : cs.length = 8) (h : DataW.trod enc Tryd.prog W base sp held n 82 cs = some y) : ∃ o : WOpX, cs = wopV o ∧ o.Ok W.heap := by
  match cs, hl with
  | [v0, v1, v2, v3, v4, v5, v6, v7], _ =>
  obtain ⟨m, parts, hy, hm⟩ := trod_partsO fieldsOp (by simp) h
  obtain ⟨y0, t0, _⟩ := hm 0 _ _ rfl
  obtain ⟨y1, t1, _⟩ := hm 1 _ _ rfl
  obtain ⟨y2, t2, _⟩ := hm 2 _ _ rfl
  obtain ⟨y3, t3, _⟩ := hm 3 _ _ rfl
  obtain ⟨y4, t4, _⟩ := hm 4 _ _ rfl
  obtain ⟨y5, t5, _⟩ := hm 5 _ _ rfl
  obtain ⟨y6, t6, _⟩ := hm 6 _ _ rfl
  obtain ⟨y7, t7, _⟩ := hm 7 _ _ rfl
  rw [c1IntH] at t0 t1 t2 t3 t4
  rw [c1U64H] at t5
  rw [c1StrH] at t6
  rw [c1FatesH] at t7
  obtain ⟨n0, e0, _, w0⟩ := DataW.trod_int undInt t0
  obtain ⟨n1, e1, _, w1⟩ := DataW.trod_int undInt t1
  obtain ⟨n2, e2, _, w2⟩ := DataW.trod_int undInt t2
  obtain ⟨n3, e3, _, w3⟩ := DataW.trod_int undInt t3
  obtain ⟨n4, e4, _, w4⟩ := DataW.trod_int undInt t4
  obtain ⟨n5, e5, _, w5⟩ := DataW.trod_int undU64 t5
  obtain ⟨s6, e6, _, _⟩ := DataW.trod_string undStr t6
  obtain ⟨p, k, c, rows, e7, hs, _, hq, hlen⟩ := segS_in undFates cFate (by decide) t7 (Q := fun r => ∃ f : Int × Int, r = fateV f ∧ True) fun n cs y hl h => fate_in hl h
  obtain ⟨fs, rfl, _⟩ := rows_of hq
  simp at e0 e1 e2 e3 e4 e5 e6 e7
  subst e0 e1 e2 e3 e4 e5 e6 e7
  have w5 := u64_wf w5
  obtain ⟨k5, rfl⟩ := Int.eq_ofNat_of_zero_le w5.1
  exact ⟨⟨⟨n0, n1, n2, n3, n4, k5, s6, fs⟩, p, k, c⟩, rfl, ⟨⟨(i64_wf w2).1, (i64_wf w2).2, (i64_wf w1).1, (i64_wf w1).2, (i64_wf w3).2, (i64_wf w4).1, (i64_wf w4).2⟩, hs⟩⟩

theorem wops_arg {v : Value} {d : DataW H} {ps : List MemPlace} {r : Reach} {b0 : Nat} (hval : Value.okWide Tryd.prog W r b0 78 v) (hd : DataW.Trod enc Tryd.prog W 0 sp true 78 v d ps) (hw : WOk Tryd.prog 78 d) :
    ∃ (p : Option Addr) (n c : Nat) (l : List WOpX), v = .slice p n c ∧ SegS W.heap p n 8 (l.map wopV) ∧ (∀ x ∈ l, x.Ok W.heap) ∧ l.length ≤ 1600000000000 := by
  obtain ⟨a, len, cap, rfl⟩ := okWide_slice undOps hval
  obtain ⟨fuel, hf⟩ := hd
  obtain ⟨p, n, c, rows, hcs, hs, hnc, hl⟩ := segS_in2 undOps cOp (by decide) hf (Q := fun r y => ∃ o : WOpX, r = wopV o ∧ o.Ok W.heap) fun n cs y hl h => wop_in hl h
  simp [Value.cells] at hcs
  obtain ⟨rfl, rfl, rfl⟩ := hcs
  rcases hl with h0 | ⟨elems, rest, hx, hel, hr⟩
  · have hn : rows = [] := List.eq_nil_of_length_eq_zero (by rw [hs.1]; exact h0)
    subst hn
    exact ⟨_, _, _, [], rfl, hs, by simp, by simp⟩
  · simp only at hx
    subst hx
    obtain ⟨l, rfl, hok⟩ := rows_of (f := wopV) (Q := fun o => o.Ok W.heap) fun r hr' => by
      obtain ⟨y, hy, o, ho, hk⟩ := hr r hr'
      exact ⟨o, ho, hk⟩
    refine ⟨_, _, _, l, rfl, hs, hok, ?_⟩
    have hk : l.length = len := by have := hs.1; simpa using this
    have := hw.len undOps
    rw [bOp] at this
    have h2 : reachBytes = 140737488351232 := rfl
    omega

end
end Go.Vc

