/- The log's laws: no sector is written twice by one log. -/
import Derived.Test.YthkbecpgbjejkaaDoorS9WWlX
set_option maxRecDepth 10000
namespace Go.Vc
open Go Go.Proofs Go.MapKept

/-! ## How often was written -/

theorem put_writes {σ : DS} {n : Int} {f : Frm} : ((putF σ n f).2 = 0 ∧ (putF σ n f).1.writes = inc64 σ.writes) ∨ ((putF σ n f).2 ≠ 0 ∧ (putF σ n f).1.writes = σ.writes) := by
  have rw_ : (σ.read n).1.writes = σ.writes := by unfold DS.read; split <;> rfl
  unfold putF
  split
  · rename_i h; exact .inr ⟨h, rfl⟩
  · split
    · rename_i h; exact .inr ⟨h, rw_⟩
    · have st := (DS.stepped_safe (σ.read n).1).2.2.2.1
      unfold DS.write
      split
      · split
        · split
          · exact .inr ⟨by show (40 : Int) ≠ 0; decide, by show (σ.read n).1.stepped.writes = _; rw [st, rw_]⟩
          · exact .inl ⟨rfl, by show inc64 (σ.read n).1.writes = _; rw [rw_]⟩
        · exact .inr ⟨by show (42 : Int) ≠ 0; decide, rw_⟩
      · rename_i h; exact .inr ⟨h, rw_⟩

theorem flush_writes {σ : DS} : σ.flush.1.writes = σ.writes := by
  have st := (DS.stepped_safe σ).2.2.2.1
  unfold DS.flush
  split
  · rfl
  · split
    · exact st
    · exact st

theorem writeL_writes {σ : DS} {L : Lg} (h : σ.writes = (L.i : Int)) (hi : L.i ≤ 4096) : (writeL σ L).1.writes = ((writeL σ L).2.1.i : Int) ∧ L.i ≤ (writeL σ L).2.1.i := by
  unfold writeL
  rcases @put_writes σ ((L.first + L.i : Nat) : Int) L.frm with ⟨h1, h2⟩ | ⟨h1, h2⟩
  · rw [if_neg (by rw [h1]; decide)]
    refine ⟨?_, Nat.le_succ _⟩
    show (putF σ _ _).1.writes = ((L.i + 1 : Nat) : Int)
    rw [h2, h]
    exact incI (by omega)
  · rw [if_pos h1]
    exact ⟨by show (putF σ _ _).1.writes = _; rw [h2, h], Nat.le_refl _⟩

theorem appR_writes : ∀ (k : Nat) (b : Bool) (r : List UInt8) (σ : DS) (L : Lg), L.Go r → σ.writes = (L.i : Int) → (appR k b r σ L).1.writes = ((appR k b r σ L).2.1.i : Int) := by
  intro k
  induction k with
  | zero => intro b r σ L _ h; exact h
  | succ k ih =>
    intro b r σ L g h
    have hle := g.ok.le
    have hfit := g.ok.fit
    rw [appR]
    split
    · exact h
    · rename_i hr
      split
      · obtain ⟨w1, _⟩ := writeL_writes (σ := σ) (L := putL b r L) h (by show L.i ≤ _; omega)
        split
        · exact w1
        · rename_i hw
          exact ih _ _ _ _ (g.next hr hw) w1
      · rename_i h4
        exact ih _ _ _ _ (g.rest hr h4) h

theorem appL_writes {σ : DS} {L : Lg} {s : ByteArray} (rd : L.Rdy) (h : σ.writes = (L.i : Int)) : (appL σ L s).1.writes = ((appL σ L s).2.1.i : Int) := by
  unfold appL
  by_cases h1 : L.dead = true
  · rw [if_pos h1]; exact h
  rw [if_neg h1]
  by_cases h2 : s = ⟨#[]⟩
  · rw [if_pos h2]; exact h
  rw [if_neg h2]
  by_cases h3 : 65536 < s.size
  · rw [if_pos h3]; exact h
  rw [if_neg h3]
  by_cases h4 : L.free < s.size
  · rw [if_pos h4]; exact h
  rw [if_neg h4]
  exact appR_writes _ _ _ _ _ (rd.go (by simpa using h1) (by rw [bl_length]; omega) fun e => h2 (bl_inj e)) h

theorem syncL_writes {σ : DS} {L : Lg} (rd : L.Rdy) (h : σ.writes = (L.i : Int)) : (syncL σ L).1.writes = ((syncL σ L).2.1.i : Int) ∧ L.i ≤ (syncL σ L).2.1.i := by
  have hle := rd.ok.le
  have hfit := rd.ok.fit
  obtain ⟨w1, w2⟩ := writeL_writes (σ := σ) (L := L) h (by omega)
  unfold syncL
  split
  · exact ⟨h, Nat.le_refl _⟩
  · split
    · exact ⟨by show σ.flush.1.writes = _; rw [flush_writes]; exact h, Nat.le_refl _⟩
    · split
      · exact ⟨w1, w2⟩
      · exact ⟨by show (writeL σ L).1.flush.1.writes = _; rw [flush_writes]; exact w1, w2⟩

/-! ## Rising numbers -/

structure Inc (lo hi : Nat) (l : List Nat) : Prop where
  up : l.Pairwise (· < ·)
  ge : ∀ x ∈ l, lo ≤ x
  lt : ∀ x ∈ l, x < hi

theorem Inc.more {lo hi hi' : Nat} {l : List Nat} (i : Inc lo hi l) (h : hi ≤ hi') : Inc lo hi' l := ⟨i.up, i.ge, fun x hx => by have := i.lt x hx; omega⟩
theorem Inc.app {lo mid hi : Nat} {a b : List Nat} (i : Inc lo mid a) (j : Inc mid hi b) (h1 : lo ≤ mid) (h2 : mid ≤ hi) : Inc lo hi (a ++ b) :=
  ⟨List.pairwise_append.2 ⟨i.up, j.up, fun x hx y hy => by have := i.lt x hx; have := j.ge y hy; omega⟩,
   fun x hx => by rcases List.mem_append.1 hx with h | h; exact i.ge x h; have := j.ge x h; omega,
   fun x hx => by rcases List.mem_append.1 hx with h | h; have := i.lt x h; omega; exact j.lt x h⟩

section
variable {C : Nat → Prop} {h hr : Hp} {a0 a1 : Addr} {d l : Nat} {σ : DS} {L : Lg} {S : List ByteArray} {first count e f : Nat} {bodies : List (List UInt8)}

theorem Lies.inc (Q : Lies S first e bodies f σ) : Inc (first + f) (first + bodies.length) (σ.pend.map (·.1)) := by
  have hp : σ.pend.map (·.1) = (List.range' f (bodies.length - f)).map fun j => first + j := by rw [Q.pend, List.map_map]; rfl
  have hfl := Q.fl
  rw [hp]
  refine ⟨?_, fun x hx => ?_, fun x hx => ?_⟩
  · rw [List.pairwise_map]
    exact List.Pairwise.imp (fun h => by omega) (List.pairwise_lt_range' (s := f) (n := bodies.length - f))
  · obtain ⟨j, hj, rfl⟩ := List.mem_map.1 hx
    have := List.mem_range'_1.1 hj; omega
  · obtain ⟨j, hj, rfl⟩ := List.mem_map.1 hx
    have := List.mem_range'_1.1 hj; omega

theorem LD.pending (W : LD C hr d σ l L) (hlen : σ.pend.length ≤ 8796093022208) : CallsH Tryd.prog 24 #[vP d] hr fun e hs => Ext hr hs ∧ ∃ p c, e = .returned (.slice p σ.pend.length c) ∧ Own hs hr.size 3 1 (.slice p σ.pend.length c) σ.pend.length ((σ.pend.map (·.1)).map vI) := by
  obtain ⟨D, _, X⟩ := W.get
  exact pending_c X hlen

theorem oneIs (l : List Nat) : ∀ v ∈ l.map vI, v.oneCell' = true := by
  intro v hv
  obtain ⟨_, _, rfl⟩ := List.mem_map.1 hv
  rfl

set_option maxHeartbeats 2000000 in
/-- turnoutlaw19.WalOnce -/
theorem once_law (sectors first count : Int) (s0 : -9223372036854775808 ≤ sectors) (s1 : sectors ≤ 9223372036854775807) (f0 : -9223372036854775808 ≤ first) (f1 : first ≤ 9223372036854775807) (c0 : -9223372036854775808 ≤ count) (c1 : count ≤ 9223372036854775807)
    {rp : Option Addr} {rn rc : Nat} {steps : List (Int × Bool)} (hh : Halves h) (G : Errs h a0 a1)
    (hs : SegS h rp rn 2 (steps.map stpV)) (hrc : rn ≤ rc) (hst : ∀ s ∈ steps, -9223372036854775808 ≤ s.1 ∧ s.1 ≤ 9223372036854775807) :
    CallsH Tryd.prog 5 #[vZ sectors, vZ first, vZ count, .slice rp rn rc] h (RetX (.bool true) h) := by
  refine V5 _ _ _ _ _ _ h _ ((awake_c hh G).mono ?_)
  rintro _ h1 ⟨rfl, x1⟩
  refine ⟨_, rfl, (pick_c sectors 14 (by decide) s0 s1 h1).mono ?_⟩
  rintro _ h1 ⟨rfl, rfl⟩
  have hpk : pickN sectors 14 < 14 := Nat.mod_lt _ (by decide)
  obtain ⟨n, hn⟩ : ∃ n, n = 1 + pickN sectors 14 := ⟨_, rfl⟩
  refine ⟨_, rfl, (n : Int), by rw [wrapI64] <;> omega, (pick_c first n (by omega) f0 f1 h1).mono ?_⟩
  rintro _ h1 ⟨rfl, rfl⟩
  have hpa : pickN first n < n := Nat.mod_lt _ (by omega)
  obtain ⟨a, ha⟩ : ∃ a, a = pickN first n := ⟨_, rfl⟩
  rw [← ha] at hpa ⊢
  refine ⟨_, rfl, ((n - a : Nat) : Int), by rw [wrapI64] <;> omega, (pick_c count (n - a) (by omega) c0 c1 h1).mono ?_⟩
  rintro _ h1 ⟨rfl, rfl⟩
  have hpm : pickN count (n - a) < n - a := Nat.mod_lt _ (by omega)
  obtain ⟨m, hm⟩ : ∃ m, m = 1 + pickN count (n - a) := ⟨_, rfl⟩
  refine ⟨_, rfl, (m : Int), by rw [wrapI64] <;> omega, (new_c (n : Int)).mono ?_⟩
  rintro _ h2 (⟨hbad, _⟩ | ⟨_, _, d, ⟨x2, D2⟩, rfl⟩)
  · omega
  rw [Int.toNat_natCast] at D2
  refine ⟨_, _, rfl, fun _ hq => hq = h2, ⟨false, ⟨fun hf => (by cases hf), fun _ => ⟨false, eqv_ptr uPD _, fun hf => (by cases hf), fun _ => ⟨rfl, by simp⟩⟩⟩, fun hf => (by cases hf), fun _ => rfl⟩, ?_⟩
  rintro h2' rfl
  refine (wnew_c D2 (a : Int) (m : Int) 1 (by omega)).mono ?_
  have hlen : (DS.new n).safe.length = n := by show (List.replicate n zero512).length = n; simp
  rintro _ h3 (⟨hf, _⟩ | ⟨_, x3, W3, ok3, rfl⟩)
  · exfalso
    rw [hlen] at hf
    have h1 : regionB n a m = true := decide_eq_true (by omega)
    rw [h1] at hf; cases hf
  obtain ⟨C, W3, hC1, g3, k3⟩ := made hh G x1 x2 x3 W3
  clear D2
  refine ⟨_, _, rfl, fun _ hq => hq = h3, ⟨false, ⟨false, eqv_ptr uPL _, fun hf => (by cases hf), fun _ => ⟨rfl, by simp⟩⟩, fun hf => (by cases hf), fun _ => rfl⟩, ?_⟩
  rintro h3' rfl
  have hs3 : SegS h3' rp rn 2 (steps.map stpV) := hs.ext ((x1.trans x2).trans x3)
  refine (some_c hs3 hrc).mono ?_
  rintro _ h3' ⟨rfl, sn, sc, rfl, hs4⟩
  have B : Base (List.replicate n zero512) a m 1 := base_new (by omega) (by omega) (by omega) (by omega)
  have Q3 : LogIs (List.replicate n zero512) a m 1 [] 0 0 ⟨[], [], false⟩ (DS.new n) (newL (a : Int) (m : Int) 1) := log_new lies_new
  have hsz : ∀ b o, rp = some ⟨b, o, none⟩ → (steps.take 40) ≠ [] → b < h.size := fun b o hp h0 => hs.block (by decide) hp (fun e => h0 (by rw [List.map_eq_nil_iff] at e; rw [e]; rfl))
  have hl40 : (steps.take 40).length = sn ∧ sn ≤ 40 := by have := hs4.1; simp at this; rw [List.length_take]; omega
  have hst4 : ∀ s ∈ steps.take 40, -9223372036854775808 ≤ s.1 ∧ s.1 ≤ 9223372036854775807 := fun s hs => hst s (List.mem_of_mem_take hs)
  have hsB : ∀ b o, rp = some ⟨b, o, none⟩ → (steps.take 40) ≠ [] → ¬ C b := fun b o hp h0 hb => by have := hsz b o hp h0; have := hC1 b hb; have := x1.size; omega
  generalize steps.take 40 = st at hs4 hl40 hst4 hsB
  obtain ⟨hl41, hl40⟩ := hl40
  obtain ⟨l, hl⟩ : ∃ l, l = h2'.size := ⟨_, rfl⟩
  rw [← hl] at W3 ⊢
  clear hs3 hs hst hsz
  refine ⟨_, _, _, rfl, fun v hq => ∃ (met : List Nat) (p : Option Addr) (c i : Nat) (out : List ByteArray) (sf : Nat) (C1 : Nat → Prop) (τ : DS) (M : Lg) (bs : List (List UInt8)) (f : Nat), v = [.slice p met.length c, vI i] ∧ i ≤ sn ∧ LD C1 hq d τ l M ∧ Kp C h3' C1 hq ∧
      Own hq h3'.size 3 1 (.slice p met.length c) met.length (met.map vI) ∧ (∀ b, (Value.slice p met.length c).ownBlock = some b → ¬ C1 b) ∧ LogIs (List.replicate n zero512) a m 1 bs f sf ⟨out, [], false⟩ τ M ∧ τ.gone = false ∧ M.Rdy ∧ M.dead = false ∧ τ.plan = 0 ∧ τ.writes = (M.i : Int) ∧ Inc a (a + f) met ∧ met.length ≤ f,
    fun v _ => (sn - numAt v 1).toNat, ⟨[], none, 0, 0, [], 0, C, DS.new n, _, [], 0, rfl, Nat.zero_le _, W3, Kp.refl _ _, Own.nil _ _ _ _, fun b hb => (by cases hb), Q3, rfl, newL_rdy ok3, rfl, rfl, rfl, ⟨List.Pairwise.nil, fun _ h => (by cases h), fun _ h => (by cases h)⟩, Nat.le_refl _⟩, ?_⟩
  rintro p n0 c x hq ⟨met, p_, c_, i, out, sf, C1, τ, M, bs, f, hv, hi, W1, K1, row, nrow, Q1, g1, rd1, d1, hp0, hwr, inc, hml⟩
  cases hv
  have hbm : bs.length ≤ m := by have := Q1.at_; have := Q1.co; have := rd1.ok.le; omega
  have hfl := Q1.lies.fl
  have hpend : τ.pend.length = bs.length - f := by rw [Q1.lies.pend]; simp
  refine ⟨fun hc => ?_, fun hc => ?_⟩
  rotate_left
  · -- behind the steps
    refine (W1.pending (by omega)).mono ?_
    rintro _ h5 ⟨x5, p5, c5, rfl, row5⟩
    refine ⟨_, _, _, rfl, ?_⟩
    have oR := row.ext x5
    refine semH_appendSeg rowI oR row5.seg (oneIs _) (by omega) (by simp only [maxLen]; omega) (by have := K1.1; have := x5.size; omega) fun p6 c6 h6 o6 gr6 _ b6 => ?_
    rw [← List.map_append] at o6
    have k6 : ∀ b, b < h5.size → C1 b → h6[b]? = h5[b]? := fun b hb hc => gr6.block b hb fun e => nrow b e.symm hc
    have W6 : LD C1 h6 d τ l M := (W1.ext x5).keep gr6.size fun b hb => k6 b (by have := W1.lt b hb; have := x5.size; omega) hb
    refine W6.stats.mono ?_
    rintro _ h7 ⟨x7, rfl⟩
    have hmi : M.i ≤ m := by have := rd1.ok.le; have := Q1.co; omega
    refine ⟨_, _, _, rfl, fun hf => ?_, fun _ => ?_⟩
    · have := of_decide_eq_true hf; omega
    have xE : Ext h h7 := by
      have hx : ∀ b, b < h3'.size → ¬ C b → h6[b]? = h3'[b]? := fun b hb hn => (gr6.block b (by have := K1.1; have := x5.size; omega) fun e => by have := (oR.lt e.symm).1; omega).trans ((x5.old b (by have := K1.1; omega)).trans (K1.2 b hb hn).2)
      refine ⟨?_, fun b hb => ?_⟩
      · have := k3.1; have := K1.1; have := x5.size; have := gr6.size; have := x7.size; omega
      · have hb3 : b < h3'.size := Nat.lt_of_lt_of_le hb k3.1
        have h36 : h3'.size ≤ h6.size := by have := K1.1; have := x5.size; have := gr6.size; omega
        exact (x7.old b (Nat.lt_of_lt_of_le hb3 h36)).trans ((hx b hb3 (k3.2 b hb fun h => h).1).trans (k3.2 b hb fun h => h).2)
    have incA : Inc a (a + m) (met ++ τ.pend.map (·.1)) := (inc.app Q1.lies.inc (by omega) (by omega)).more (by omega)
    have hlm : (met ++ τ.pend.map (·.1)).length = met.length + τ.pend.length := by simp
    have o7 : Own h7 h3'.size 3 1 (.slice p6 (met.length + τ.pend.length) c6) (met.length + τ.pend.length) ((met ++ τ.pend.map (·.1)).map vI) := o6.ext x7
    generalize met ++ τ.pend.map (·.1) = A at incA hlm o7
    refine ⟨((a : Int) - 1), wrapI64 (by omega) (by omega), fun v hq => ∃ j : Nat, v = [vZ (if j = 0 then (a : Int) - 1 else ((A.getD (j - 1) 0 : Nat) : Int)), vI j] ∧ j ≤ A.length ∧ hq = h7, fun v _ => (A.length - numAt v 1).toNat, ⟨0, rfl, Nat.zero_le _, rfl⟩, ?_⟩
    rintro last y hy ⟨j, hv, hj, rfl⟩
    cases hv
    refine ⟨fun hc => ?_, fun hc => ⟨rfl, xE⟩⟩
    have hc : j < A.length := by have := of_decide_eq_true hc; omega
    obtain ⟨b, o, hpb, hcell⟩ := o7.seg.at (i := j) (by simpa using hc)
    rw [List.getElem_map] at hcell
    have hge := incA.ge _ (List.getElem_mem hc)
    have hlt := incA.lt _ (List.getElem_mem hc)
    have hup : (if j = 0 then (a : Int) - 1 else ((A.getD (j - 1) 0 : Nat) : Int)) < (A[j] : Int) := by
      split
      · omega
      · rename_i hj0
        rw [List.getD_eq_getElem?_getD, List.getElem?_eq_getElem (by omega)]
        have := List.pairwise_iff_getElem.1 incA.up (j - 1) j (by omega) hc (by omega)
        show ((A[j - 1]'(by omega) : Nat) : Int) < _
        omega
    refine ⟨false, ⟨b, o, hpb, by omega, by omega, _, hcell, fun hf => ?_, fun _ => ⟨b, o, hpb, by omega, by omega, _, hcell, ((a + m : Nat) : Int), by rw [wrapI64] <;> omega, rfl, ?_⟩⟩, fun hf => (by cases hf), fun _ => ⟨b, o, hpb, by omega, by omega, _, hcell, _, incI (by omega), ⟨j + 1, ?_, hc, rfl⟩, by simp only [numAt]; omega⟩⟩
    · have := of_decide_eq_true hf; omega
    · exact (decide_eq_false (by omega)).symm
    · rw [if_neg (by omega), Nat.add_sub_cancel, List.getD_eq_getElem?_getD, List.getElem?_eq_getElem hc]
      rfl
  -- a step
  have hc : i < sn := by have := of_decide_eq_true hc; omega
  have hil : i < st.length := by omega
  have hne : st ≠ [] := fun e => by rw [e] at hil; simp at hil
  have segq : ∀ {C' : Nat → Prop} {g' : Hp}, (h3'.size ≤ g'.size ∧ ∀ b, b < h3'.size → ¬ C b → g'[b]? = h3'[b]?) → SegS g' rp sn 2 (st.map stpV) := fun {C' g'} K => hs4.keep fun b o hp h0 => K.2 b (hs4.block (by decide) hp h0) (hsB b o hp hne)
  obtain ⟨N, sy, hst1⟩ : ∃ N sy, st[i] = (N, sy) := ⟨_, _, rfl⟩
  have hrow : (st.map stpV)[i]'(by simpa using hil) = [vZ N, .bool sy] := by rw [List.getElem_map, hst1]; rfl
  have hN := hst4 _ (List.getElem_mem hil)
  rw [hst1] at hN
  obtain ⟨b1, o1, hp1, z1, z2, hget⟩ := (segq (C' := C1) ⟨K1.1, fun b hb hn => (K1.2 b hb hn).2⟩).get (i := i) (by simpa using hil)
  have hx0 := hget 0 (vZ N) (by rw [hrow]; rfl)
  have hpk : pickN N 1200 < 1200 := Nat.mod_lt _ (by decide)
  refine ⟨b1, o1, hp1, z1, z2, N, hx0, (pick_c N 1200 (by decide) hN.1 hN.2 hq).mono ?_⟩
  rintro _ hq ⟨rfl, rfl⟩
  refine ⟨_, rfl, ((1 + pickN N 1200 : Nat) : Int), by rw [wrapI64] <;> omega, (longW_c (1 + pickN N 1200) i (by omega) hq).mono ?_⟩
  rintro _ h5 ⟨x5, rfl⟩
  obtain ⟨r, hr⟩ : ∃ r, r = longW (1 + pickN N 1200) i := ⟨_, rfl⟩
  have hrs : r.size = 1 + pickN N 1200 := by rw [hr, longW_size]
  have hrn : r ≠ ⟨#[]⟩ := fun e => by rw [e] at hrs; have : (0 : Nat) = 1 + pickN N 1200 := hrs; omega
  rw [← hr]
  have g5 : Gl C1 h5 a0 a1 := (g3.kp K1).ext x5
  refine ⟨_, rfl, (lappend_c (W1.ext x5) rd1 g5.hh g5.n0 r (by omega)).mono ?_⟩
  rintro _ h6 ⟨C6, W6, k6, rfl⟩
  have K6 : Kp C h3' C6 h6 := (K1.trans (Kp.ext C1 x5)).trans k6
  obtain ⟨row6, nrow6⟩ := k6.own (row.ext x5) nrow
  have rd6 := appL_rdy (σ := τ) (s := r) rd1
  have wr6 := appL_writes (s := r) rd1 hwr
  obtain ⟨σ6, L6, out6, bs6, W6, Q6, ga6, d6, p6, rd6, wr6⟩ : ∃ σ6 L6 out6 bs6, LD C6 h6 d σ6 l L6 ∧ LogIs (List.replicate n zero512) a m 1 bs6 f sf ⟨out6, [], false⟩ σ6 L6 ∧ σ6.gone = false ∧ L6.dead = false ∧ σ6.plan = 0 ∧ L6.Rdy ∧ σ6.writes = (L6.i : Int) := by
    rcases append_law B Q1 g1 rd1 d1 r hrn (by omega) with ⟨hf, e1⟩ | ⟨hf, c1, ga, ⟨bs', Qa⟩, da, pa⟩ | ⟨hf, c1, ga, da, Ea, pa⟩
    · rw [e1] at W6 rd6 wr6
      exact ⟨τ, M, out, bs, W6, Q1, g1, d1, hp0, rd6, wr6⟩
    · exact ⟨_, _, _, bs', W6, Qa, ga, da, pa hp0, rd6, wr6⟩
    · exact (pa hp0).elim
  have hbm6 : bs6.length ≤ m := by have := Q6.at_; have := Q6.co; have := rd6.ok.le; omega
  have hpend6 : σ6.pend.length = bs6.length - f := by rw [Q6.lies.pend]; simp
  have hfl6 := Q6.lies.fl
  refine ⟨_, rfl, (W6.pending (by omega)).mono ?_⟩
  rintro _ h7 ⟨x7, p7, c7, rfl, row7⟩
  refine ⟨_, _, _, rfl, ?_⟩
  have oR := row6.ext x7
  refine semH_appendSeg rowI oR row7.seg (oneIs _) (by omega) (by simp only [maxLen]; omega) (by have := K6.1; have := x7.size; omega) fun p8 c8 h8 o8 gr8 hnc8 b8 => ?_
  rw [← List.map_append] at o8
  have hs78 := gr8.size
  have W8 : LD C6 h8 d σ6 l L6 := (W6.ext x7).keep gr8.size fun b hb => gr8.block b (by have := W6.lt b hb; have := x7.size; omega) fun e => nrow6 b e.symm hb
  have K8 : Kp C h3' C6 h8 := ⟨by have := K6.1; have := x7.size; omega, fun b hb hn => ⟨(K6.2 b hb hn).1, (gr8.block b (by have := K6.1; have := x7.size; omega) fun e => by have := (oR.lt e.symm).1; omega).trans ((x7.old b (by have := K6.1; omega)).trans (K6.2 b hb hn).2)⟩⟩
  have nrow8 : ∀ b, (Value.slice p8 (met.length + σ6.pend.length) c8).ownBlock = some b → ¬ C6 b := fun b hb => by
    rcases b8 with e | ⟨b', e, hl'⟩
    · rw [e] at hb; exact nrow6 b hb
    · rw [e] at hb; cases hb
      exact fun hc => by have := W6.lt _ hc; have := x7.size; omega
  obtain ⟨b2, o2, hp2, z3, z4, hget2⟩ := (segq (C' := C6) ⟨K8.1, fun b hb hn => (K8.2 b hb hn).2⟩).get (i := i) (by simpa using hil)
  have hx1 := hget2 1 (.bool sy) (by rw [hrow]; rfl)
  have hlm : (met ++ σ6.pend.map (·.1)).length = met.length + σ6.pend.length := by simp
  refine ⟨b2, o2, hp2, z3, z4, sy, hx1, fun hsy => ?_, fun hsy => ?_⟩
  · have g8 : Gl C6 h8 a0 a1 := g3.kp K8
    refine (lsync_c W8 rd6.ok g8.hh g8.n0 (by omega)).mono ?_
    rintro _ h9 ⟨C9, W9, k9, rfl⟩
    obtain ⟨o9, nrow9⟩ := k9.own o8 nrow8
    have rd9 := syncL_rdy (σ := σ6) rd6
    obtain ⟨wr9, hi9⟩ := syncL_writes rd6 wr6
    rcases sync_law B Q6 ga6 rd6 d6 with ⟨c1, ga9, ⟨bs9, Q9⟩, d9, o9', p9⟩ | ⟨_, _, _, _, pa⟩
    rotate_left
    · exact (pa p6).elim
    refine ⟨_, rfl, fun hf => (by rw [c1] at hf; simp at hf), fun _ => ?_⟩
    have hpe : (syncL σ6 L6).1.pend = [] := by rw [Q9.lies.pend, Nat.sub_self]; rfl
    have hpl9 : (syncL σ6 L6).1.pend.length = 0 := by rw [hpe]; rfl
    refine (W9.pending (by omega)).mono ?_
    rintro _ h10 ⟨x10, p10, c10, rfl, _⟩
    rw [hpl9]
    refine ⟨p10, 0, c10, rfl, fun hf => (by simp at hf), fun _ => ⟨_, incI (by omega), ⟨met ++ σ6.pend.map (·.1), p8, c8, i + 1, out6, out6.length, C9, _, _, bs9, bs9.length, by rw [hlm], hc, W9.ext x10, (K8.trans k9).trans (Kp.ext C9 x10), ?_, ?_, Q9, ga9, rd9, d9, p9 p6, wr9, ?_, ?_⟩, by simp only [numAt]; omega⟩⟩
    · rw [hlm]; exact o9.ext x10
    · rw [hlm]; exact nrow9
    · have h1 := Q6.at_
      have h2 := Q9.at_
      exact (inc.app Q6.lies.inc (by omega) (by omega)).more (by omega)
    · have h1 := Q6.at_
      have h2 := Q9.at_
      omega
  · have hsub : IntKind.i64.wrap (((met.length + σ6.pend.length : Nat) : Int) - (σ6.pend.length : Int)) = ((met.length : Nat) : Int) := by rw [wrapI64] <;> omega
    have hz : cutP p8 c8 0 1 = p8 := by
      unfold cutP
      split
      · rfl
      · cases p8 <;> rfl
    refine ⟨_, hsub, met.length, rfl, Nat.zero_le _, by omega, p8, hz, _, incI (by omega), ⟨met, p8, c8, i + 1, out6, sf, C6, σ6, L6, bs6, f, rfl, hc, W8, K8, ?_, ?_, Q6, ga6, rd6, d6, p6, wr6, inc, hml⟩, by simp only [numAt]; omega⟩
    · have := o8.prefix (n0 := met.length) (by omega)
      rw [List.map_append, List.take_append_of_le_length (by simp), List.take_of_length_le (by simp)] at this
      exact this
    · intro b hb
      refine nrow8 b ?_
      rw [← hb]
      cases p8 <;> rfl

end
end Go.Vc
