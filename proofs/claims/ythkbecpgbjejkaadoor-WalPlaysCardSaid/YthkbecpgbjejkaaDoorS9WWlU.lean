/- The log's laws: steps over a log. -/
import Derived.Test.YthkbecpgbjejkaaDoorS9WWlS
set_option maxRecDepth 10000
namespace Go.Vc
open Go Go.Proofs Go.MapKept

theorem appL_more {σ : DS} {L : Lg} {s : ByteArray} : (appL σ L s).1.pend.length ≤ σ.pend.length + s.size := by
  unfold appL
  by_cases h1 : L.dead = true
  · rw [if_pos h1]; exact Nat.le_add_right _ _
  rw [if_neg h1]
  by_cases h2 : s = ⟨#[]⟩
  · rw [if_pos h2]; exact Nat.le_add_right _ _
  rw [if_neg h2]
  by_cases h3 : 65536 < s.size
  · rw [if_pos h3]; exact Nat.le_add_right _ _
  rw [if_neg h3]
  by_cases h4 : L.free < s.size
  · rw [if_pos h4]; exact Nat.le_add_right _ _
  rw [if_neg h4]
  exact appR_more _ _ _ _ _

def stpV (s : Int × Bool) : List Value := [vZ s.1, .bool s.2]

section
variable {h : Hp}

/-- turnoutlaw19.same -/
theorem same_c {xp yp : Option Addr} {xn xc yn yc : Nat} {xs ys : List ByteArray} (hx : Seg h xp xn (xs.map Value.string)) (hy : Seg h yp yn (ys.map Value.string)) (hl : xn ≤ 9223372036854775806) :
    CallsH Tryd.prog 30 #[.slice xp xn xc, .slice yp yn yc] h fun e h' => h' = h ∧ e = .returned (.bool (decide (xs = ys))) := by
  have lx : xs.length = xn := by have := hx.1; simpa using this
  have ly : ys.length = yn := by have := hy.1; simpa using this
  refine V30 _ _ _ _ _ _ h _ ⟨fun hne => ⟨rfl, ?_⟩, fun heq => ?_⟩
  · have hne : (xn : Int) ≠ yn := of_decide_eq_true hne
    rw [decide_eq_false fun e => hne (by rw [← lx, ← ly, e])]
  have heq : xn = yn := by have := of_decide_eq_false heq; omega
  refine ⟨fun l hq => ∃ i : Nat, l = [vI i] ∧ i ≤ xn ∧ hq = h ∧ xs.take i = ys.take i, fun l _ => (xn - numAt l 0).toNat, ⟨0, rfl, Nat.zero_le _, rfl, rfl⟩, ?_⟩
  rintro x hq ⟨i, hl', hi, rfl, ht⟩
  cases hl'
  refine ⟨fun hc => ?_, fun hc => ⟨rfl, ?_⟩⟩
  · have hc : i < xn := by have := of_decide_eq_true hc; omega
    obtain ⟨b1, o1, hp1, c1⟩ := hx.at (i := i) (by simp; omega)
    obtain ⟨b2, o2, hp2, c2⟩ := hy.at (i := i) (by simp; omega)
    rw [List.getElem_map] at c1 c2
    refine ⟨b1, o1, hp1, by omega, by omega, _, c1, b2, o2, hp2, by omega, by omega, _, c2, fun hne => ⟨rfl, ?_⟩, fun he => ?_⟩
    · have hne := of_decide_eq_true hne
      rw [decide_eq_false]
      rintro rfl
      exact hne rfl
    · have he := of_decide_eq_false he
      refine ⟨_, incI (by omega), ⟨i + 1, rfl, hc, rfl, ?_⟩, by simp only [numAt]; omega⟩
      have he : xs[i]'(by omega) = ys[i]'(by omega) := Decidable.of_not_not he
      rw [List.take_add_one, List.take_add_one, ht, List.getElem?_eq_getElem (by omega), List.getElem?_eq_getElem (by omega), he]
  · have hc : i = xn := by have := of_decide_eq_false hc; omega
    rw [List.take_of_length_le (by omega), List.take_of_length_le (by omega)] at ht
    rw [decide_eq_true ht]

/-- turnoutlaw19.some -/
theorem some_c {p : Option Addr} {n c : Nat} {steps : List (Int × Bool)} (hs : SegS h p n 2 (steps.map stpV)) (hc : n ≤ c) :
    CallsH Tryd.prog 21 #[.slice p n c] h fun e h' => h' = h ∧ ∃ n' c', e = .returned (.slice p n' c') ∧ SegS h p n' 2 ((steps.take 40).map stpV) := by
  have hl : steps.length = n := by have := hs.1; simpa using this
  refine V21 _ _ _ h _ ⟨fun h40 => ?_, fun h40 => ⟨rfl, n, c, rfl, ?_⟩⟩
  · have h40 : (40 : Int) < n := of_decide_eq_true h40
    have hz : cutP p c 0 2 = p := by
      unfold cutP
      split
      · rfl
      · cases p <;> rfl
    refine ⟨40, rfl, Nat.zero_le _, by omega, p, hz, rfl, 40, c, rfl, ?_⟩
    obtain ⟨h1, h2, h3⟩ := hs
    refine ⟨by simp; omega, fun r hr => ?_, ?_⟩
    · obtain ⟨s, _, rfl⟩ := List.mem_map.1 hr; rfl
    · rcases h3 with h3 | ⟨b, o, hp, hcell⟩
      · exfalso
        rw [List.map_eq_nil_iff] at h3
        rw [h3] at hl; simp at hl; omega
      · refine .inr ⟨b, o, hp, cellsAt_iff.2 fun j hj => ?_⟩
        have hpre : ((steps.take 40).map stpV).flatten <+: (steps.map stpV).flatten := by
          refine ⟨((steps.drop 40).map stpV).flatten, ?_⟩
          rw [← List.flatten_append, ← List.map_append, List.take_append_drop]
        have hjl := Nat.lt_of_lt_of_le hj hpre.length_le
        have := cellsAt_iff.1 hcell j hjl
        rw [this, hpre.getElem hj]
  · have h40 : ¬ (40 : Int) < n := of_decide_eq_false h40
    rw [List.take_of_length_le (by omega)]
    exact hs

end

/-- How steps over a log end. -/
def WroteEnd (S : List ByteArray) (first count e : Nat) (out : List ByteArray) (sf : Nat) (p0 : Nat) (σ : DS) (L : Lg) : Prop :=
  (∃ bodies f, LogIs S first count e bodies f sf ⟨out, [], false⟩ σ L ∧ σ.gone = false ∧ L.Rdy ∧ L.dead = false ∧ (p0 = 0 → σ.plan = 0)) ∨
  (∃ f, σ.gone = true ∧ L.dead = true ∧ Ended S first count e f sf out σ ∧ p0 ≠ 0)

section
variable {C : Nat → Prop} {h : Hp} {a0 a1 : Addr} {d l : Nat} {σ : DS} {L : Lg} {S : List ByteArray} {first count e f : Nat} {bodies : List (List UInt8)}

set_option maxHeartbeats 2000000 in
/-- turnoutlaw19.wrote -/
theorem wrote_c (W : LD C h d σ l L) (g : Gl C h a0 a1) (B : Base S first count e) (Q : LogIs S first count e bodies f 0 ⟨[], [], false⟩ σ L) (hg : σ.gone = false) (rd : L.Rdy) (hd : L.dead = false) (hpl : σ.pend.length ≤ 1000000)
    {sp : Option Addr} {sn sc : Nat} {steps : List (Int × Bool)} (hs : SegS h sp sn 2 (steps.map stpV)) (hsB : ∀ b o, sp = some ⟨b, o, none⟩ → steps ≠ [] → ¬ C b) (hsn : sn ≤ 40) (hst : ∀ s ∈ steps, -9223372036854775808 ≤ s.1 ∧ s.1 ≤ 9223372036854775807) (w : Int) (hw0 : -1000000 ≤ w) (hw1 : w ≤ 1000000) :
    CallsH Tryd.prog 20 #[vP l, .slice sp sn sc, vZ w] h fun en hs => ∃ C' σ' L' out p c sf, en = .returned (.tuple #[.slice p out.length c, vI sf, .bool true]) ∧ LD C' hs d σ' l L' ∧ Kp C h C' hs ∧ WroteEnd S first count e out sf σ.plan σ' L' ∧
      Own hs h.size 9 1 (.slice p out.length c) out.length (out.map Value.string) ∧ (∀ b, (Value.slice p out.length c).ownBlock = some b → ¬ C' b) ∧ out.length ≤ 40 ∧ sf ≤ out.length ∧ σ'.pend.length ≤ σ.pend.length + 50000 := by
  have hsl : steps.length = sn := by have := hs.1; simpa using this
  refine V20 _ _ _ _ _ h _ ⟨fun v hq => ∃ (out : List ByteArray) (p : Option Addr) (c i sf : Nat) (C1 : Nat → Prop) (τ : DS) (M : Lg) (bs : List (List UInt8)) (f1 : Nat), v = [.slice p out.length c, vI sf, vI i] ∧ i ≤ sn ∧ LD C1 hq d τ l M ∧ Kp C h C1 hq ∧
      Own hq h.size 9 1 (.slice p out.length c) out.length (out.map Value.string) ∧ (∀ b, (Value.slice p out.length c).ownBlock = some b → ¬ C1 b) ∧ LogIs S first count e bs f1 sf ⟨out, [], false⟩ τ M ∧ τ.gone = false ∧ M.Rdy ∧ M.dead = false ∧ (σ.plan = 0 → τ.plan = 0) ∧ τ.pend.length ≤ σ.pend.length + 1201 * i ∧ out.length ≤ i ∧ sf ≤ out.length,
    fun v _ => (sn - numAt v 2).toNat, ⟨[], none, 0, 0, 0, C, σ, L, bodies, f, rfl, Nat.zero_le _, W, Kp.refl _ _, Own.nil _ _ _ _, fun b hb => (by cases hb), Q, hg, rd, hd, fun h => h, Nat.le_refl _, Nat.le_refl _, Nat.le_refl _⟩, ?_⟩
  rintro p n0 c sv x hq ⟨out, p_, c_, i, sf, C1, τ, M, bs, f1, hv, hi, W1, K1, row, nrow, Q1, g1, rd1, d1, hp0, hpn, hol, hsf⟩
  cases hv
  refine ⟨fun hc => ?_, fun hc => ?_⟩
  rotate_left
  · exact ⟨C1, τ, M, out, p, c, sf, rfl, W1, K1, .inl ⟨bs, f1, Q1, g1, rd1, d1, hp0⟩, row, nrow, by omega, hsf, by omega⟩
  have hc : i < sn := by have := of_decide_eq_true hc; omega
  have hil : i < steps.length := by omega
  have hne : steps ≠ [] := fun e => by rw [e] at hil; simp at hil
  have segq : ∀ {C' : Nat → Prop} {g' : Hp}, Kp C h C' g' → SegS g' sp sn 2 (steps.map stpV) := fun {C' g'} K => hs.keep fun b o hp h0 => (K.2 b (hs.block (by decide) hp h0) (hsB b o hp hne)).2
  obtain ⟨N, sy, hst1⟩ : ∃ N sy, steps[i] = (N, sy) := ⟨_, _, rfl⟩
  have hrow : (steps.map stpV)[i]'(by simpa using hil) = [vZ N, .bool sy] := by rw [List.getElem_map, hst1]; rfl
  have hN := hst _ (List.getElem_mem hil)
  rw [hst1] at hN
  obtain ⟨b1, o1, hp1, z1, z2, hget⟩ := (segq K1).get (i := i) (by simpa using hil)
  have hx0 := hget 0 (vZ N) (by rw [hrow]; rfl)
  have hpk : pickN N 1200 < 1200 := Nat.mod_lt _ (by decide)
  refine ⟨b1, o1, hp1, z1, z2, N, hx0, (pick_c N 1200 (by decide) hN.1 hN.2 hq).mono ?_⟩
  rintro en h1 ⟨rfl, rfl⟩
  refine ⟨_, rfl, ((1 + pickN N 1200 : Nat) : Int), by rw [wrapI64] <;> omega, (w + i : Int), wrapI64 (by omega) (by omega), (longW_c (1 + pickN N 1200) (w + i) (by omega) h1).mono ?_⟩
  rintro en h2 ⟨x2, rfl⟩
  obtain ⟨r, hr⟩ : ∃ r, r = longW (1 + pickN N 1200) (w + i) := ⟨_, rfl⟩
  have hrs : r.size = 1 + pickN N 1200 := by rw [hr, longW_size]
  have hrn : r ≠ ⟨#[]⟩ := fun e => by rw [e] at hrs; have : (0 : Nat) = 1 + pickN N 1200 := hrs; omega
  rw [← hr]
  have W2 := W1.ext x2
  have g2 : Gl C1 h2 a0 a1 := (g.kp K1).ext x2
  refine ⟨_, rfl, (free_c W2 rd1.ok).mono ?_⟩
  rintro en h3 ⟨rfl, rfl⟩
  refine ⟨_, rfl, (lappend_c W2 rd1 g2.hh g2.n0 r (by omega)).mono ?_⟩
  rintro en h4 ⟨C4, W4, k4, rfl⟩
  have K4 : Kp C h C4 h4 := (K1.trans (Kp.ext C1 x2)).trans k4
  obtain ⟨row4, nrow4⟩ := k4.own (row.ext x2) nrow
  have hm4 : (appL τ M r).1.pend.length ≤ τ.pend.length + 1200 := by have := @appL_more τ M r; omega
  have rd4 := appL_rdy (σ := τ) (s := r) rd1
  -- what is done behind the record, whichever way
  let J : List Value → Hp → Prop := fun v hq => ∃ (out' : List ByteArray) (p' : Option Addr) (c' : Nat) (C1 : Nat → Prop) (τ' : DS) (M' : Lg) (bs' : List (List UInt8)), v = [.slice p' out'.length c'] ∧ LD C1 hq d τ' l M' ∧ Kp C h C1 hq ∧
      Own hq h.size 9 1 (.slice p' out'.length c') out'.length (out'.map Value.string) ∧ (∀ b, (Value.slice p' out'.length c').ownBlock = some b → ¬ C1 b) ∧ LogIs S first count e bs' f1 sf ⟨out', [], false⟩ τ' M' ∧ τ'.gone = false ∧ M'.Rdy ∧ M'.dead = false ∧ (σ.plan = 0 → τ'.plan = 0) ∧ τ'.pend.length ≤ σ.pend.length + 1201 * i + 1200 ∧ out'.length ≤ i + 1 ∧ sf ≤ out'.length
  refine ⟨_, rfl, J, ?_, ?_⟩
  · rcases append_law B Q1 g1 rd1 d1 r hrn (by omega) with ⟨hf, e1⟩ | ⟨hf, c1, ga, ⟨bs', Qa⟩, da, pa⟩ | ⟨hf, c1, ga, da, Ea, pa⟩
    · rw [e1] at W4 hm4 ⊢
      refine ⟨false, ⟨fun hh => (by simp at hh), fun _ => ⟨rfl, rfl⟩⟩, fun hh => (by cases hh), fun _ => ⟨true, ⟨fun _ => ⟨rfl, ?_⟩, fun hh => (by simp at hh)⟩, fun _ => ?_, fun hh => (by cases hh)⟩⟩
      · exact (decide_eq_true (by omega)).symm
      · exact ⟨out, p, c, C4, τ, M, bs, rfl, W4, K4, row4, nrow4, Q1, g1, rd1, d1, hp0, by omega, by omega, hsf⟩
    · refine ⟨true, ⟨fun _ => ⟨rfl, (decide_eq_true (by omega)).symm⟩, fun hh => (by rw [c1] at hh; simp at hh)⟩, fun _ => ?_, fun hh => (by cases hh)⟩
      refine semH_push rowS row4 (vs := [.string r]) (m := 1) rfl rfl (by simp) (by simp) (by simp [Value.oneCell']) (by omega) (by simp only [maxLen]; omega) (by have := K4.1; omega) fun p' c' h5 o5 gr5 _ b5 => ?_
      have k5 : Kp C h C4 h5 := ⟨Nat.le_trans K4.1 gr5.size, fun b hb hn => ⟨(K4.2 b hb hn).1, (gr5.block b (Nat.lt_of_lt_of_le hb K4.1) fun e => by have := (row4.lt e.symm).1; omega).trans (K4.2 b hb hn).2⟩⟩
      have hl5 : (out ++ [r]).length = out.length + 1 := by simp
      refine ⟨out ++ [r], p', c', C4, (appL τ M r).1, (appL τ M r).2.1, bs', by rw [hl5], W4.keep gr5.size fun b hb => gr5.block b (W4.lt b hb) fun e => nrow4 b e.symm hb, k5, ?_, ?_, Qa, ga, rd4, da, fun h => pa (hp0 h), by omega, by omega, by omega⟩
      · rw [hl5, List.map_append]; exact o5
      · intro b hb
        rw [hl5] at hb
        rcases b5 with e | ⟨b', e, hl⟩
        · rw [e] at hb; exact nrow4 b hb
        · rw [e] at hb; cases hb
          exact fun hc => by have := W4.lt _ hc; omega
    · refine ⟨false, ⟨fun hh => (by rw [c1] at hh; simp at hh), fun _ => ⟨rfl, rfl⟩⟩, fun hh => (by cases hh), fun _ => ⟨false, ⟨fun hh => (by rw [c1] at hh; simp at hh), fun _ => ⟨rfl, rfl⟩⟩, fun hh => (by cases hh), fun _ => ⟨true, ⟨fun _ => ⟨fun _ => ⟨rfl, rfl⟩, fun hh => ?_⟩, fun hh => (by rw [c1] at hh; simp at hh)⟩, fun _ => ?_, fun hh => (by cases hh)⟩⟩⟩
      · have := of_decide_eq_false hh; omega
      · exact ⟨C4, _, _, out, p, c, sf, rfl, W4, K4, .inr ⟨f1, ga, da, Ea, fun h => pa (hp0 h)⟩, row4, nrow4, by omega, hsf, by omega⟩
  · rintro p' n1 c' h7 ⟨out', p_, c_, C7, τ', M', bs', hv, W7, K7, row7, nrow7, Q7, g7, rd7, d7, hp7, hpn7, hol7, hsf7⟩
    cases hv
    obtain ⟨b2, o2, hp2, z3, z4, hget2⟩ := (segq K7).get (i := i) (by simpa using hil)
    have hx1 := hget2 1 (.bool sy) (by rw [hrow]; rfl)
    refine ⟨b2, o2, hp2, z3, z4, sy, hx1, fun hsy => ?_, fun hsy => ?_⟩
    rotate_left
    · exact ⟨_, incI (by omega), ⟨out', p', c', i + 1, sf, C7, τ', M', bs', f1, rfl, hc, W7, K7, row7, nrow7, Q7, g7, rd7, d7, hp7, by omega, by omega, hsf7⟩, by simp only [numAt]; omega⟩
    have G7 := g.kp K7
    refine (lsync_c W7 rd7.ok G7.hh G7.n0 (by omega)).mono ?_
    rintro en h8 ⟨C8, W8, k8, rfl⟩
    have K8 := K7.trans k8
    obtain ⟨row8, nrow8⟩ := k8.own row7 nrow7
    have hm8 := @syncL_more τ' M'
    have rd8 := syncL_rdy (σ := τ') rd7
    rcases sync_law B Q7 g7 rd7 d7 with ⟨c1, ga, ⟨bs'', Qa⟩, da, oa, pa⟩ | ⟨c1, ga, da, Ea, pa⟩
    · refine ⟨_, rfl, fun hh => (by rw [c1] at hh; simp at hh), fun _ => ⟨fun hh => (by rw [c1] at hh; simp at hh), fun _ => ⟨_, incI (by omega), ⟨out', p', c', i + 1, out'.length, C8, _, _, bs'', bs''.length, rfl, hc, W8, K8, row8, nrow8, Qa, ga, rd8, da, fun h => pa (hp7 h), by omega, by omega, Nat.le_refl _⟩, by simp only [numAt]; omega⟩⟩⟩
    · refine ⟨_, rfl, fun _ => ?_, fun hh => (by rw [c1] at hh; simp at hh)⟩
      exact ⟨C8, _, _, out', p', c', sf, rfl, W8, K8, .inr ⟨f1, ga, da, Ea, fun h => pa (hp7 h)⟩, row8, nrow8, by omega, hsf7, by omega⟩

end
end Go.Vc
