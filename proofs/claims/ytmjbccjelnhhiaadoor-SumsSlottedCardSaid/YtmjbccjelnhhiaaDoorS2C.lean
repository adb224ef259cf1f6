/- Contracts of the sums' laws' own functions; the law SumsSums. -/
import Derived.Test.YtmjbccjelnhhiaaDoorS2B
set_option maxRecDepth 10000
namespace Go.Vc
open Go Go.Proofs Go.MapKept

def behind : ByteArray := ⟨#[98, 101, 104, 105, 110, 100, 32, 105, 116]⟩

theorem cutP_zero {p : Option Addr} {c : Nat} : cutP p c 0 1 = p := by
  unfold cutP
  split
  · rfl
  · cases p with
    | none => rfl
    | some a => simp [Addr.add]

/-- turnoutlaw02.lent -/
theorem lent_16 (l : List ByteArray) (hn : l.length ≤ 8796093022208) (h : Hp) {p : Option Addr} {n c : Nat} (hs : Seg h p n (l.map Value.string)) :
    CallsH Tryd.prog 16 #[.slice p n c] h fun e h' => Ext h h' ∧ ∃ p' c', e = .returned (.slice p' (n + 1) c') ∧ Own h' h.size 9 1 (.slice p' (n + 1) c') (n + 1) ((l ++ [behind]).map Value.string) := by
  have hln : l.length = n := by have := hs.1; simpa using this
  refine V16 _ _ _ h _ ⟨fun l' hp => ∃ (i : Nat) (p' : Option Addr) (c' : Nat), i ≤ l.length ∧ l' = [.slice p' i c', .int .i64 i] ∧ Own hp h.size 9 1 (.slice p' i c') i ((l.take i).map Value.string) ∧ Ext h hp, fun l' _ => (l.length - numAt l' 1).toNat,
    ⟨0, none, 0, Nat.zero_le _, rfl, Own.nil _ _ _ _, Ext.refl h⟩, ?_⟩
  rintro p1 n1 c1 x hp ⟨i, p', c', hi, hl', hown, hx⟩
  cases hl'
  refine ⟨fun hc => ?_, fun hc => ?_⟩
  · have hc : n1 < l.length := by simp at hc; omega
    refine (hs.ext hx).text hc ?_
    refine semH_push row23 hown (vs := [.string l[n1]]) (m := 1) rfl rfl (by simp) (by simp) (by simp [Value.oneCell']) (by omega) (by simp only [maxLen]; omega) hx.size fun p2 c2 h2 ho hg _ _ => ?_
    refine ⟨_, incI (by omega), ⟨n1 + 1, p2, c2, hc, rfl, ?_, hx.own hown (Nat.le_refl _) hg⟩, by simp only [numAt]; omega⟩
    rw [take_one hc, List.map_append]; exact ho
  · have hc : n1 = l.length := by simp at hc; omega
    subst hc
    refine semH_push row23 hown (vs := [.string behind]) (m := 1) rfl rfl (by simp) (by simp) (by simp [Value.oneCell']) (by omega) (by simp only [maxLen]; omega) hx.size fun p2 c2 h2 ho hg _ _ => ?_
    refine ⟨hx.own hown (Nat.le_refl _) hg, p2, c2, by rw [hln], ?_⟩
    rw [List.map_append, ← hln]
    rw [List.take_length] at ho
    exact ho

/-- turnoutlaw02.back -/
theorem back_18 (l : List ByteArray) (hn : l.length ≤ 8796093022208) (h : Hp) {p q : Option Addr} {n m c d : Nat} (ha : Seg h q m ((l ++ [behind]).map Value.string)) (hs : Seg h p n (l.map Value.string)) :
    CallsH Tryd.prog 18 #[.slice q m d, .slice p n c] h (Ret (.bool true) h) := by
  have hln : l.length = n := by have := hs.1; simpa using this
  refine V18 _ _ _ _ _ _ h _ ⟨fun l' hp => hp = h ∧ ∃ (i : Nat), i ≤ l.length ∧ l' = [.int .i64 i], fun l' _ => (l.length - numAt l' 0).toNat, ⟨rfl, 0, Nat.zero_le _, rfl⟩, ?_⟩
  rintro x hp ⟨rfl, i, hi, hl'⟩
  cases hl'
  refine ⟨fun hc => ?_, fun hc => ?_⟩
  · have hc : i < l.length := by simp at hc; omega
    refine ha.text (i := i) (by simp; omega) (hs.text hc ⟨fun hne => ?_, fun _ => ⟨_, incI (by omega), ⟨rfl, i + 1, hc, rfl⟩, by simp only [numAt]; omega⟩⟩)
    rw [List.getElem_append_left hc] at hne
    simp at hne
  · have hc : i = l.length := by simp at hc; omega
    subst hc
    have := ha.text (i := l.length) (by simp) (K := fun x => Ret (.bool true) hp (.returned (.bool (decide (x = (⟨#[98, 101, 104, 105, 110, 100, 32, 105, 116]⟩ : ByteArray))))) hp) ⟨by simp [behind], rfl⟩
    rw [hln] at this
    exact this

theorem foldl_more (l : List ByteArray) (i : Nat) (hi : i < l.length) : sumB (l.take (i + 1)) = moreB (sumB (l.take i)) (bl l[i]) := by
  rw [take_one hi, sumB_more]

/-- turnoutlaw02.SumsSums -/
theorem law_6 (l : List ByteArray) (hl : ∀ b ∈ l, b.size ≤ maxLen) (hn : l.length ≤ 8796093022207) (s : W32) (b : ByteArray) (hb : b.size ≤ maxLen) (h : Hp) (hh : Halves h) {p : Option Addr} {n c : Nat} (hs : Seg h p n (l.map Value.string)) :
    CallsH Tryd.prog 6 #[.slice p n c, vW s, .string b] h (RetX (.bool true) h) := by
  have hln : l.length = n := by have := hs.1; simpa using this
  refine V6 _ _ _ _ _ h _ ((live_12 h hh).mono ?_)
  rintro e h1 ⟨rfl, hx1⟩
  refine ⟨_, rfl, (lent_16 l (by omega) h1 (hs.ext hx1)).mono ?_⟩
  rintro e h2 ⟨hx2, p2, c2, rfl, hown⟩
  have hx : Ext h h2 := hx1.trans hx2
  have hs2 := hs.ext hx
  have hh2 := hh.ext hx
  have hseg : Seg h2 p2 (n + 1) ((l ++ [behind]).map Value.string) := hown.seg
  have hseg' : Seg h2 p2 n (l.map Value.string) := by
    have := hseg.drop (l := 0) (m := n) (Nat.zero_le _) (by omega) (p' := p2) (fun _ => by cases p2 <;> simp [Addr.add])
    simpa [hln] using this
  refine ⟨_, _, _, rfl, fun l' hp => hp = h2 ∧ ∃ i : Nat, i ≤ l.length ∧ l' = [vW (sumB (l.take i)), .int .i64 i], fun l' _ => (l.length - numAt l' 1).toNat, ⟨rfl, 0, Nat.zero_le _, by rw [List.take_zero, show sumB [] = 0#32 by decide]; rfl⟩, ?_⟩
  rintro w x hp ⟨rfl, i, hi, hl'⟩
  cases hl'
  refine ⟨fun hc => ?_, fun hc => ?_⟩
  · have hc : i < l.length := by simp at hc; omega
    refine hs2.text hc ((more_21 _ _ (hl _ (List.getElem_mem hc)) _).mono ?_)
    rintro e h3 ⟨rfl, rfl⟩
    exact ⟨_, rfl, _, incI (by omega), ⟨rfl, i + 1, hc, by rw [foldl_more l i hc]⟩, by simp only [numAt]; omega⟩
  · have hc : i = l.length := by simp at hc; omega
    subst hc
    rw [List.take_length]
    have hc2 := hown.len.2.2
    refine ⟨n, rfl, Nat.zero_le _, by omega, _, cutP_zero, (sum_20 l hl hp hh2 hseg' (by simp only [maxLen]; omega)).mono ?_⟩
    rintro e h3 ⟨rfl, rfl⟩
    refine ⟨_, rfl, n, rfl, Nat.zero_le _, by omega, _, cutP_zero, (sum_20 l hl h3 hh2 hseg' (by simp only [maxLen]; omega)).mono ?_⟩
    rintro e h4 ⟨rfl, rfl⟩
    refine ⟨_, rfl, (back_18 l (by omega) h4 hseg hs2).mono ?_⟩
    rintro e h5 ⟨rfl, rfl⟩
    refine ⟨_, rfl, (more_22 s b hb h5 hh2).mono ?_⟩
    rintro e h6 ⟨rfl, rfl⟩
    refine ⟨_, rfl, (more_21 s b hb h6).mono ?_⟩
    rintro e h7 ⟨rfl, rfl⟩
    exact ⟨_, rfl, true, ⟨fun _ => ⟨fun _ => ⟨fun _ => ⟨fun _ => ⟨rfl, by simp⟩, fun hf => by simp at hf⟩, fun hf => by simp at hf⟩, fun hf => by simp at hf⟩, fun hf => by simp at hf⟩, rfl, hx⟩

end Go.Vc
