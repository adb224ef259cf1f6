/- Checkpoints: what is found on a disk of any bytes. No program in sight. -/
import Derived.Test.YtlidgpojlgochaaGreatDoorS9ZCkJ
set_option maxRecDepth 10000
namespace Go.Vc
open Go Go.Proofs Go.MapKept

theorem get_ne40 {σ : DS} (hg : σ.gone = false) (n : Int) : (getF σ n).2 ≠ 40 := by
  unfold getF DS.read
  by_cases ha : σ.asked n = 0
  · rw [if_pos ha]
    have := open_code (σ.look n.toNat)
    rw [if_neg (by simp)]
    show (openF (σ.look n.toNat)).2.2 ≠ 40
    omega
  · rw [if_neg ha]
    have : σ.asked n ≠ 40 := by
      unfold DS.asked
      rw [hg]
      simp only [Bool.false_eq_true, if_false]
      split <;> decide
    rw [if_pos (by simpa using ha)]
    exact this

theorem newest_on {σ : DS} (hg : σ.gone = false) : (newestF σ).2 = (sortT (okL (takeF σ 0) ++ okL (takeF σ 1)), 0) := newest_eq (take_zero hg 0) (take_zero hg 1)

theorem Rds.newest {σ τ : DS} (x : Rds σ τ) (hg : σ.gone = false) : (newestF τ).2 = (newestF σ).2 := by
  rw [newest_on hg, newest_on (x.gone.trans hg), x.take, x.take]

theorem Rds.findT {σ τ : DS} (x : Rds σ τ) (t : Tk) : (findT τ t).2 = (Go.Vc.findT σ t).2 := by
  have h := Rds.gath (t := t) (t.size + 1) 0 [] x
  unfold Go.Vc.findT
  rw [h]
  split
  · rfl
  · split <;> rfl

theorem Rds.find {σ τ : DS} (x : Rds σ τ) (hg : σ.gone = false) : (findF τ).2 = (findF σ).2 := by
  have h := x.newest hg
  have y : Rds (newestF σ).1 (newestF τ).1 := by
    obtain ⟨r, hr⟩ := newest_rds σ
    obtain ⟨s, hs⟩ := x.trans (newest_rds τ)
    rw [hr, hs]
    exact ⟨s, rfl⟩
  unfold findF
  rw [h]
  split
  · rfl
  · cases (newestF σ).2.1 with
    | nil => rfl
    | cons t l => exact y.findT t

theorem take_right {σ : DS} {s : Int} (h : (takeF σ s).2.1 = true) : rightH σ.safe.length (takeF σ s).1.h = true := by
  unfold takeF at h ⊢
  split
  · rename_i h1
    rw [if_pos h1] at h; cases h
  · rename_i h1
    rw [if_neg h1] at h
    split
    · rename_i h2
      rw [if_pos h2] at h; cases h
    · rename_i h2
      rw [if_neg h2] at h
      exact (of_decide_eq_true h).2.1

theorem newest_right {σ : DS} (hg : σ.gone = false) {t : Tk} (h : t ∈ (newestF σ).2.1) : rightH σ.safe.length t.h = true := by
  rw [newest_on hg] at h
  have h := sortT_mem h
  rcases List.mem_append.1 h with h | h
  all_goals
    unfold okL at h
    split at h
    · rename_i hk
      rw [List.mem_singleton.1 h]
      exact take_right hk
    · cases h

theorem newest_sorted {σ : DS} (hg : σ.gone = false) {a b : Tk} {l : List Tk} (h : (newestF σ).2.1 = a :: b :: l) : b.h.gen ≤ a.h.gen ∧ l = [] := by
  rw [newest_on hg] at h
  obtain ⟨x, hx⟩ : ∃ x, x = okL (takeF σ 0) := ⟨_, rfl⟩
  obtain ⟨y, hy⟩ : ∃ y, y = okL (takeF σ 1) := ⟨_, rfl⟩
  have hxl : x = [] ∨ ∃ u, x = [u] := by rw [hx]; unfold okL; split; exact .inr ⟨_, rfl⟩; exact .inl rfl
  have hyl : y = [] ∨ ∃ u, y = [u] := by rw [hy]; unfold okL; split; exact .inr ⟨_, rfl⟩; exact .inl rfl
  rw [← hx, ← hy] at h
  have h : sortT (x ++ y) = a :: b :: l := h
  rcases hxl with rfl | ⟨u, rfl⟩ <;> rcases hyl with rfl | ⟨v, rfl⟩
  · cases h
  · cases h
  · cases h
  · have h : (if u.h.gen < v.h.gen then [v, u] else [u, v]) = a :: b :: l := h
    split at h
    · simp only [List.cons.injEq] at h
      obtain ⟨rfl, rfl, rfl⟩ := h
      exact ⟨by omega, rfl⟩
    · simp only [List.cons.injEq] at h
      obtain ⟨rfl, rfl, rfl⟩ := h
      exact ⟨by omega, rfl⟩

/-! ## Pieces gathered -/

theorem gath_code {t : Tk} : ∀ (fuel k : Nat) (σ : DS) (acc : List UInt8), σ.gone = false → (gath t fuel k σ acc).2.2 = 0 ∨ (gath t fuel k σ acc).2.2 = 180
  | 0, _, _, _, _ => .inl rfl
  | fuel + 1, k, σ, acc, hg => by
    unfold gath
    split
    · rw [if_neg (get_ne40 hg _)]
      split
      · exact .inr rfl
      · exact gath_code fuel _ _ _ ((Rds.read σ _).gone.trans hg)
    · exact .inl rfl

theorem gath_size {t : Tk} : ∀ (fuel k : Nat) (σ : DS) (acc : List UInt8), acc.length ≤ t.size → t.size + 1 ≤ fuel + acc.length → (gath t fuel k σ acc).2.2 = 0 → (gath t fuel k σ acc).2.1.length = t.size
  | 0, _, _, acc, h1, h2, _ => by omega
  | fuel + 1, k, σ, acc, h1, h2, h => by
    unfold gath at h ⊢
    by_cases hlt : acc.length < t.size
    · rw [if_pos hlt] at h ⊢
      by_cases h40 : (getF σ (placeH t.h + k)).2 = 40
      · rw [if_pos h40] at h; exact absurd (show (40 : Int) = 0 from h) (by decide)
      · rw [if_neg h40] at h ⊢
        by_cases hb : (getF σ (placeH t.h + k)).2 ≠ 0 ∨ ¬ (getF σ (placeH t.h + k)).1.isPiece t.h.gen k (t.size - acc.length)
        · rw [if_pos hb] at h; exact absurd (show (180 : Int) = 0 from h) (by decide)
        · rw [if_neg hb] at h ⊢
          have hp : (getF σ (placeH t.h + k)).1.isPiece t.h.gen k (t.size - acc.length) := Decidable.of_not_not fun hh => hb (.inr hh)
          have hs := hp.2.2.2
          have hl : (acc ++ bl (getF σ (placeH t.h + k)).1.body).length = acc.length + min (t.size - acc.length) 491 := by rw [List.length_append, bl_length, hs]
          exact gath_size fuel _ _ _ (by omega) (by omega) h
    · rw [if_neg hlt]
      show acc.length = _
      omega

theorem read_reads {σ : DS} {n : Int} (h0 : 0 ≤ σ.reads) (h1 : σ.reads ≤ 1000000000) : σ.reads ≤ (σ.read n).1.reads ∧ (σ.read n).1.reads ≤ σ.reads + 1 := by
  unfold DS.read
  split
  · show σ.reads ≤ inc64 σ.reads ∧ inc64 σ.reads ≤ σ.reads + 1
    unfold inc64
    rw [wrapI64 (by omega) (by omega)]
    omega
  · exact ⟨Int.le_refl _, by show σ.reads ≤ σ.reads + 1; omega⟩

theorem newest_reads {σ : DS} (h0 : 0 ≤ σ.reads) (h1 : σ.reads ≤ 1000000) : σ.reads ≤ (newestF σ).1.reads ∧ (newestF σ).1.reads ≤ σ.reads + 2 := by
  have a := read_reads (σ := σ) (n := ((0 : Nat) : Int)) h0 (by omega)
  have b := read_reads (σ := (stN σ 1).1) (n := ((1 : Nat) : Int)) (by show 0 ≤ (σ.read ((0 : Nat) : Int)).1.reads; omega) (by show (σ.read ((0 : Nat) : Int)).1.reads ≤ _; omega)
  have e1 : (stN σ 1).1.reads = (σ.read ((0 : Nat) : Int)).1.reads := rfl
  have e2 : (stN σ 2).1.reads = ((stN σ 1).1.read ((1 : Nat) : Int)).1.reads := rfl
  unfold newestF
  split
  · show σ.reads ≤ (stN σ 1).1.reads ∧ (stN σ 1).1.reads ≤ _; omega
  · split
    · show σ.reads ≤ (stN σ 2).1.reads ∧ (stN σ 2).1.reads ≤ _; omega
    · show σ.reads ≤ (stN σ 2).1.reads ∧ (stN σ 2).1.reads ≤ _; omega

theorem gath_reads {t : Tk} (ht : t.size ≤ 2097152) : ∀ (fuel k : Nat) (σ : DS) (acc : List UInt8), acc.length ≤ t.size → 0 ≤ σ.reads → σ.reads + (t.size - acc.length) ≤ 100000000 →
    σ.reads ≤ (gath t fuel k σ acc).1.reads ∧ (gath t fuel k σ acc).1.reads ≤ σ.reads + ((t.size - acc.length + 490) / 491 : Nat)
  | 0, _, σ, _, _, _, _ => ⟨Int.le_refl _, by show σ.reads ≤ _; omega⟩
  | fuel + 1, k, σ, acc, h1, h0, h2 => by
    have a := read_reads (σ := σ) (n := placeH t.h + k) h0 (by omega)
    unfold gath
    by_cases hlt : acc.length < t.size
    · rw [if_pos hlt]
      by_cases h40 : (getF σ (placeH t.h + k)).2 = 40
      · rw [if_pos h40]
        show σ.reads ≤ (σ.read _).1.reads ∧ (σ.read _).1.reads ≤ _
        omega
      · rw [if_neg h40]
        by_cases hb : (getF σ (placeH t.h + k)).2 ≠ 0 ∨ ¬ (getF σ (placeH t.h + k)).1.isPiece t.h.gen k (t.size - acc.length)
        · rw [if_pos hb]
          show σ.reads ≤ (σ.read _).1.reads ∧ (σ.read _).1.reads ≤ _
          omega
        · rw [if_neg hb]
          have hp : (getF σ (placeH t.h + k)).1.isPiece t.h.gen k (t.size - acc.length) := Decidable.of_not_not fun hh => hb (.inr hh)
          have hs := hp.2.2.2
          have hl : (acc ++ bl (getF σ (placeH t.h + k)).1.body).length = acc.length + min (t.size - acc.length) 491 := by rw [List.length_append, bl_length, hs]
          have := gath_reads ht fuel (k + 1) (σ.read (placeH t.h + k)).1 (acc ++ bl (getF σ (placeH t.h + k)).1.body) (by omega) (by omega) (by omega)
          rw [hl] at this
          omega
    · rw [if_neg hlt]
      show σ.reads ≤ σ.reads ∧ σ.reads ≤ _
      omega

theorem find_reads {σ : DS} {t : Tk} {l : List Tk} (h0 : 0 ≤ σ.reads) (h1 : σ.reads ≤ 1000000) (hl : (newestF σ).2.1 = t :: l) : σ.reads ≤ (findF σ).1.reads ∧ (findF σ).1.reads ≤ σ.reads + 2 + t.h.ls := by
  have ft := newest_fit (σ := σ) (t := t) (by rw [hl]; simp)
  have n2 := ft.n2
  have n1 := ft.n1
  have a := newest_reads h0 h1
  have b := gath_reads n1 (t.size + 1) 0 (newestF σ).1 [] (Nat.zero_le _) (by omega) (by simp; omega)
  simp only [List.length_nil, Nat.sub_zero] at b
  have hb : ((t.size + 490) / 491 : Nat) ≤ t.h.ls := by omega
  unfold findF
  split
  · show σ.reads ≤ (newestF σ).1.reads ∧ (newestF σ).1.reads ≤ _
    have := ft.l0
    omega
  · rw [hl]
    have e : (findT (newestF σ).1 t).1.reads = (gath t (t.size + 1) 0 (newestF σ).1 []).1.reads := by
      unfold findT
      split
      · rfl
      · split <;> rfl
    show σ.reads ≤ (findT (newestF σ).1 t).1.reads ∧ (findT (newestF σ).1 t).1.reads ≤ _
    rw [e]
    omega

/-- What is found: no head; a head whose image is spoilt; or both. -/
theorem find_any {σ : DS} (hg : σ.gone = false) : ((newestF σ).2.1 = [] ∧ (findF σ).2 = (Hd.no, ⟨#[]⟩, 200)) ∨
    ∃ t l, (newestF σ).2.1 = t :: l ∧ ((findF σ).2 = (Hd.no, ⟨#[]⟩, 180) ∨ ∃ im : ByteArray, (findF σ).2 = (t.h, im, 0) ∧ im.size = t.size) := by
  have h0 : (newestF σ).2.2 = 0 := by rw [newest_on hg]
  obtain ⟨l, hl⟩ : ∃ l, (newestF σ).2.1 = l := ⟨_, rfl⟩
  have ef : findF σ = findL (newestF σ).1 l := by
    unfold findF
    rw [if_neg (by simpa using h0), hl]
  cases l with
  | nil => exact .inl ⟨hl, by rw [ef]; rfl⟩
  | cons t l =>
    refine .inr ⟨t, l, hl, ?_⟩
    have hg' : (newestF σ).1.gone = false := (newest_rds σ).gone.trans hg
    have hc := gath_code (t := t) (t.size + 1) 0 (newestF σ).1 [] hg'
    rw [ef]
    show (findT (newestF σ).1 t).2 = _ ∨ ∃ im, (findT (newestF σ).1 t).2 = _ ∧ _
    unfold findT
    rcases hc with hc | hc
    · rw [if_neg (by simpa using hc)]
      split
      · exact .inl rfl
      · refine .inr ⟨_, rfl, ?_⟩
        rw [tx_size]
        exact gath_size (t.size + 1) 0 _ [] (Nat.zero_le _) (by simp) hc
    · rw [if_pos (by rw [hc]; decide)]
      refine .inl ?_
      rw [hc]

theorem flat_take (l : List UInt8) : ∀ n, n * 512 ≤ l.length → ((List.range n).map fun i => (l.drop (i * 512)).take 512).flatten = l.take (n * 512) := by
  intro n
  induction n with
  | zero => intro _; simp
  | succ n ih =>
    intro hn
    rw [List.range_succ, List.map_append, List.flatten_append, ih (by omega)]
    simp only [List.map_cons, List.map_nil, List.flatten_cons, List.flatten_nil, List.append_nil]
    rw [Nat.succ_mul, List.take_add]

theorem image_chunks {image : ByteArray} (hok : LoadOk image) {σ : DS} (h : σ.safe = chunks image) : σ.image = image := by
  apply bl_inj
  have h1 := hok.1
  have hl : image.data.toList.length = image.size := by simp
  have := flat_take image.data.toList (image.size / 512) (by omega)
  have e : ((chunks image).map fun b => b.data.toList) = (List.range (image.size / 512)).map fun i => (image.data.toList.drop (i * 512)).take 512 := by
    unfold chunks
    rw [List.map_map]
    apply List.map_congr_left
    intro i _
    show (image.extract _ _).data.toList = _
    rw [Lib.extract_data, Nat.succ_mul, Nat.add_sub_cancel_left]
  show ((σ.safe.map fun b => b.data.toList).flatten).toArray.toList = image.data.toList
  rw [h, e, this, List.take_of_length_le (by omega)]

end Go.Vc
