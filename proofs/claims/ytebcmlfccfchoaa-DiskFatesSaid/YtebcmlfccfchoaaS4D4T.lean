/- DiskFates: the walk. -/
import Derived.Test.YtebcmlfccfchoaaS4D4F
set_option maxRecDepth 10000
namespace Go.Vc
open Go Go.Proofs Go.MapKept

/-- Writes into the sectors in their order. -/
def rowW (l : List Put) (m : Nat) : List (Nat × ByteArray) := (List.range m).map fun i => (i, ((l[i]?).map fun p => fullT p.fill p.ends).getD zero512)

theorem rowW_succ {l : List Put} {m : Nat} (hm : m < l.length) : rowW l (m + 1) = rowW l m ++ [(m, fullT l[m].fill l[m].ends)] := by
  unfold rowW
  rw [List.range_succ, List.map_append]
  simp [hm]

theorem rowW_size {l : List Put} {m : Nat} (hm : m ≤ l.length) : ∀ x ∈ rowW l m, x.2.size = 512 := by
  intro x hx
  obtain ⟨i, hi, rfl⟩ := List.mem_map.1 hx
  have := List.mem_range.1 hi
  rw [List.getElem?_eq_getElem (by omega)]
  exact fullT_size _ _

theorem rowW_take (l : List Put) {m i : Nat} (hi : i ≤ m) : (rowW l m).take i = rowW l i := by
  unfold rowW
  rw [← List.map_take, List.take_range, Nat.min_eq_left hi]

theorem fates_at {safe : List ByteArray} {l : List Put} {m : Nat} (hm : m ≤ safe.length) (hl : m ≤ l.length) (fates : List (Int × Int)) {j : Nat} (hj : j < safe.length) : ∀ i (_ : i ≤ m),
    (layFates safe (rowW l i) fates)[j]? = some (if h : j < i ∧ j < fates.length then layT safe[j] (fullT (l[j]'(by omega)).fill (l[j]'(by omega)).ends) (keptN fates[j]) else safe[j]) := by
  intro i
  induction i with
  | zero => intro _; rw [dif_neg (by omega)]; simp [rowW, layFates, hj]
  | succ i ih =>
    intro hi
    have ih := ih (by omega)
    rcases Nat.lt_or_ge i fates.length with hf | hf
    · have hlen : (rowW l m).length = m := by simp [rowW]
      have e := layFates_take (l := rowW l m) (i := i) (by omega) hf safe
      rw [rowW_take l (by omega), rowW_take l (by omega)] at e
      have e2 : (rowW l m)[i]'(by omega) = (i, fullT (l[i]'(by omega)).fill (l[i]'(by omega)).ends) := by
        simp only [rowW, List.getElem_map, List.getElem_range]
        rw [List.getElem?_eq_getElem (by omega)]; rfl
      rw [e, e2]
      unfold layD
      rw [List.getElem?_modify, ih]
      by_cases hij : i = j
      · subst hij
        rw [dif_neg (by omega), dif_pos ⟨by omega, hf⟩]; simp
      · show Option.map _ _ = _
        by_cases hlt : j < i ∧ j < fates.length
        · rw [dif_pos hlt, dif_pos ⟨by omega, hlt.2⟩]; simp [hij]
        · rw [dif_neg hlt, dif_neg (by omega)]; simp [hij]
    · have hlen : (rowW l m).length = m := by simp [rowW]
      have e1 := layFates_short (l := rowW l m) (fates := fates) (i := i) hf safe
      have e2 := layFates_short (l := rowW l m) (fates := fates) (i := i + 1) (by omega) safe
      rw [rowW_take l (by omega)] at e1 e2
      rw [e2, ← e1, ih]
      by_cases hlt : j < i ∧ j < fates.length
      · rw [dif_pos hlt, dif_pos ⟨by omega, hlt.2⟩]
      · rw [dif_neg hlt, dif_neg (by omega)]

/-- turnoutlaw04.DiskFates -/
theorem fates_law (first behind : List Put) (fates : List (Int × Int)) (hfo : ∀ x ∈ first, PutOk x) (hfl : first.length ≤ 8796093022208) (hbl : behind.length ≤ 8796093022208) (h : Hp)
    {p q r : Option Addr} {k m t c c' c'' : Nat} (hf : SegS h p k 3 (first.map putV)) (hb : SegS h q m 3 (behind.map putV)) (ht : SegS h r t 2 (fates.map fateV)) :
    CallsH Try.prog 4 #[.slice p k c, .slice q m c', .slice r t c''] h (RetX (.bool true) h) := by
  have hkb : behind.length = m := by have := hb.1; simpa using this
  have hkt : fates.length = t := by have := ht.1; simpa using this
  refine V4 _ _ _ _ _ _ _ _ _ h _ ((awake_c h).mono ?_)
  rintro e h0 ⟨x0, rfl⟩
  refine ⟨_, rfl, ((1 + behind.length : Nat) : Int), by rw [wrapI64] <;> omega, fun l hq => hq = h0 ∧ ∃ n : Nat, 1 ≤ n ∧ n ≤ 60 ∧ n ≤ 1 + behind.length ∧ (n ≤ behind.length → n = 60) ∧ l = [vI n], ⟨fun hc => ⟨rfl, 60, by omega, by omega, by simp at hc; omega, fun _ => rfl, rfl⟩, fun hc => ⟨rfl, 1 + behind.length, by omega, by simp at hc; omega, by omega, by omega, rfl⟩⟩, ?_⟩
  rintro nn h0' ⟨rfl, n, hn1, hn60, hnb, hnn, hl⟩
  cases hl
  refine (written_c n hn1 (by omega) first [] hfo (by simp) hfl (by simp) h0' (hf.ext x0) (SegS.nil _ _)).mono ?_
  rintro e h1 ⟨d, F1, rfl⟩
  refine ⟨_, rfl, fun l hq => l = [] ∧ hq = h1, ⟨false, ⟨fun hf => (by cases hf), fun _ => ⟨false, eqv_ptr uPD _, rfl, rfl⟩⟩, fun hB => (by cases hB), fun _ => ⟨rfl, rfl⟩⟩, ?_⟩
  rintro h2 ⟨_, rfl⟩
  obtain ⟨S, hS⟩ : ∃ S, S = (writtenS n first []).safe := ⟨_, rfl⟩
  have hSl : S.length = n := by rw [hS]; exact laid_len n first
  have okS := F1.2.ok
  have hsz := image_size okS
  rw [← hS, hSl] at hsz
  refine (image_c F1.2).mono ?_
  rintro e h3 ⟨x3, rfl⟩
  have F3 := F1.ext x3
  obtain ⟨M, hM⟩ : ∃ M, M = min n behind.length := ⟨_, rfl⟩
  -- the writes
  refine ⟨_, rfl, fun l hq => l = [] ∧ Fresh h0' hq d { writtenS n first [] with pend := rowW behind M, writes := (first.length : Int) + (M : Int) }, ⟨fun l hq => ∃ i : Nat, i ≤ M ∧ l = [vI i] ∧ Fresh h0' hq d { writtenS n first [] with pend := rowW behind i, writes := (first.length : Int) + (i : Int) },
    fun l _ => (M - numAt l 0).toNat, ⟨0, Nat.zero_le _, rfl, F3⟩, ?_⟩, ?_⟩
  · rintro x hq ⟨i, hi, hl, F⟩
    cases hl
    refine ⟨fun l hr => l = [] ∧ hr = hq ∧ i < M, ⟨decide (i < M), ⟨fun hc => ⟨rfl, ?_⟩, fun hc => ⟨rfl, ?_⟩⟩, fun hB => ⟨rfl, rfl, of_decide_eq_true hB⟩, fun hB => ⟨rfl, ?_⟩⟩, ?_⟩
    · have hc : i < n := by simp at hc; omega
      apply decide_eq_decide.2; omega
    · have hc : ¬ i < n := by simp at hc; omega
      rw [decide_eq_false_iff_not]; omega
    · have hiM : i = M := by have := of_decide_eq_false hB; omega
      subst hiM; exact F
    rintro hr ⟨_, rfl, hiM⟩
    have hib : i < behind.length := by omega
    obtain ⟨b, o, hp, hi0, hin, hget⟩ := (hb.ext (x0.trans F.1)).get (i := i) (by simpa using hib)
    rw [List.getElem_map] at hget
    refine ⟨b, o, hp, hi0, hin, _, hget 1 _ rfl, b, o, hp, hi0, hin, _, hget 2 _ rfl, (full_c behind[i].fill behind[i].ends hr).mono ?_⟩
    rintro e h4 ⟨x4, rfl⟩
    have F4 := F.ext x4
    refine ⟨_, rfl, (write_c F4.2 (i : Int) _ (by show (rowW behind i).length ≤ _; simp [rowW]; omega)).mono ?_⟩
    rintro e h5 ⟨y5, D5, rfl⟩
    rw [write_ok rfl rfl (by show i < (writtenS n first []).safe.length; rw [← hS, hSl]; omega) (fullT_size _ _)] at D5 ⊢
    refine ⟨_, rfl, fun hf => (by simp at hf), fun _ => ⟨_, incI (by omega), ⟨i + 1, hiM, rfl, F4.step rfl y5 ?_⟩, by simp only [numAt]; omega⟩⟩
    have h3 := inc64_nat (first.length + i) (by omega)
    rw [Int.natCast_add, Nat.add_assoc, Int.natCast_add] at h3
    rw [rowW_succ hib, ← h3]
    exact D5
  rintro h4 ⟨_, F4⟩
  refine (crash_c F4.2 fates (ht.ext (x0.trans F4.1)) ?_).mono ?_
  · intro b o hp hne hb'
    have := ht.block (by decide) hp (by simpa using hne)
    have := x0.size
    omega
  rintro e h5 ⟨y5, D5, rfl⟩
  have F5 := F4.go rfl y5 D5
  have hat : ∀ j (hj : j < n), (DS.crash { writtenS n first [] with pend := rowW behind M, writes := (first.length : Int) + (M : Int) } fates).safe[j]? = some (if h : j < M ∧ j < fates.length then layT (S[j]'(by omega)) (fullT (behind[j]'(by omega)).fill (behind[j]'(by omega)).ends) (keptN fates[j]) else S[j]'(by omega)) := fun j hj => by
    subst hS
    exact fates_at (safe := (writtenS n first []).safe) (by omega) (by omega) fates (by omega) M (Nat.le_refl _)
  have ok5 := F5.2.ok
  have hl5 : (DS.crash { writtenS n first [] with pend := rowW behind M, writes := (first.length : Int) + (M : Int) } fates).safe.length = n := by
    show (layFates _ _ _).length = n
    rw [(layFates_ok _ _ _ okS.size (rowW_size (by omega))).2, ← hS, hSl]
  generalize (DS.crash { writtenS n first [] with pend := rowW behind M, writes := (first.length : Int) + (M : Int) } fates) = τ at F5 ok5 hl5 hat
  have hszτ := image_size ok5
  rw [hl5] at hszτ
  refine ⟨rfl, (image_c F5.2).mono ?_⟩
  rintro e h6 ⟨x6, rfl⟩
  have hx6 : Ext h h6 := x0.trans (F5.1.trans x6)
  have w512 : IntKind.i64.wrap ((512 : Int) * (n : Int)) = ((512 * n : Nat) : Int) := by rw [wrapI64] <;> omega
  refine ⟨_, rfl, fun l hq => l = [] ∧ hq = h6, ⟨false, ⟨_, w512, fun hf => (by rw [hsz] at hf; simp at hf), fun _ => ⟨_, w512, rfl, by rw [hszτ]; simp⟩⟩, fun hB => (by cases hB), fun _ => ⟨rfl, rfl⟩⟩, ?_⟩
  rintro h7 ⟨_, rfl⟩
  refine ⟨fun l hq => ∃ i : Nat, i ≤ n ∧ l = [vI i] ∧ Ext h7 hq, fun l _ => (n - numAt l 0).toNat, ⟨0, Nat.zero_le _, rfl, Ext.refl _⟩, ?_⟩
  rintro x hq ⟨i, hi, hl, xq⟩
  cases hl
  refine ⟨fun hc => ?_, fun _ => ⟨rfl, hx6.trans xq⟩⟩
  have hc : i < n := by simp at hc; omega
  have hS_i : (writtenS n first []).image.extract (512 * i) (512 * i + 512) = S[i]'(by omega) := by
    have := image_at okS (i := i) (by rw [← hS, hSl]; exact hc)
    subst hS; exact this
  have hτ_i : τ.image.extract (512 * i) (512 * i + 512) = τ.safe[i]'(by omega) := image_at ok5 (by omega)
  have hat_i := hat i hc
  rw [List.getElem?_eq_getElem (by omega)] at hat_i
  have hat_i := Option.some.inj hat_i
  have nowC : ∀ hr : Hp, CallsH Try.prog 19 #[.string τ.image, vI i] hr fun e h' => h' = hr ∧ e = .returned (.string (τ.safe[i]'(by omega))) := fun hr => by
    rw [← hτ_i]; exact sector_c _ i (by omega) (by omega) hr
  have done : ∀ {hr : Hp}, Ext h7 hr → ∃ j, j ≤ n ∧ [Value.int IntKind.i64 ((i + 1 : Nat) : Int)] = [vI j] ∧ Ext h7 hr := fun x => ⟨i + 1, hc, rfl, x⟩
  refine (sector_c _ i (by omega) (by omega) hq).mono ?_
  rintro e h8 ⟨rfl, rfl⟩
  rw [hS_i]
  have hx8 := hx6.trans xq
  refine ⟨_, rfl, decide (i < M ∧ i < fates.length), ⟨fun hc2 => ⟨rfl, ?_⟩, fun hc2 => ⟨rfl, ?_⟩⟩, fun hB => ?_, fun hB => (nowC h8).mono ?_⟩
  · have hc2 : i < behind.length := by simp at hc2; omega
    apply decide_eq_decide.2; omega
  · have hc2 : ¬ i < behind.length := by simp at hc2; omega
    rw [decide_eq_false_iff_not]; omega
  · have hB := of_decide_eq_true hB
    rw [dif_pos hB] at hat_i
    have hib : i < behind.length := by omega
    obtain ⟨b, o, hp, hi0, hin, hget⟩ := (hb.ext hx8).get (i := i) (by simpa using hib)
    rw [List.getElem_map] at hget
    refine ⟨b, o, hp, hi0, hin, _, hget 1 _ rfl, b, o, hp, hi0, hin, _, hget 2 _ rfl, (full_c behind[i].fill behind[i].ends h8).mono ?_⟩
    rintro e h9 ⟨x9, rfl⟩
    obtain ⟨b2, o2, hp2, hi2, hin2, hget2⟩ := (ht.ext (hx8.trans x9)).get (i := i) (by simpa using hB.2)
    rw [List.getElem_map] at hget2
    have ld0 := hget2 0 _ rfl
    have ld1 := hget2 1 _ rfl
    generalize fates[i]'hB.2 = f at hat_i ld0 ld1
    have hxs : (S[i]'(by omega)).size = 512 := by
      have : ∀ s ∈ S, s.size = 512 := by rw [hS]; exact okS.size
      exact this _ (List.getElem_mem _)
    have x79 := xq.trans x9
    have fin : ∀ (w : ByteArray), (τ.safe[i]'(by omega)) = w → CallsH Try.prog 19 #[.string τ.image, vI i] h9 fun en_ hp_ => ∃ x : ByteArray, en_ = .returned (.string x) ∧ ((decide (x ≠ w) = true → RetX (.bool true) h (.returned (.bool false)) hp_) ∧
        (decide (x ≠ w) = false → ∃ y, IntKind.i64.wrap ((i : Int) + 1) = y ∧ (∃ j, j ≤ n ∧ [Value.int IntKind.i64 y] = [vI j] ∧ Ext h7 hp_) ∧ ((n : Int) - numAt [Value.int IntKind.i64 y] 0).toNat < ((n : Int) - numAt [Value.int IntKind.i64 (i : Int)] 0).toNat)) := fun w hw => by
      refine (nowC h9).mono ?_
      rintro e h10 ⟨rfl, rfl⟩
      rw [hw]
      exact ⟨_, rfl, fun hf => (by simp at hf), fun _ => ⟨_, incI (by omega), done x79, by simp only [numAt]; omega⟩⟩
    refine ⟨_, rfl, decide (f.1 = 1 ∨ (f.1 = 2 ∧ 512 ≤ f.2)), ⟨b2, o2, hp2, hi2, hin2, _, ld0, fun h1 => ⟨rfl, ?_⟩, fun h1 => ⟨b2, o2, hp2, hi2, hin2, _, ld0, fun h2 => ⟨b2, o2, hp2, hi2, hin2, _, ld1, rfl, ?_⟩, fun h2 => ⟨rfl, ?_⟩⟩⟩, fun hk => ?_, fun hk => ?_⟩
    · have h1 : f.1 = 1 := by simpa using h1
      simp [h1]
    · have h1 : ¬ f.1 = 1 := by simpa using h1
      have h2 : f.1 = 2 := by simpa using h2
      simp [h2]
    · have h1 : ¬ f.1 = 1 := by simpa using h1
      have h2 : ¬ f.1 = 2 := by simpa using h2
      simp [h1, h2]
    · have hk := of_decide_eq_true hk
      have hkn : keptN f = 512 := by
        unfold keptN
        rcases hk with h1 | ⟨h1, h2⟩
        · rw [if_pos h1]
        · rw [if_neg (by omega), if_pos h1]; omega
      rw [hkn, layT_all (fullT_size _ _) hxs] at hat_i
      exact fin _ hat_i
    · have hk := of_decide_eq_false hk
      refine ⟨decide (f.1 = 2 ∧ 0 < f.2), ⟨b2, o2, hp2, hi2, hin2, _, ld0, fun h2 => ⟨b2, o2, hp2, hi2, hin2, _, ld1, rfl, ?_⟩, fun h2 => ⟨rfl, ?_⟩⟩, fun hk2 => ?_, fun hk2 => ?_⟩
      · have h2 : f.1 = 2 := by simpa using h2
        simp [h2]
      · have h2 : ¬ f.1 = 2 := by simpa using h2
        simp [h2]
      · have hk2 := of_decide_eq_true hk2
        obtain ⟨u, hu⟩ := Int.eq_ofNat_of_zero_le (show 0 ≤ f.2 by omega)
        have hkn : keptN f = u := by
          unfold keptN
          rw [if_neg (by omega), if_pos hk2.1]; omega
        rw [hkn] at hat_i
        refine ⟨b2, o2, hp2, hi2, hin2, _, ld1, u, hu, Nat.zero_le _, by rw [fullT_size]; omega, _, rfl, b2, o2, hp2, hi2, hin2, _, ld1, u, hu, by omega, Nat.le_refl _, _, rfl, by rw [ByteArray.size_extract, ByteArray.size_extract, fullT_size]; omega, _, rfl, ?_⟩
        exact fin _ hat_i
      · have hk2 := of_decide_eq_false hk2
        have hkn : keptN f = 0 := by
          unfold keptN
          rw [if_neg (by omega)]
          split
          · omega
          · rfl
        rw [hkn, layT_none] at hat_i
        exact fin _ hat_i
  · have hB := of_decide_eq_false hB
    rw [dif_neg hB] at hat_i
    rintro e h9 ⟨rfl, rfl⟩
    rw [hat_i]
    exact ⟨_, rfl, fun hf => (by simp at hf), fun _ => ⟨_, incI (by omega), done xq, by simp only [numAt]; omega⟩⟩

end Go.Vc
