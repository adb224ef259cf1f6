/- DiskCuts: the walk. -/
import Derived.Test.YtebcmlfccfchoaaS4D4F
set_option maxRecDepth 10000
namespace Go.Vc
open Go Go.Proofs Go.MapKept

theorem uBoolT : Try.prog.underlying 4 = some .bool := by kernel_rfl

theorem Seg.bool {h : Hp} {p : Option Addr} {n : Nat} {l : List Bool} (s : Seg h p n (l.map Value.bool)) {i : Nat} (hi : i < l.length) {K : Bool → Prop} (hK : K l[i]) :
    ∃ b o, p = some ⟨b, o, none⟩ ∧ 0 ≤ (i : Int) ∧ (i : Int) < n ∧ ∃ x : Bool, cellsAt h b (o + Int.toNat (i : Int) * 1) [Value.bool x] ∧ K x := by
  obtain ⟨b, o, hp, hc⟩ := s.at (i := i) (by simpa using hi)
  refine ⟨b, o, hp, by omega, ?_, _, by simpa using hc, hK⟩
  have := s.1
  simp at this; omega

/-- How far it is to the cut. -/
structure CutAt (σ : DS) (k done : Nat) (w f : Nat) (pn : Nat) : Prop where
  len : σ.safe.length = 3
  reads : σ.reads = 0
  writes : σ.writes = (w : Int)
  flushes : σ.flushes = (f : Int)
  pend : σ.pend.length = pn
  le : done ≤ k - 1
  go : (σ.gone = false ∧ σ.plan = k - done) ∨ (σ.gone = true ∧ done = k - 1)

theorem CutAt.refused {σ : DS} {k done w f pn : Nat} (_ : CutAt σ k done w f pn) (n : Int) (s : ByteArray) (h : σ.gone = true ∨ 3 ≤ n ∨ s.size ≠ 512) (hl : σ.safe.length = 3) (hn : 0 ≤ n) :
    σ.write n s = (σ, if σ.gone then 40 else if 3 ≤ n then 41 else 42) := by
  cases hg : σ.gone with
  | true =>
    have ha : σ.asked n = 40 := by unfold DS.asked; rw [if_pos hg]
    unfold DS.write
    rw [if_neg (by rw [ha]; decide), ha]; rfl
  | false =>
    rw [hg] at h
    have h : 3 ≤ n ∨ s.size ≠ 512 := by simpa using h
    by_cases h3 : 3 ≤ n
    · have ha : σ.asked n = 41 := by unfold DS.asked; rw [if_neg (by simp [hg]), if_pos (by omega)]
      unfold DS.write
      rw [if_neg (by rw [ha]; decide), ha, if_neg (by simp), if_pos h3]
    · have ha : σ.asked n = 0 := by unfold DS.asked; rw [if_neg (by simp [hg]), if_neg (by omega)]
      unfold DS.write
      rw [if_pos ha, if_neg (by omega), if_neg (by simp), if_neg h3]

/-- A step behind which the power is still there, or gone. -/
theorem CutAt.step {σ : DS} {k done w f pn : Nat} (c : CutAt σ k done w f pn) (hk : 1 ≤ k) : (σ.gone = true ∧ done = k - 1) ∨ (σ.gone = false ∧ σ.stepped.gone = true ∧ done = k - 1 ∧ CutAt σ.stepped k done w f pn) ∨
    (σ.gone = false ∧ σ.stepped.gone = false ∧ done < k - 1 ∧ CutAt σ.stepped k (done + 1) w f pn) := by
  obtain ⟨e1, e2, e3, e4, e5⟩ := σ.stepped_safe
  have hle := c.le
  rcases c.go with ⟨hg, hp⟩ | ⟨hg, hd⟩
  · right
    have hst : σ.stepped = { σ with plan := σ.plan - 1, gone := decide (σ.plan = 1) } := by unfold DS.stepped; rw [if_neg (by omega)]
    have hgo : σ.stepped.gone = decide (σ.plan = 1) := by rw [hst]
    have hpl : σ.stepped.plan = σ.plan - 1 := by rw [hst]
    by_cases hd : done = k - 1
    · have h1 : σ.stepped.gone = true := by rw [hgo, decide_eq_true_eq]; omega
      exact .inl ⟨hg, h1, hd, ⟨e1 ▸ c.len, e3 ▸ c.reads, e4 ▸ c.writes, e5 ▸ c.flushes, e2 ▸ c.pend, hle, .inr ⟨h1, hd⟩⟩⟩
    · have h1 : σ.stepped.gone = false := by rw [hgo, decide_eq_false_iff_not]; omega
      exact .inr ⟨hg, h1, by omega, ⟨e1 ▸ c.len, e3 ▸ c.reads, e4 ▸ c.writes, e5 ▸ c.flushes, e2 ▸ c.pend, by omega, .inl ⟨h1, by omega⟩⟩⟩
  · exact .inl ⟨hg, hd⟩

theorem Fresh.write {h a : Hp} {d : Nat} {σ : DS} (F : Fresh h a d σ) (n : Int) (s : ByteArray) (hlen : σ.pend.length ≤ 8796093022208) : CallsH Try.prog 17 #[vP d, vZ n, .string s] a fun e c => Fresh h c d (σ.write n s).1 ∧ e = .returned (vZ (σ.write n s).2) :=
  (write_c F.2 n s hlen).mono fun _ _ ⟨h1, h2, h3⟩ => ⟨F.step rfl h1 h2, h3⟩
theorem Fresh.flush {h a : Hp} {d : Nat} {σ : DS} (F : Fresh h a d σ) : CallsH Try.prog 15 #[vP d] a fun e c => Fresh h c d σ.flush.1 ∧ e = .returned (vZ σ.flush.2) :=
  (flush_c F.2).mono fun _ _ ⟨h1, _, h2, h3⟩ => ⟨F.go rfl h1 h2, h3⟩
theorem Fresh.read {h a : Hp} {d : Nat} {σ : DS} (F : Fresh h a d σ) (n : Int) : CallsH Try.prog 23 #[vP d, vZ n] a fun e c => Fresh h c d (σ.read n).1 ∧ e = .returned (.tuple #[.string (σ.read n).2.1, vZ (σ.read n).2.2]) :=
  (read_c F.2 n).mono fun _ _ ⟨h1, _, h2, h3⟩ => ⟨F.go rfl h1 h2, h3⟩
theorem Fresh.full {h a : Hp} {d : Nat} {σ : DS} (F : Fresh h a d σ) (b e : UInt8) : CallsH Try.prog 18 #[vB b, vB e] a fun en c => Fresh h c d σ ∧ en = .returned (.string (fullT b e)) :=
  (full_c b e a).mono fun _ _ ⟨h1, h2⟩ => ⟨F.ext h1, h2⟩

/-- turnoutlaw04.DiskCuts -/
theorem cuts_law (steps : Int) (fl rf : List Bool) (hs0 : -9223372036854775808 ≤ steps) (hs1 : steps ≤ 9223372036854775807) (h : Hp)
    {p q : Option Addr} {kf mr c c' : Nat} (hf : Seg h p kf (fl.map Value.bool)) (hr : Seg h q mr (rf.map Value.bool)) :
    CallsH Try.prog 5 #[vZ steps, .slice p kf c, .slice q mr c'] h (RetX (.bool true) h) := by
  have hkf : fl.length = kf := by have := hf.1; simpa using this
  have hmr : rf.length = mr := by have := hr.1; simpa using this
  refine V5 _ _ _ _ _ _ _ h _ ((awake_c h).mono ?_)
  rintro e h0 ⟨x0, rfl⟩
  refine ⟨_, rfl, (new_c (3 : Int)).mono ?_⟩
  rintro e h1 (⟨hbad, rfl, rfl⟩ | ⟨_, _, d, F1, rfl⟩)
  · omega
  refine ⟨_, _, rfl, fun l hq => l = [] ∧ hq = h1, ⟨false, ⟨fun hf => (by cases hf), fun _ => ⟨false, eqv_ptr uPD _, fun hf => (by cases hf), fun _ => ⟨rfl, rfl⟩⟩⟩, fun hB => (by cases hB), fun _ => ⟨rfl, rfl⟩⟩, ?_⟩
  rintro h2 ⟨_, rfl⟩
  have hp := pickN_lt steps (show 0 < 12 by decide)
  refine (pick_c steps 12 (by decide) hs0 hs1 h2).mono ?_
  rintro e h3 ⟨rfl, rfl⟩
  obtain ⟨k, hk⟩ : ∃ k, k = 1 + pickN steps 12 := ⟨_, rfl⟩
  refine ⟨_, rfl, (k : Int), by rw [wrapI64] <;> omega, (cut_c F1.2 (k : Int) (by omega)).mono ?_⟩
  rintro e h4 ⟨y4, _, D4, rfl⟩
  have F4 := F1.go rfl y4 D4
  have hcut : (DS.new (Int.toNat 3)).cut (k : Int) = { DS.new 3 with plan := k } := by
    unfold DS.cut
    rw [if_neg (by decide)]
    have : (max (k : Int) 0).toNat = k := by omega
    rw [this]; rfl
  rw [hcut] at F4
  have c0 : CutAt { DS.new 3 with plan := k } k 0 0 0 0 := ⟨by simp [DS.new, DS.fresh], rfl, rfl, rfl, rfl, Nat.zero_le _, .inl ⟨rfl, rfl⟩⟩
  have segf : ∀ {hq σ}, Fresh h0 hq d σ → Seg hq p kf (fl.map Value.bool) := fun F => hf.ext (x0.trans F.1)
  have segr : ∀ {hq σ}, Fresh h0 hq d σ → Seg hq q mr (rf.map Value.bool) := fun F => hr.ext (x0.trans F.1)
  refine ⟨rfl, fun l hq => ∃ σ done w f pn, l = [vI w, vI f, vI pn] ∧ Fresh h0 hq d σ ∧ CutAt σ k done w f pn ∧ pn ≤ 40,
    ⟨fun l hq => ∃ (i : Nat) (σ : DS) (done w f pn : Nat), i ≤ fl.length ∧ i ≤ 40 ∧ l = [vI done, vI w, vI f, vI pn, vI i] ∧ Fresh h0 hq d σ ∧ CutAt σ k done w f pn ∧ w ≤ i ∧ f ≤ i ∧ pn ≤ i, fun l _ => (fl.length - numAt l 4).toNat,
      ⟨0, _, 0, 0, 0, 0, Nat.zero_le _, Nat.zero_le _, rfl, F4, c0, Nat.le_refl _, Nat.le_refl _, Nat.le_refl _⟩, ?_⟩, ?_⟩
  · rintro dn wn fn pnn x hq ⟨i, σ, done, w, f, pn, hi, hi40, hl, F, cA, hw, hff, hpn⟩
    cases hl
    refine ⟨fun l hr => l = [] ∧ hr = hq ∧ i < fl.length ∧ i < 40, ⟨decide (i < fl.length ∧ i < 40), ⟨fun hc => ⟨rfl, ?_⟩, fun hc => ⟨rfl, ?_⟩⟩, fun hB => ⟨rfl, rfl, of_decide_eq_true hB⟩, fun _ => ⟨σ, done, w, f, pn, rfl, F, cA, by omega⟩⟩, ?_⟩
    · have hc : i < fl.length := by simp at hc; omega
      simp only [hc, true_and]
      apply decide_eq_decide.2; omega
    · have hc : ¬ i < fl.length := by simp at hc; omega
      simp [hc]
    rintro hr' ⟨_, rfl, hil, hi4⟩
    have hle := cA.le
    refine ⟨((k - 1 : Nat) : Int), by rw [wrapI64] <;> omega, ?_⟩
    -- what is refused
    refine ⟨fun l hc => l = [] ∧ Fresh h0 hc d σ, ⟨decide (i < rf.length ∧ rf[i]? = some true), ⟨fun hc => ?_, fun hc => ⟨rfl, ?_⟩⟩, fun hB => ?_, fun _ => ⟨rfl, F⟩⟩, ?_⟩
    · have hc : i < rf.length := by simp at hc; omega
      refine (segr F).bool hc ⟨rfl, ?_⟩
      rw [List.getElem?_eq_getElem hc]
      cases rf[i] <;> simp [hc]
    · have hc : ¬ i < rf.length := by simp at hc; omega
      simp [hc]
    · refine (F.full 1 2).mono ?_
      rintro e h5 ⟨F5, rfl⟩
      refine ⟨_, rfl, (F5.write 3 _ (by have := cA.pend; omega)).mono ?_⟩
      rw [cA.refused 3 _ (.inr (.inl (by omega))) cA.len (by omega)]
      rintro e h6 ⟨F6, rfl⟩
      refine ⟨_, rfl, (F6.write 0 _ (by show σ.pend.length ≤ _; have := cA.pend; omega)).mono ?_⟩
      rw [cA.refused 0 _ (.inr (.inr (by decide))) cA.len (by omega)]
      rintro e h7 ⟨F7, rfl⟩
      refine ⟨_, rfl, (off_c F7.2).mono ?_⟩
      rintro e h8 ⟨rfl, rfl⟩
      refine ⟨_, rfl, ?_⟩
      cases hg : σ.gone with
      | true =>
        refine ⟨fun hf => (by simp at hf), fun _ => (off_c F7.2).mono ?_⟩
        rintro e h9 ⟨rfl, rfl⟩
        rw [hg]
        exact ⟨_, rfl, fun _ => ⟨fun hf => (by simp at hf), fun _ => ⟨fun hf => (by simp at hf), fun _ => ⟨rfl, F7⟩⟩⟩, fun hf => (by cases hf)⟩
      | false =>
        refine ⟨fun _ => ⟨fun hf => (by simp at hf), fun _ => ⟨fun hf => (by simp at hf), fun _ => (off_c F7.2).mono ?_⟩⟩, fun hf => (by simp at hf)⟩
        rintro e h9 ⟨rfl, rfl⟩
        rw [hg]
        exact ⟨_, rfl, fun hf => (by cases hf), fun _ => ⟨rfl, F7⟩⟩
    rintro h5 ⟨_, F5⟩
    -- the step
    obtain ⟨off, hoff⟩ : ∃ off : Bool, off = decide (k - 1 ≤ done) := ⟨_, rfl⟩
    have hoffI : decide (((k - 1 : Nat) : Int) ≤ (done : Int)) = off := by rw [hoff]; apply decide_eq_decide.2; omega
    rw [hoffI]
    refine ⟨fun l hc => ∃ σ', Fresh h0 hc d σ' ∧ ((off = true ∧ l = [vZ 40] ∧ σ'.gone = true ∧ CutAt σ' k done w f pn) ∨ (off = false ∧ l = [vZ 0] ∧ σ'.gone = false ∧ fl[i] = true ∧ CutAt σ' k (done + 1) w (f + 1) 0) ∨
      (off = false ∧ l = [vZ 0] ∧ σ'.gone = false ∧ fl[i] = false ∧ CutAt σ' k (done + 1) (w + 1) f (pn + 1))), ?_, ?_⟩
    · refine (segf F5).bool hil ⟨fun ht => F5.flush.mono ?_, fun ht => ?_⟩
      · rintro e h6 ⟨F6, rfl⟩
        refine ⟨_, rfl, _, F6, ?_⟩
        rcases cA.step (by omega) with ⟨hg, hd⟩ | ⟨hg, hs, hd, cS⟩ | ⟨hg, hs, hd, cS⟩
        · have hfl : σ.flush = (σ, 40) := by unfold DS.flush; rw [if_pos hg]
          rw [hfl]
          exact .inl ⟨by rw [hoff, decide_eq_true_eq]; omega, rfl, hg, cA⟩
        · have hfl : σ.flush = (σ.stepped, 40) := by unfold DS.flush; rw [if_neg (by simp [hg]), if_pos hs]
          rw [hfl]
          exact .inl ⟨by rw [hoff, decide_eq_true_eq]; omega, rfl, hs, cS⟩
        · have hfl : σ.flush = ({ σ.stepped with safe := layAll σ.safe σ.pend, pend := [], flushes := inc64 σ.flushes }, 0) := by unfold DS.flush; rw [if_neg (by simp [hg]), if_neg (by simp [hs])]
          have ok := F5.2.ok
          have hl := (layAll_ok σ.pend σ.safe ok.size fun x hx => (ok.pend x hx).2).2
          rw [hfl]
          refine .inr (.inl ⟨by rw [hoff, decide_eq_false_iff_not]; omega, rfl, hs, ht, ⟨hl.trans cA.len, cS.reads, cS.writes, ?_, rfl, cS.le, cS.go⟩⟩)
          show inc64 σ.flushes = _
          rw [cA.flushes]
          exact inc64_nat f (by omega)
      · refine (pick_c (i : Int) 3 (by decide) (by omega) (by omega) h5).mono ?_
        rintro e h6 ⟨rfl, rfl⟩
        have hp3 := pickN_lt (i : Int) (show 0 < 3 by decide)
        have hb : IntKind.u8.wrap (i : Int) = ((UInt8.ofNat i).toNat : Int) := by
          have : (UInt8.ofNat i).toNat = i % 256 := by simp
          rw [wrapU8, this]; omega
        refine ⟨_, rfl, _, hb, (F5.full (UInt8.ofNat i) 9).mono ?_⟩
        rintro e h7 ⟨F7, rfl⟩
        refine ⟨_, rfl, (F7.write _ _ (by have := cA.pend; omega)).mono ?_⟩
        rintro e h8 ⟨F8, rfl⟩
        refine ⟨_, rfl, _, F8, ?_⟩
        rcases cA.step (by omega) with ⟨hg, hd⟩ | ⟨hg, hs, hd, cS⟩ | ⟨hg, hs, hd, cS⟩
        · rw [cA.refused _ _ (.inl hg) cA.len (by omega), if_pos hg]
          exact .inl ⟨by rw [hoff, decide_eq_true_eq]; omega, rfl, hg, cA⟩
        · have ha : σ.asked ((pickN (i : Int) 3 : Nat) : Int) = 0 := by unfold DS.asked; rw [if_neg (by simp [hg]), if_neg (by rw [cA.len]; omega)]
          have hwr : σ.write ((pickN (i : Int) 3 : Nat) : Int) (fullT (UInt8.ofNat i) 9) = (σ.stepped, 40) := by unfold DS.write; rw [if_pos ha, if_pos (fullT_size _ _), if_pos hs]
          rw [hwr]
          exact .inl ⟨by rw [hoff, decide_eq_true_eq]; omega, rfl, hs, cS⟩
        · have ha : σ.asked ((pickN (i : Int) 3 : Nat) : Int) = 0 := by unfold DS.asked; rw [if_neg (by simp [hg]), if_neg (by rw [cA.len]; omega)]
          have hwr : σ.write ((pickN (i : Int) 3 : Nat) : Int) (fullT (UInt8.ofNat i) 9) = ({ σ.stepped with pend := σ.pend ++ [(pickN (i : Int) 3, fullT (UInt8.ofNat i) 9)], writes := inc64 σ.writes }, 0) := by
            unfold DS.write; rw [if_pos ha, if_pos (fullT_size _ _), if_neg (by simp [hs]), Int.toNat_natCast]
          rw [hwr]
          refine .inr (.inr ⟨by rw [hoff, decide_eq_false_iff_not]; omega, rfl, hs, ht, ⟨cS.len, cS.reads, ?_, cS.flushes, by show (σ.pend ++ [_]).length = _; simp [cA.pend], cS.le, cS.go⟩⟩)
          show inc64 σ.writes = _
          rw [cA.writes]
          exact inc64_nat w (by omega)
    rintro fv h6 ⟨σ', F6, hcase⟩
    have hfv : ∃ code : Int, fv = code ∧ decide (code = 40) = off ∧ σ'.gone = off ∧ (off = false → code = 0) := by
      rcases hcase with ⟨ho, hl, hg, _⟩ | ⟨ho, hl, hg, _⟩ | ⟨ho, hl, hg, _⟩ <;> cases hl <;> refine ⟨_, rfl, by rw [ho]; decide, by rw [hg, ho], by rw [ho]; decide⟩
    obtain ⟨code, rfl, hco, hgo, hc0⟩ := hfv
    refine ⟨fun l hc => l = [] ∧ hc = h6, ⟨_, eqv_bool uBoolT _ _, fun hf => ?_, fun _ => ⟨fun hno => ⟨fun hf => ?_, fun _ => (off_c F6.2).mono ?_⟩, fun hno => (off_c F6.2).mono ?_⟩⟩, ?_⟩
    · rw [hco] at hf; simp at hf
    · have hno : off = false := by simpa using hno
      have := hc0 hno
      subst this; simp at hf
    · rintro e h7 ⟨rfl, rfl⟩
      refine ⟨_, rfl, _, eqv_bool uBoolT _ _, fun hf => ?_, fun _ => ⟨rfl, rfl⟩⟩
      rw [hgo] at hf; simp at hf
    · rintro e h7 ⟨rfl, rfl⟩
      refine ⟨_, rfl, _, eqv_bool uBoolT _ _, fun hf => ?_, fun _ => ⟨rfl, rfl⟩⟩
      rw [hgo] at hf; simp at hf
    rintro h7 ⟨_, rfl⟩
    refine ⟨fun ho => ?_, fun ho => ?_⟩
    · -- off
      rcases hcase with ⟨_, _, hg, cS⟩ | ⟨ho', _⟩ | ⟨ho', _⟩
      · refine (F6.read 0).mono ?_
        have hrd : σ'.read 0 = (σ', ByteArray.empty, 40) := by
          have ha : σ'.asked 0 = 40 := by unfold DS.asked; rw [if_pos hg]
          unfold DS.read
          rw [if_neg (by rw [ha]; decide), ha]
        rw [hrd]
        rintro e h8 ⟨F8, rfl⟩
        exact ⟨_, _, rfl, fun hf => (by simp at hf), fun _ => ⟨_, incI (by omega), ⟨i + 1, σ', done, w, f, pn, hil, by omega, rfl, F8, cS, by omega, by omega, by omega⟩, by simp only [numAt]; omega⟩⟩
      · rw [ho] at ho'; cases ho'
      · rw [ho] at ho'; cases ho'
    · rcases hcase with ⟨ho', _⟩ | ⟨_, _, hg, hfi, cS⟩ | ⟨_, _, hg, hfi, cS⟩
      · rw [ho] at ho'; cases ho'
      · refine ⟨_, incI (by omega), (segf F6).bool hil ⟨fun _ => ⟨_, incI (by omega), _, incI (by omega), ⟨i + 1, σ', done + 1, w, f + 1, 0, hil, by omega, rfl, F6, cS, by omega, by omega, by omega⟩, by simp only [numAt]; omega⟩, fun hf => (by rw [hfi] at hf; cases hf)⟩⟩
      · refine ⟨_, incI (by omega), (segf F6).bool hil ⟨fun hf => (by rw [hfi] at hf; cases hf), fun _ => ⟨_, incI (by omega), _, incI (by omega), _, incI (by omega), ⟨i + 1, σ', done + 1, w + 1, f, pn + 1, hil, by omega, rfl, F6, cS, by omega, by omega, by omega⟩, by simp only [numAt]; omega⟩⟩⟩
  · rintro wn fn pnn h5 ⟨σ, done, w, f, pn, hl, F, cA, hp40⟩
    cases hl
    refine ⟨fun l hc => l = [] ∧ Fresh h0 hc d σ, (stats_c F.2).mono ?_, ?_⟩
    · rintro e h6 ⟨x6, rfl⟩
      have F6 := F.ext x6
      rw [cA.reads, cA.writes, cA.flushes]
      refine ⟨_, _, _, rfl, _, eqv_ints statsInts [0, (w : Int), (f : Int)] [0, (w : Int), (f : Int)] rfl rfl, fun hf => (by simp at hf), fun _ => (pending_c F6.2 (by rw [cA.pend]; omega)).mono ?_⟩
      rintro e h7 ⟨x7, pp, pc, rfl, _⟩
      exact ⟨_, _, _, rfl, fun hf => (by rw [cA.pend] at hf; simp at hf), fun _ => ⟨rfl, F6.ext x7⟩⟩
    rintro h6 ⟨_, F6⟩
    refine (crash_c F6.2 [] (SegS.nil _ _) (by intro b o hp; cases hp)).mono ?_
    rintro e h7 ⟨y7, D7, rfl⟩
    have F7 := F6.go rfl y7 D7
    have hsafe : (σ.crash []).safe = σ.safe := by show layFates _ _ [] = _; unfold layFates; rw [List.zip_nil_right]; rfl
    refine ⟨rfl, (F7.full 7 7).mono ?_⟩
    rintro e h8 ⟨F8, rfl⟩
    refine ⟨_, rfl, (F8.write ((0 : Nat) : Int) _ (by show (0 : Nat) ≤ _; omega)).mono ?_⟩
    rintro e h9 ⟨F9, rfl⟩
    rw [write_ok rfl rfl (by rw [hsafe, cA.len]; decide) (fullT_size _ _)] at F9 ⊢
    refine ⟨_, rfl, F9.flush.mono ?_⟩
    rintro e h10 ⟨F10, rfl⟩
    rw [flush_ok rfl rfl] at F10 ⊢
    have okF := F9.2.ok
    have hS : layAll σ.safe [(0, fullT 7 7)] = σ.safe.set 0 (fullT 7 7) := by
      have h1 : ∀ x ∈ σ.safe, x.size = 512 := F6.2.ok.size
      exact layD_all h1 (by rw [cA.len]; decide) (fullT_size _ _)
    refine ⟨_, rfl, (F10.read ((0 : Nat) : Int)).mono ?_⟩
    have calm : Calm ({ { σ.crash [] with pend := (σ.crash []).pend ++ [(0, fullT 7 7)], writes := inc64 (σ.crash []).writes } with safe := layAll (σ.crash []).safe ((σ.crash []).pend ++ [(0, fullT 7 7)]), pend := [], flushes := inc64 (σ.crash []).flushes }) (σ.safe.set 0 (fullT 7 7)) :=
      ⟨by show layAll (σ.crash []).safe [(0, fullT 7 7)] = _; rw [hsafe, hS], rfl, rfl⟩
    obtain ⟨cr, hr2⟩ := calm.read (i := 0) (by rw [List.length_set, cA.len]; decide)
    rintro e h11 ⟨F11, rfl⟩
    have hr3 : (DS.read { { σ.crash [] with pend := (σ.crash []).pend ++ [(0, fullT 7 7)], writes := inc64 (σ.crash []).writes } with safe := layAll (σ.crash []).safe ((σ.crash []).pend ++ [(0, fullT 7 7)]), pend := [], flushes := inc64 (σ.crash []).flushes } ((0 : Nat) : Int)).2 = (fullT 7 7, 0) := by
      rw [hr2, List.getElem_set_self]
    refine ⟨_, _, rfl, fun _ => ⟨fun _ => ⟨fun _ => (F11.full 7 7).mono ?_, fun hf => ?_⟩, fun hf => (by simp at hf)⟩, fun hf => (by simp at hf)⟩
    · rintro e h12 ⟨F12, rfl⟩
      refine ⟨_, rfl, fun _ => (off_c F12.2).mono ?_, fun hf => ?_⟩
      · rintro e h13 ⟨rfl, rfl⟩
        refine ⟨_, rfl, ?_, x0.trans F12.1⟩
        have := cr.on
        exact congrArg (fun b => Ending.returned (Value.bool (!b))) this
      · rw [decide_eq_false_iff_not] at hf
        exact (hf (congrArg (·.1) hr3)).elim
    · rw [decide_eq_false_iff_not] at hf
      exact (hf (congrArg (·.2) hr3)).elim

end Go.Vc
