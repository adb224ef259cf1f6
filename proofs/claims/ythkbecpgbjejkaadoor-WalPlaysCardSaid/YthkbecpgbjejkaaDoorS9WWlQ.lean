/- The log: what Append and Sync leave, what Scan and Last tell of it. No program in sight. -/
import Derived.Test.YthkbecpgbjejkaaDoorS9WWlP
set_option maxRecDepth 10000
namespace Go.Vc
open Go Go.Proofs Go.MapKept

/-- So many records are safe. -/
def Saf (bodies : List (List UInt8)) (f sf : Nat) : Prop := ∃ M, chainR (bodies.take f) Rd.no = some M ∧ sf ≤ M.recs.length

structure LogIs (S : List ByteArray) (first count e : Nat) (bodies : List (List UInt8)) (f sf : Nat) (P : Rd) (σ : DS) (L : Lg) : Prop where
  lies : Lies S first e bodies f σ
  fi : L.first = first
  co : L.count = count
  ep : L.epoch = e
  at_ : L.i = bodies.length
  told : Told bodies L.opn P
  sf : Saf bodies f sf

/-- What is on its way, or lies there, when the power goes. -/
def Ended (S : List ByteArray) (first count e f sf : Nat) (out : List ByteArray) (σ : DS) : Prop := ∃ bodies R, Lies S first e bodies f σ ∧ bodies.length ≤ count ∧ chainR bodies Rd.no = some R ∧ R.recs <+: out ∧ Saf bodies f sf

section
variable {S : List ByteArray} {first count e f sf : Nat} {bodies : List (List UInt8)} {P : Rd} {σ : DS} {L : Lg} {out : List ByteArray} {r : List UInt8}

theorem Saf.snoc {b : List UInt8} (s : Saf bodies f sf) (hf : f ≤ bodies.length) : Saf (bodies ++ [b]) f sf := by
  obtain ⟨M, h1, h2⟩ := s
  exact ⟨M, by rw [List.take_append_of_le_length hf]; exact h1, h2⟩

theorem writeL_law (Q : LogIs S first count e bodies f sf P σ L) (B : Base S first count e) (hg : σ.gone = false) (ok : L.Ok) (hi : L.i < L.count) (hne : L.opn ≠ []) :
    ((writeL σ L).2.2 = 40 ∧ (writeL σ L).1.gone = true ∧ Lies S first e bodies f (writeL σ L).1 ∧ (writeL σ L).2.1 = { L with dead := true } ∧ σ.plan ≠ 0) ∨
    ((writeL σ L).2.2 = 0 ∧ (writeL σ L).1.gone = false ∧ LogIs S first count e (bodies ++ [L.opn]) f sf P (writeL σ L).1 (writeL σ L).2.1 ∧ (writeL σ L).2.1 = { L with i := L.i + 1, opn := [] } ∧ (writeL σ L).1.plan = σ.plan - 1 ∧ (writeL σ L).1.writes = inc64 σ.writes) := by
  have e1 : putF σ ((L.first + L.i : Nat) : Int) L.frm = putF σ ((first + bodies.length : Nat) : Int) ⟨3, e, bodies.length, tx L.opn⟩ := by
    unfold Lg.frm; rw [Q.fi, Q.ep, Q.at_]
  unfold writeL
  rw [e1]
  rcases Q.lies.put B hg (by have := Q.at_; have := Q.co; omega) ok.op with ⟨h1, h2, h3, h4⟩ | ⟨h1, h2, h3, h4, h5⟩
  · rw [if_pos (by rw [h1]; decide)]
    exact .inl ⟨h1, h2, h3, rfl, h4⟩
  · rw [if_neg (by rw [h1]; decide)]
    exact .inr ⟨rfl, h2, ⟨h3, Q.fi, Q.co, Q.ep, by show L.i + 1 = _; rw [Q.at_]; simp, Q.told.next hne, Q.sf.snoc Q.lies.fl⟩, rfl, h4, h5⟩

/-- How far a record is put. -/
def Mid (out : List ByteArray) (r : List UInt8) (b : Bool) (rest : List UInt8) (P : Rd) (opn : List UInt8) : Prop :=
  (rest ≠ [] ∧ b = true ∧ P = ⟨out, [], false⟩ ∧ rest = r) ∨ (rest ≠ [] ∧ b = false ∧ opn = [] ∧ ∃ done, P = ⟨out, done, true⟩ ∧ done ++ rest = r) ∨ (rest = [] ∧ P = ⟨out ++ [tx r], [], false⟩)

/-- A piece is put. -/
theorem Mid.put {b : Bool} {rest : List UInt8} (m : Mid out r b rest P L.opn) (hr : r.length ≤ 65536) (g : L.Go rest) (hne : rest ≠ []) (T : Told bodies L.opn P) :
    ∃ M, Told bodies (putL b rest L).opn M ∧ P.recs = out ∧ (∀ opn, (rest.drop (stepN L rest) ≠ [] → opn = []) → Mid out r false (rest.drop (stepN L rest)) M opn) := by
  have hsp := stepN_pos g.op hne
  have hsl := @stepN_le L rest
  have hs8 : stepN L rest ≤ 488 := by unfold stepN; omega
  have hpl : (rest.take (stepN L rest)).length = stepN L rest := by rw [List.length_take]; omega
  have hsplit : rest.take (stepN L rest) ++ rest.drop (stepN L rest) = rest := List.take_append_drop _ _
  obtain ⟨n, hn⟩ : ∃ n, n = stepN L rest := ⟨_, rfl⟩
  have put : ∀ M, (P.goes = true → L.opn = []) → takeR P (kindB b (decide (n = rest.length))) (rest.take n) true = some M → Told bodies (putL b rest L).opn M := fun M hg h => by
    show Told bodies (L.opn ++ pieceB (kindB b (decide (stepN L rest = rest.length))) (rest.take (stepN L rest))) M
    rw [← hn]
    exact T.put hg (kindB_lt _ _) (by rw [hn, hpl]; exact hsp) (by rw [hn, hpl]; exact hs8) h
  rw [← hn] at hsp hsl hpl hsplit ⊢
  rcases m with ⟨_, rfl, rfl, hrr⟩ | ⟨_, rfl, hop, done, rfl, hrr⟩ | ⟨he, _⟩
  · subst hrr
    by_cases hend : n = rest.length
    · have htk : rest.take n = rest := by rw [hend]; simp
      have hdr : rest.drop n = [] := by rw [hend]; simp
      refine ⟨⟨out ++ [tx rest], [], false⟩, put _ (fun h => (by cases h)) ?_, rfl, fun opn _ => .inr (.inr ⟨hdr, rfl⟩)⟩
      rw [decide_eq_true hend, htk]
      unfold takeR
      show (if _ then _ else _) = _
      rw [if_neg (by simp [kindB]), if_neg (by simp [kindB]; omega), if_neg (by simp [kindB])]
      simp
    · have hdr : rest.drop n ≠ [] := fun h => by have := List.drop_eq_nil_iff.1 h; omega
      refine ⟨⟨out, rest.take n, true⟩, put _ (fun h => (by cases h)) ?_, rfl, fun opn ho => .inr (.inl ⟨hdr, rfl, ho hdr, rest.take n, rfl, hsplit⟩)⟩
      rw [decide_eq_false hend]
      unfold takeR
      show (if _ then _ else _) = _
      rw [if_neg (by simp [kindB]), if_neg (by simp [kindB]; omega), if_pos (by simp [kindB])]
      simp
  · have hlen : done.length + rest.length = r.length := by rw [← hrr, List.length_append]
    by_cases hend : n = rest.length
    · have htk : rest.take n = rest := by rw [hend]; simp
      have hdr : rest.drop n = [] := by rw [hend]; simp
      refine ⟨⟨out ++ [tx r], [], false⟩, put _ (fun _ => hop) ?_, rfl, fun opn _ => .inr (.inr ⟨hdr, rfl⟩)⟩
      rw [decide_eq_true hend, htk]
      unfold takeR
      show (if _ then _ else _) = _
      rw [if_neg (by simp [kindB]), if_neg (by simp [kindB]; omega), if_neg (by simp [kindB])]
      simp [hrr]
    · have hdr : rest.drop n ≠ [] := fun h => by have := List.drop_eq_nil_iff.1 h; omega
      refine ⟨⟨out, done ++ rest.take n, true⟩, put _ (fun _ => hop) ?_, rfl, fun opn ho => .inr (.inl ⟨hdr, rfl, ho hdr, done ++ rest.take n, rfl, by rw [List.append_assoc, hsplit]; exact hrr⟩)⟩
      rw [decide_eq_false hend]
      unfold takeR
      show (if _ then _ else _) = _
      rw [if_neg (by simp [kindB]), if_neg (by simp [kindB]; omega), if_pos (by simp [kindB])]
  · exact (hne he).elim

theorem app_law (B : Base S first count e) (hr : r.length ≤ 65536) : ∀ (k : Nat) (b : Bool) (rest : List UInt8) (σ : DS) (L : Lg) (bodies : List (List UInt8)) (P : Rd), LogIs S first count e bodies f sf P σ L → σ.gone = false → L.Go rest → rest.length ≤ k → Mid out r b rest P L.opn →
    ((appR k b rest σ L).2.2 = 0 ∧ (appR k b rest σ L).1.gone = false ∧ (∃ bodies', LogIs S first count e bodies' f sf ⟨out ++ [tx r], [], false⟩ (appR k b rest σ L).1 (appR k b rest σ L).2.1) ∧ (appR k b rest σ L).2.1.dead = false ∧ (σ.plan = 0 → (appR k b rest σ L).1.plan = 0)) ∨
    ((appR k b rest σ L).2.2 = 40 ∧ (appR k b rest σ L).1.gone = true ∧ (appR k b rest σ L).2.1.dead = true ∧ Ended S first count e f sf out (appR k b rest σ L).1 ∧ σ.plan ≠ 0) := by
  intro k
  induction k with
  | zero =>
    intro b rest σ L bodies P Q hg g hk m
    have hrest : rest = [] := List.eq_nil_of_length_eq_zero (by omega)
    rcases m with ⟨h, _⟩ | ⟨h, _⟩ | ⟨_, rfl⟩
    · exact (h hrest).elim
    · exact (h hrest).elim
    · exact .inl ⟨rfl, hg, ⟨bodies, Q⟩, g.live, fun h => h⟩
  | succ k ih =>
    intro b rest σ L bodies P Q hg g hk m
    rw [appR]
    by_cases hrest : rest = []
    · rw [if_pos hrest]
      rcases m with ⟨h, _⟩ | ⟨h, _⟩ | ⟨_, rfl⟩
      · exact (h hrest).elim
      · exact (h hrest).elim
      · exact .inl ⟨rfl, hg, ⟨bodies, Q⟩, g.live, fun h => h⟩
    · rw [if_neg hrest]
      obtain ⟨M, hT, hP, hm⟩ := m.put hr g hrest Q.told
      have Q1 : LogIs S first count e bodies f sf M σ (putL b rest L) := ⟨Q.lies, Q.fi, Q.co, Q.ep, Q.at_, hT, Q.sf⟩
      have hsp := stepN_pos g.op hrest
      have hdl : (rest.drop (stepN L rest)).length ≤ k := by rw [List.length_drop]; omega
      have hpl := @putL_length L rest b
      by_cases h488 : 488 ≤ (putL b rest L).opn.length
      · rw [if_pos h488]
        have hne : (putL b rest L).opn ≠ [] := fun h => by rw [h] at h488; simp at h488
        rcases writeL_law Q1 B hg (putL_ok g.ok g.op) (g.lt hrest).1 hne with ⟨h1, h2, h3, h4, h5⟩ | ⟨h1, h2, h3, h4, h5, _⟩
        · rw [if_pos (by rw [h1]; decide)]
          refine .inr ⟨h1, h2, by rw [h4], ?_, h5⟩
          obtain ⟨R, hc, hp⟩ := Q.told.pre
          rw [hP] at hp
          exact ⟨bodies, R, h3, by have := Q.at_; have := Q.co; have := g.ok.le; omega, hc, hp, Q.sf⟩
        · have hn := g.next (σ := σ) (b := b) hrest (by rw [h1]; decide)
          rw [if_neg (by rw [h1]; decide)]
          rcases ih false (rest.drop (stepN L rest)) _ _ _ M h3 h2 hn hdl (hm _ fun _ => by rw [h4]) with ⟨a1, a2, a3, a4, a5⟩ | ⟨a1, a2, a3, a4, a5⟩
          · exact .inl ⟨a1, a2, a3, a4, fun h => a5 (by rw [h5, h])⟩
          · exact .inr ⟨a1, a2, a3, a4, fun h => a5 (by rw [h5, h])⟩
      · rw [if_neg h488]
        have hn := g.rest (b := b) hrest h488
        refine ih false (rest.drop (stepN L rest)) _ _ _ M Q1 hg hn hdl (hm _ fun hd => ?_)
        exfalso
        apply hd
        rw [List.drop_eq_nil_iff]
        unfold stepN at hpl ⊢
        omega

theorem append_law (B : Base S first count e) (Q : LogIs S first count e bodies f sf ⟨out, [], false⟩ σ L) (hg : σ.gone = false) (ok : L.Rdy) (hd : L.dead = false) (s : ByteArray) (hs : s ≠ ⟨#[]⟩) (h65 : s.size ≤ 65536) :
    (L.free < s.size ∧ appL σ L s = (σ, L, 190)) ∨
    (s.size ≤ L.free ∧ (appL σ L s).2.2 = 0 ∧ (appL σ L s).1.gone = false ∧ (∃ bodies', LogIs S first count e bodies' f sf ⟨out ++ [s], [], false⟩ (appL σ L s).1 (appL σ L s).2.1) ∧ (appL σ L s).2.1.dead = false ∧ (σ.plan = 0 → (appL σ L s).1.plan = 0)) ∨
    (s.size ≤ L.free ∧ (appL σ L s).2.2 = 40 ∧ (appL σ L s).1.gone = true ∧ (appL σ L s).2.1.dead = true ∧ Ended S first count e f sf out (appL σ L s).1 ∧ σ.plan ≠ 0) := by
  by_cases hf : L.free < s.size
  · exact .inl ⟨hf, by unfold appL; rw [if_neg (by rw [hd]; decide), if_neg hs, if_neg (by omega), if_pos hf]⟩
  · have e1 : appL σ L s = appR s.size true (bl s) σ L := by unfold appL; rw [if_neg (by rw [hd]; decide), if_neg hs, if_neg (by omega), if_neg hf]
    rw [e1]
    have hne : bl s ≠ [] := fun h => hs (bl_inj h)
    have := app_law (f := f) (sf := sf) (out := out) B (r := bl s) (by rw [bl_length]; exact h65) s.size true (bl s) σ L bodies _ Q hg (ok.go hd (by rw [bl_length]; omega) hne) (by rw [bl_length]; exact Nat.le_refl _) (.inl ⟨hne, rfl, rfl, rfl⟩)
    rw [tx_bl] at this
    rcases this with h | h
    · exact .inr (.inl ⟨by omega, h⟩)
    · exact .inr (.inr ⟨by omega, h⟩)

theorem sync_law (B : Base S first count e) (Q : LogIs S first count e bodies f sf ⟨out, [], false⟩ σ L) (hg : σ.gone = false) (ok : L.Rdy) (hd : L.dead = false) :
    ((syncL σ L).2.2 = 0 ∧ (syncL σ L).1.gone = false ∧ (∃ bodies', LogIs S first count e bodies' bodies'.length out.length ⟨out, [], false⟩ (syncL σ L).1 (syncL σ L).2.1) ∧ (syncL σ L).2.1.dead = false ∧ (syncL σ L).2.1.opn = [] ∧ (σ.plan = 0 → (syncL σ L).1.plan = 0)) ∨
    ((syncL σ L).2.2 = 40 ∧ (syncL σ L).1.gone = true ∧ (syncL σ L).2.1.dead = true ∧ Ended S first count e f sf out (syncL σ L).1 ∧ σ.plan ≠ 0) := by
  obtain ⟨o1, o2⟩ := ok.op hd
  have hle := ok.ok.le
  have hat := Q.at_
  have hco := Q.co
  have fl : ∀ {τ : DS} {M : Lg} {bs : List (List UInt8)}, LogIs S first count e bs f sf ⟨out, [], false⟩ τ M → τ.gone = false → bs.length ≤ count → M.opn = [] →
      ((endS τ.flush M).2.2 = 0 ∧ (endS τ.flush M).1.gone = false ∧ (∃ bodies', LogIs S first count e bodies' bodies'.length out.length ⟨out, [], false⟩ (endS τ.flush M).1 (endS τ.flush M).2.1) ∧ (endS τ.flush M).2.1.dead = false ∧ (endS τ.flush M).2.1.opn = [] ∧ (τ.plan = 0 → (endS τ.flush M).1.plan = 0)) ∨
      ((endS τ.flush M).2.2 = 40 ∧ (endS τ.flush M).1.gone = true ∧ (endS τ.flush M).2.1.dead = true ∧ Ended S first count e f sf out (endS τ.flush M).1 ∧ τ.plan ≠ 0) := by
    intro τ M bs Q hg hk ho
    rcases Q.lies.flush B hg hk with ⟨h1, h2, h3, h4⟩ | ⟨h1, h2, h3, h4, _⟩
    · refine .inr ⟨h1, h2, by show decide (τ.flush.2 ≠ 0) = true; rw [h1]; decide, ?_, h4⟩
      obtain ⟨R, hc, hp⟩ := Q.told.pre
      exact ⟨bs, R, h3, hk, hc, hp, Q.sf⟩
    · have hsf : Saf bs bs.length out.length := by
        obtain ⟨R, hc, hR⟩ := Q.told
        rcases hR with ⟨_, hR⟩ | ⟨hR, _⟩
        · exact ⟨R, by rw [List.take_length]; exact hc, by rw [← hR]; exact Nat.le_refl _⟩
        · exact (hR ho).elim
      exact .inl ⟨h1, h2, ⟨bs, h3, Q.fi, Q.co, Q.ep, Q.at_, Q.told, hsf⟩, by show decide (τ.flush.2 ≠ 0) = false; rw [h1]; decide, ho, fun h => by show τ.flush.1.plan = 0; rw [h4, h]⟩
  unfold syncL
  rw [if_neg (by rw [hd]; decide)]
  by_cases he : L.opn = []
  · rw [if_pos he]
    exact fl Q hg (by omega) he
  · rw [if_neg he]
    have hi : L.i < L.count := by
      have : L.i ≠ L.count := fun e => he (o2 e)
      omega
    rcases writeL_law Q B hg ok.ok hi he with ⟨h1, h2, h3, h4, h5⟩ | ⟨h1, h2, h3, h4, h5, _⟩
    · rw [if_pos (by rw [h1]; decide)]
      obtain ⟨R, hc, hp⟩ := Q.told.pre
      exact .inr ⟨h1, h2, by rw [h4], ⟨bodies, R, h3, by omega, hc, hp, Q.sf⟩, h5⟩
    · rw [if_neg (by rw [h1]; decide)]
      rcases fl h3 h2 (by simp; omega) (by rw [h4]) with ⟨a1, a2, a3, a4, a5, a6⟩ | ⟨a1, a2, a3, a4, a5⟩
      · exact .inl ⟨a1, a2, a3, a4, a5, fun h => a6 (by rw [h5, h])⟩
      · exact .inr ⟨a1, a2, a3, a4, fun h => a5 (by rw [h5, h])⟩

/-! ## What is told of it -/

/-- The log frames in a region have lesser numbers. -/
def Below (S : List ByteArray) (first count e : Nat) : Prop := ∀ j, j < count → (openF (S.getD (first + j) ByteArray.empty)).2.2 = 0 → (openF (S.getD (first + j) ByteArray.empty)).1.kind = 3 → (openF (S.getD (first + j) ByteArray.empty)).1.number < e

theorem openF_code (s : ByteArray) : (openF s).2.2 ≠ 40 := by
  unfold openF
  split
  · decide
  · split
    · decide
    · split
      · decide
      · split
        · decide
        · split
          · decide
          · show (0 : Int) ≠ 40; decide

theorem get_at {τ : DS} {T : List ByteArray} (hg : τ.gone = false) (hT : τ.safe = T) (hp : τ.pend = []) {n : Nat} (hn : n < T.length) : getF τ (n : Int) = ((openF (T.getD n ByteArray.empty)).1, (openF (T.getD n ByteArray.empty)).2.2) := by
  rw [get_ok hg (by rw [hT]; exact hn)]
  have : τ.look n = T.getD n ByteArray.empty := by
    unfold DS.look; rw [hp, hT]; rfl
  rw [this]

theorem sec_open (B : Base S first count e) (hl : ∀ b ∈ bodies, b.length ≤ 491) {j : Nat} (hj : j ≤ 4096) : openF (secX S first e bodies j) = (⟨3, e, j, tx (bodies.getD j [])⟩, ((markB (S.getD (first + j) ByteArray.empty)).toNat : Int), 0) := open_seal (right3 B.ep hj (bodyAt_le hl j))

/-- What a sector of the region says behind a crash. -/
theorem Left.says {T : List ByteArray} (Lf : Left S first e bodies f T) (B : Base S first count e) (hl : ∀ b ∈ bodies, b.length ≤ 491) {j : Nat} (hj : j < count) :
    (j < bodies.length ∧ openF (T.getD (first + j) ByteArray.empty) = (⟨3, e, j, tx (bodies.getD j [])⟩, ((markB (S.getD (first + j) ByteArray.empty)).toNat : Int), 0)) ∨
    (f ≤ j ∧ openF (T.getD (first + j) ByteArray.empty) = (Frm.no, 0, 50)) ∨
    ((f ≤ j ∨ bodies.length ≤ j) ∧ T.getD (first + j) ByteArray.empty = S.getD (first + j) ByteArray.empty) := by
  have hfit := B.fit
  have hmost := B.most
  have gd : ∀ {x : ByteArray}, T[first + j]? = some x → T.getD (first + j) ByteArray.empty = x := fun h => by rw [List.getD_eq_getElem?_getD, h]; rfl
  by_cases hk : j < bodies.length
  · by_cases hf : j < f
    · exact .inl ⟨hk, by rw [gd (Lf.lo j hf)]; exact sec_open B hl (by omega)⟩
    · obtain ⟨k, hk5, hT⟩ := Lf.mid j (by omega) hk
      have hx : (S.getD (first + j) ByteArray.empty).size = 512 := by
        rw [List.getD_eq_getElem?_getD, List.getElem?_eq_getElem (by omega)]
        exact B.size _ (List.getElem_mem _)
      have hs := secX_size B hl (j := j) (by omega)
      rcases Nat.eq_zero_or_pos k with h0 | h0
      · rw [h0, layT_none hx] at hT
        exact .inr (.inr ⟨.inl (by omega), gd hT⟩)
      · rcases Nat.eq_or_lt_of_le hk5 with h1 | h1
        · rw [h1, layT_whole hx hs] at hT
          exact .inl ⟨hk, by rw [gd hT]; exact sec_open B hl (by omega)⟩
        · refine .inr (.inl ⟨by omega, ?_⟩)
          rw [gd hT]
          refine open_torn hx hs h0 h1 ?_
          have hm : (bl (secX S first e bodies j)).getD 0 0 = markB (S.getD (first + j) ByteArray.empty) := by
            unfold secX
            rw [bl_tx]
            exact (seal_mark (right3 B.ep (by omega) (bodyAt_le hl j)).b).1
          rw [hm]
          intro he
          have := congrArg UInt8.toNat he
          unfold markB markN at this
          rw [u8_nat] at this
          have := ((bl (S.getD (first + j) ByteArray.empty)).getD 511 0).toNat_lt
          omega
  · refine .inr (.inr ⟨.inr (by omega), ?_⟩)
    rw [List.getD_eq_getElem?_getD, List.getD_eq_getElem?_getD, Lf.ot (first + j) fun j' hj' => by omega]

theorem Left.below {T : List ByteArray} (Lf : Left S first e bodies f T) (B : Base S first count e) (hl : ∀ b ∈ bodies, b.length ≤ 491) (hb : Below S first count e) : Below T first count (e + 1) := by
  intro j hj h0 h3
  rcases Lf.says B hl hj with ⟨_, h⟩ | ⟨_, h⟩ | ⟨_, h⟩
  · rw [h]; exact Nat.lt_succ_self e
  · rw [h] at h0; cases h0
  · rw [h] at h0 h3 ⊢
    have := hb j hj h0 h3
    omega

theorem scanN_rds (first e : Nat) : ∀ (k i : Nat) (σ : DS) (R : Rd), Rds σ (scanN first e k i σ R).1 := by
  intro k
  induction k with
  | zero => intro i σ R; exact Rds.refl σ
  | succ k ih =>
    intro i σ R
    rw [scanN]
    split
    · exact Rds.read _ _
    · split
      · exact Rds.read _ _
      · split
        · exact Rds.read _ _
        · exact (Rds.read _ _).trans (ih _ _ _)
theorem lastN_rds (first : Nat) : ∀ (k i : Nat) (σ : DS) (n : Nat), Rds σ (lastN first k i σ n).1 := by
  intro k
  induction k with
  | zero => intro i σ R; exact Rds.refl σ
  | succ k ih =>
    intro i σ R
    rw [lastN]
    split
    · exact Rds.read _ _
    · exact (Rds.read _ _).trans (ih _ _ _)

theorem scan_left {T : List ByteArray} (Lf : Left S first e bodies f T) (B : Base S first count e) (hl : ∀ b ∈ bodies, b.length ≤ 491) (hk : bodies.length ≤ count) (hf : f ≤ bodies.length) (hb : Below S first count e) {R : Rd} (hc : chainR bodies Rd.no = some R) :
    ∀ (k i : Nat) (τ : DS) (M : Rd), τ.gone = false → τ.safe = T → τ.pend = [] → i + k = count → i ≤ bodies.length → chainR (bodies.take i) Rd.no = some M →
      ∃ t M', f ≤ t ∧ t ≤ bodies.length ∧ chainR (bodies.take t) Rd.no = some M' ∧ (scanN first e k i τ M).2 = (M'.recs, 0) := by
  intro k
  induction k with
  | zero => intro i τ M hg hT hp hik hi hM; exact ⟨i, M, by omega, hi, hM, rfl⟩
  | succ k ih =>
    intro i τ M hg hT hp hik hi hM
    have hfit := B.fit
    rw [scanN, get_at hg hT hp (by rw [Lf.len]; omega)]
    rw [if_neg (openF_code _)]
    have x := Rds.read τ ((first + i : Nat) : Int)
    have stop : mineF e i ((openF (T.getD (first + i) ByteArray.empty)).1, (openF (T.getD (first + i) ByteArray.empty)).2.2) = false → f ≤ i → ∃ t M', f ≤ t ∧ t ≤ bodies.length ∧ chainR (bodies.take t) Rd.no = some M' ∧
        (if mineF e i ((openF (T.getD (first + i) ByteArray.empty)).1, (openF (T.getD (first + i) ByteArray.empty)).2.2) = false then ((τ.read ((first + i : Nat) : Int)).1, M.recs, (0 : Int)) else
          match bodyF (bl (openF (T.getD (first + i) ByteArray.empty)).1.body) M with
          | none => ((τ.read ((first + i : Nat) : Int)).1, M.recs, 0)
          | some M => scanN first e k (i + 1) (τ.read ((first + i : Nat) : Int)).1 M).2 = (M'.recs, 0) := fun hm hfi => ⟨i, M, hfi, hi, hM, by rw [if_pos hm]⟩
    rcases Lf.says B hl (j := i) (by omega) with ⟨h1, h⟩ | ⟨h1, h⟩ | ⟨h1, h⟩
    · have hmine : mineF e i ((openF (T.getD (first + i) ByteArray.empty)).1, (openF (T.getD (first + i) ByteArray.empty)).2.2) = true := by
        rw [h]; exact decide_eq_true ⟨rfl, rfl, rfl, rfl⟩
      rw [if_neg (by rw [hmine]; decide), h]
      show ∃ t M', f ≤ t ∧ t ≤ bodies.length ∧ chainR (bodies.take t) Rd.no = some M' ∧ (match bodyF (bl (tx (bodies.getD i []))) M with
        | none => ((τ.read ((first + i : Nat) : Int)).1, M.recs, (0 : Int))
        | some M => scanN first e k (i + 1) (τ.read ((first + i : Nat) : Int)).1 M).2 = (M'.recs, 0)
      rw [bl_tx]
      have hgd : bodies.getD i [] = bodies[i] := by rw [List.getD_eq_getElem?_getD, List.getElem?_eq_getElem h1]; rfl
      obtain ⟨M1, hM1⟩ := chainR_take bodies (i + 1) _ _ hc
      have hts : bodies.take (i + 1) = bodies.take i ++ [bodies[i]] := by rw [List.take_add_one, List.getElem?_eq_getElem h1]; rfl
      have hbf : bodyF bodies[i] M = some M1 := by
        rw [hts, chainR_snoc, hM] at hM1
        exact hM1
      rw [hgd, hbf]
      exact ih (i + 1) _ M1 (x.gone.trans hg) (x.safe.trans hT) (x.pend.trans hp) (by omega) h1 hM1
    · exact stop (by rw [h]; exact decide_eq_false fun h => (by cases h.1)) h1
    · refine stop ?_ (by rcases h1 with h1 | h1 <;> omega)
      rw [h]
      exact decide_eq_false fun hh => by
        have h1 := hb i (by omega) hh.1 hh.2.1
        have h2 : (openF (S.getD (first + i) ByteArray.empty)).1.number = e := hh.2.2.1
        omega

theorem scan_other {T : List ByteArray} {e' : Nat} (hb : Below T first count e') (hc : 1 ≤ count) (hT : first + count ≤ T.length) {τ : DS} (hg : τ.gone = false) (hs : τ.safe = T) (hp : τ.pend = []) : (scanN first e' count 0 τ Rd.no).2 = ([], 0) := by
  obtain ⟨k, rfl⟩ : ∃ k, count = k + 1 := ⟨count - 1, by omega⟩
  rw [scanN, get_at hg hs hp (by omega), if_neg (openF_code _)]
  rw [if_pos]
  · rfl
  · exact decide_eq_false fun hh => by
      have h1 := hb 0 (by omega) hh.1 hh.2.1
      have h2 : (openF (T.getD (first + 0) ByteArray.empty)).1.number = e' := hh.2.2.1
      omega

theorem last_law {T : List ByteArray} (hT : first + count ≤ T.length) : ∀ (k i : Nat) (τ : DS) (n : Nat), τ.gone = false → τ.safe = T → τ.pend = [] → i + k = count →
    (lastN first k i τ n).2.2 = 0 ∧ n ≤ (lastN first k i τ n).2.1 ∧
    (∀ j, i ≤ j → j < count → (openF (T.getD (first + j) ByteArray.empty)).2.2 = 0 → (openF (T.getD (first + j) ByteArray.empty)).1.kind = 3 → (openF (T.getD (first + j) ByteArray.empty)).1.number ≤ (lastN first k i τ n).2.1) ∧
    (∀ m, n ≤ m → (∀ j, j < count → (openF (T.getD (first + j) ByteArray.empty)).2.2 = 0 → (openF (T.getD (first + j) ByteArray.empty)).1.kind = 3 → (openF (T.getD (first + j) ByteArray.empty)).1.number ≤ m) → (lastN first k i τ n).2.1 ≤ m) := by
  intro k
  induction k with
  | zero => intro i τ n _ _ _ hik; exact ⟨rfl, Nat.le_refl _, fun j h1 h2 => by omega, fun m h _ => h⟩
  | succ k ih =>
    intro i τ n hg hs hp hik
    rw [lastN, get_at hg hs hp (by omega), if_neg (openF_code _)]
    have x := Rds.read τ ((first + i : Nat) : Int)
    obtain ⟨a1, a2, a3, a4⟩ := ih (i + 1) _ (if (openF (T.getD (first + i) ByteArray.empty)).2.2 = 0 ∧ (openF (T.getD (first + i) ByteArray.empty)).1.kind = 3 then max n (openF (T.getD (first + i) ByteArray.empty)).1.number else n) (x.gone.trans hg) (x.safe.trans hs) (x.pend.trans hp) (by omega)
    refine ⟨a1, ?_, fun j h1 h2 h3 h4 => ?_, fun m hm hj => a4 m ?_ hj⟩
    · refine Nat.le_trans ?_ a2
      split <;> omega
    · rcases Nat.eq_or_lt_of_le h1 with e | h
      · subst e
        rw [if_pos ⟨h3, h4⟩] at a2 ⊢
        exact Nat.le_trans (Nat.le_max_right _ _) a2
      · exact a3 j h h2 h3 h4
    · split
      · rename_i hh
        have := hj i (by omega) hh.1 hh.2
        omega
      · exact hm

theorem open_zero : (openF zero512).2.2 ≠ 0 := by
  unfold openF
  split
  · decide
  · split
    · decide
    · split
      · decide
      · rw [if_pos (.inl (by rfl))]
        decide

end
end Go.Vc
