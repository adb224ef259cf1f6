/- The log: what is read of what was written. No program in sight. -/
import Derived.Test.YthkbecpgbjejkaaDoorS9WWlE
set_option maxRecDepth 10000
namespace Go.Vc
open Go Go.Proofs Go.MapKept

/-! ## Bodies -/

theorem bodyR_same : ∀ (f g : Nat) (s : List UInt8) (R : Rd), s.length < f → s.length < g → bodyR f s R = bodyR g s R := by
  intro f
  induction f with
  | zero => intro g s R h; omega
  | succ f ih =>
    intro g s R hf hg
    obtain ⟨g, rfl⟩ : ∃ x, g = x + 1 := ⟨g - 1, by omega⟩
    rw [bodyR, bodyR]
    by_cases hb : badP s = true
    · rw [if_pos hb, if_pos hb]
    · rw [if_neg hb, if_neg hb]
      have hl := restP_lt (by simpa using hb)
      cases takeR R (kindP s) (textP s) (decide (restP s = [])) with
      | none => rfl
      | some M =>
        show (if _ then _ else _) = (if _ then _ else _)
        rw [ih g (restP s) M (by omega) (by omega)]

theorem bodyF_eq (s : List UInt8) (R : Rd) : bodyF s R = if badP s = true then none else match takeR R (kindP s) (textP s) (decide (restP s = [])) with
    | none => none
    | some M => if restP s = [] then some M else bodyF (restP s) M := by
  unfold bodyF
  rw [bodyR]
  by_cases hb : badP s = true
  · rw [if_pos hb, if_pos hb]
  · rw [if_neg hb, if_neg hb]
    have hl := restP_lt (by simpa using hb)
    cases takeR R (kindP s) (textP s) (decide (restP s = [])) with
    | none => rfl
    | some M =>
      show (if _ then _ else _) = (if _ then _ else _)
      rw [bodyR_same s.length ((restP s).length + 1) (restP s) M (by omega) (by omega)]

theorem takeR_open {R M : Rd} {k : Nat} {t : List UInt8} {e : Bool} (h : takeR R k t e = some M) (hg : M.goes = false) (e' : Bool) : takeR R k t e' = some M := by
  unfold takeR at h ⊢
  split at h
  · cases h
  · rename_i h1
    rw [if_neg h1]
    split at h
    · cases h
    · rename_i h2
      by_cases h3 : k = 2 ∨ k = 3
      · rw [if_pos h3] at h; cases h; cases hg
      · rw [if_neg (by rintro (h | h); exact h3 h.1; exact h2 (.inr h))]
        exact h

theorem getD_app {s t : List UInt8} {i : Nat} (h : i < s.length) : (s ++ t).getD i 0 = s.getD i 0 := by
  rw [List.getD_eq_getElem?_getD, List.getElem?_append_left h, ← List.getD_eq_getElem?_getD]

theorem badP_app {s : List UInt8} (t : List UInt8) (h : badP s = false) : badP (s ++ t) = false ∧ kindP (s ++ t) = kindP s ∧ textP (s ++ t) = textP s ∧ restP (s ++ t) = restP s ++ t := by
  have h := of_decide_eq_false h
  have hl : lenP (s ++ t) = lenP s := by unfold lenP; rw [getD_app (by omega), getD_app (by omega)]
  refine ⟨?_, ?_, ?_, ?_⟩
  · unfold badP
    rw [hl, List.length_append]
    exact decide_eq_false (by omega)
  · unfold kindP; rw [getD_app (by omega)]
  · unfold textP
    rw [hl, List.drop_append_of_le_length (by omega), List.take_append_of_le_length (by rw [List.length_drop]; omega)]
  · unfold restP
    rw [hl, List.drop_append_of_le_length (by omega)]

theorem bodyF_append : ∀ (n : Nat) (s : List UInt8) (R M : Rd), s.length ≤ n → bodyF s R = some M → M.goes = false → ∀ t, t ≠ [] → bodyF (s ++ t) R = bodyF t M := by
  intro n
  induction n with
  | zero =>
    intro s R M hn h
    rw [List.eq_nil_of_length_eq_zero (Nat.le_zero.1 hn)] at h
    cases h
  | succ n ih =>
    intro s R M hn h hg t ht
    rw [bodyF_eq] at h
    split at h
    · cases h
    · rename_i hb
      have hb : badP s = false := by simpa using hb
      obtain ⟨a1, a2, a3, a4⟩ := badP_app t hb
      have hl := restP_lt hb
      rw [bodyF_eq (s ++ t), if_neg (by rw [a1]; decide), a2, a3, a4]
      split at h
      · cases h
      · rename_i M1 h1
        have hne : restP s ++ t ≠ [] := by simp [ht]
        split at h
        · rename_i hr
          cases h
          rw [takeR_open h1 hg (decide (restP s ++ t = [])), hr]
          show (if _ then _ else _) = _
          rw [if_neg (by simpa using ht)]
          rfl
        · rename_i hr
          rw [decide_eq_false hr] at h1
          rw [decide_eq_false hne, h1]
          show (if _ then _ else _) = _
          rw [if_neg hne]
          exact ih _ _ _ (by omega) h hg t ht

theorem piece_body {k : Nat} {p : List UInt8} (hk : k < 256) (h1 : 1 ≤ p.length) (h2 : p.length ≤ 488) (R : Rd) : bodyF (pieceB k p) R = takeR R k p true := by
  have e0 : kindP (pieceB k p) = k := by show (UInt8.ofNat k).toNat = k; rw [u8_nat]; omega
  have e1 : lenP (pieceB k p) = p.length := by
    show 256 * (UInt8.ofNat (p.length / 256)).toNat + (UInt8.ofNat p.length).toNat = _
    rw [u8_nat, u8_nat]; omega
  have e2 : textP (pieceB k p) = p := by
    unfold textP; rw [e1]; show p.take p.length = p; simp
  have e3 : restP (pieceB k p) = [] := by
    unfold restP; rw [e1, Nat.add_comm]; show p.drop p.length = []; simp
  have e4 : badP (pieceB k p) = false := by
    unfold badP; rw [e1, pieceB_length]; exact decide_eq_false (by omega)
  rw [bodyF_eq, if_neg (by rw [e4]; decide), e0, e2, e3]
  rw [decide_eq_true rfl]
  cases takeR R k p true <;> rfl

def chainR : List (List UInt8) → Rd → Option Rd
  | [], R => some R
  | b :: l, R => match bodyF b R with
    | none => none
    | some M => chainR l M

theorem chainR_snoc : ∀ (l : List (List UInt8)) (b : List UInt8) (R : Rd), chainR (l ++ [b]) R = match chainR l R with
    | none => none
    | some M => bodyF b M := by
  intro l
  induction l with
  | nil =>
    intro b R
    show (match bodyF b R with | none => none | some M => some M) = bodyF b R
    cases bodyF b R <;> rfl
  | cons a l ih =>
    intro b R
    rw [List.cons_append, chainR, chainR]
    cases bodyF a R with
    | none => rfl
    | some M => exact ih b M

theorem chainR_take : ∀ (l : List (List UInt8)) (t : Nat) (R M : Rd), chainR l R = some M → ∃ M', chainR (l.take t) R = some M' := by
  intro l
  induction l with
  | nil => intro t R M h; rw [List.take_nil]; exact ⟨M, h⟩
  | cons a l ih =>
    intro t R M h
    cases t with
    | zero => exact ⟨R, rfl⟩
    | succ t =>
      rw [List.take_succ_cons]
      rw [chainR] at h ⊢
      cases hb : bodyF a R with
      | none => rw [hb] at h; cases h
      | some M1 => rw [hb] at h; exact ih t M1 M h

theorem takeR_pre {R M : Rd} {k : Nat} {t : List UInt8} {e : Bool} (h : takeR R k t e = some M) : R.recs <+: M.recs := by
  unfold takeR at h
  split at h
  · cases h
  · split at h
    · cases h
    · cases h
      split
      · exact List.prefix_refl _
      · exact List.prefix_append _ _

theorem bodyR_pre : ∀ (f : Nat) (s : List UInt8) (R M : Rd), bodyR f s R = some M → R.recs <+: M.recs := by
  intro f
  induction f with
  | zero => intro s R M h; cases h
  | succ f ih =>
    intro s R M h
    rw [bodyR] at h
    split at h
    · cases h
    · split at h
      · cases h
      · rename_i M1 h1
        split at h
        · cases h; exact takeR_pre h1
        · exact (takeR_pre h1).trans (ih _ _ _ h)

theorem chainR_pre : ∀ (l : List (List UInt8)) (R M : Rd), chainR l R = some M → R.recs <+: M.recs := by
  intro l
  induction l with
  | nil => intro R M h; cases h; exact List.prefix_refl _
  | cons a l ih =>
    intro R M h
    rw [chainR] at h
    cases hb : bodyF a R with
    | none => rw [hb] at h; cases h
    | some M1 => rw [hb] at h; exact (bodyR_pre _ _ _ _ hb).trans (ih _ _ h)

theorem chainR_mono {l : List (List UInt8)} {R M1 M2 : Rd} {t u : Nat} (htu : t ≤ u) (h1 : chainR (l.take t) R = some M1) (h2 : chainR (l.take u) R = some M2) : M1.recs <+: M2.recs := by
  induction u generalizing M2 with
  | zero =>
    have : t = 0 := by omega
    subst this
    rw [h1] at h2; cases h2; exact List.prefix_refl _
  | succ u ih =>
    rcases Nat.lt_or_ge u t with h | h
    · have : t = u + 1 := by omega
      subst this
      rw [h1] at h2; cases h2; exact List.prefix_refl _
    · rcases Nat.lt_or_ge u l.length with hl | hl
      · have e : l.take (u + 1) = l.take u ++ [l[u]] := by rw [List.take_add_one, List.getElem?_eq_getElem hl]; rfl
        rw [e, chainR_snoc] at h2
        cases hc : chainR (l.take u) R with
        | none => rw [hc] at h2; cases h2
        | some M => rw [hc] at h2; exact (ih h hc).trans (bodyR_pre _ _ _ _ h2)
      · have e : l.take (u + 1) = l.take u := by rw [List.take_of_length_le (by omega), List.take_of_length_le hl]
        rw [e] at h2
        exact ih h h2

/-! ## What the sectors so far tell, and the open one -/

def Told (bodies : List (List UInt8)) (opn : List UInt8) (P : Rd) : Prop := ∃ R, chainR bodies Rd.no = some R ∧ ((opn = [] ∧ P = R) ∨ (opn ≠ [] ∧ bodyF opn R = some P))

section
variable {bodies : List (List UInt8)} {opn p : List UInt8} {P M : Rd} {k : Nat}

theorem Told.put (T : Told bodies opn P) (hg : P.goes = true → opn = []) (hk : k < 256) (h1 : 1 ≤ p.length) (h2 : p.length ≤ 488) (h : takeR P k p true = some M) : Told bodies (opn ++ pieceB k p) M := by
  obtain ⟨R, hc, hT⟩ := T
  refine ⟨R, hc, .inr ⟨by unfold pieceB; simp, ?_⟩⟩
  rcases hT with ⟨he, rfl⟩ | ⟨hne, hb⟩
  · rw [he, List.nil_append, piece_body hk h1 h2]; exact h
  · have hgf : P.goes = false := by
      cases hgo : P.goes with
      | false => rfl
      | true => exact (hne (hg hgo)).elim
    rw [bodyF_append _ opn R P (Nat.le_refl _) hb hgf _ (by unfold pieceB; simp), piece_body hk h1 h2]; exact h

theorem Told.next (T : Told bodies opn P) (h : opn ≠ []) : Told (bodies ++ [opn]) [] P := by
  obtain ⟨R, hc, hT⟩ := T
  rcases hT with ⟨he, _⟩ | ⟨_, hb⟩
  · exact (h he).elim
  · exact ⟨P, by rw [chainR_snoc, hc]; exact hb, .inl ⟨rfl, rfl⟩⟩

theorem Told.pre (T : Told bodies opn P) : ∃ R, chainR bodies Rd.no = some R ∧ R.recs <+: P.recs := by
  obtain ⟨R, hc, hT⟩ := T
  rcases hT with ⟨_, rfl⟩ | ⟨_, hb⟩
  · exact ⟨P, hc, List.prefix_refl _⟩
  · exact ⟨R, hc, bodyR_pre _ _ _ _ hb⟩

theorem Told.init : Told [] [] Rd.no := ⟨Rd.no, rfl, .inl ⟨rfl, rfl⟩⟩
end

/-! ## The disk -/

def Rds (σ τ : DS) : Prop := ∃ r, τ = { σ with reads := r }
theorem Rds.refl (σ : DS) : Rds σ σ := ⟨σ.reads, rfl⟩
theorem Rds.trans {a b c : DS} (x : Rds a b) (y : Rds b c) : Rds a c := by
  obtain ⟨r, rfl⟩ := x
  obtain ⟨q, rfl⟩ := y
  exact ⟨q, rfl⟩
theorem Rds.symm {a b : DS} (x : Rds a b) : Rds b a := by obtain ⟨r, rfl⟩ := x; exact ⟨a.reads, rfl⟩
theorem Rds.read (σ : DS) (n : Int) : Rds σ (σ.read n).1 := by
  unfold DS.read
  split
  · exact ⟨_, rfl⟩
  · exact Rds.refl σ
theorem Rds.get {σ τ : DS} (x : Rds σ τ) (n : Int) : getF τ n = getF σ n := by
  obtain ⟨r, rfl⟩ := x
  have e : (DS.read { σ with reads := r } n).2 = (σ.read n).2 := by
    unfold DS.read
    have ha : DS.asked { σ with reads := r } n = σ.asked n := rfl
    rw [ha]
    split <;> rfl
  unfold getF
  rw [e]
theorem Rds.safe {σ τ : DS} (x : Rds σ τ) : τ.safe = σ.safe := by obtain ⟨r, rfl⟩ := x; rfl
theorem Rds.pend {σ τ : DS} (x : Rds σ τ) : τ.pend = σ.pend := by obtain ⟨r, rfl⟩ := x; rfl
theorem Rds.gone {σ τ : DS} (x : Rds σ τ) : τ.gone = σ.gone := by obtain ⟨r, rfl⟩ := x; rfl

/-- A step of the disk: it fails, the power is off; or it is done. -/
theorem put_does {σ : DS} (hg : σ.gone = false) {n : Nat} {f : Frm} (hn : n < σ.safe.length) (r : f.Right) :
    ((putF σ (n : Int) f).2 = 40 ∧ (putF σ (n : Int) f).1.gone = true ∧ (putF σ (n : Int) f).1.safe = σ.safe ∧ (putF σ (n : Int) f).1.pend = σ.pend ∧ (putF σ (n : Int) f).1.writes = σ.writes ∧ σ.plan ≠ 0) ∨
    ((putF σ (n : Int) f).2 = 0 ∧ (putF σ (n : Int) f).1.gone = false ∧ (putF σ (n : Int) f).1.safe = σ.safe ∧ (putF σ (n : Int) f).1.pend = σ.pend ++ [(n, tx (sealL f (markB (σ.look n))))] ∧ (putF σ (n : Int) f).1.writes = inc64 σ.writes ∧ (putF σ (n : Int) f).1.plan = σ.plan - 1 ∧ (putF σ (n : Int) f).1.flushes = σ.flushes) := by
  have e : putF σ (n : Int) f = ({ σ with reads := inc64 σ.reads } : DS).write (n : Int) (tx (sealL f (markB (σ.look n)))) := by
    unfold putF
    rw [if_neg (by rw [r.wrong]; simp), read_ok hg hn, if_neg (by simp)]
    rfl
  rw [e]
  have ha : DS.asked { σ with reads := inc64 σ.reads } (n : Int) = 0 := by
    show (if σ.gone = true then (40 : Int) else _) = 0
    rw [if_neg (by rw [hg]; decide)]
    exact if_neg (by show ¬ ((n : Int) < 0 ∨ (σ.safe.length : Int) ≤ n); omega)
  unfold DS.write
  rw [if_pos ha, if_pos (by rw [tx_size, sealL_length r.b])]
  have st := DS.stepped_safe { σ with reads := inc64 σ.reads }
  by_cases h1 : σ.plan = 1
  · have hst : DS.stepped { σ with reads := inc64 σ.reads } = { σ with reads := inc64 σ.reads, plan := σ.plan - 1, gone := decide (σ.plan = 1) } := by
      unfold DS.stepped; rw [if_neg (by show ¬ σ.plan = 0; omega)]
    have hgo : (DS.stepped { σ with reads := inc64 σ.reads }).gone = true := by rw [hst]; exact decide_eq_true h1
    rw [if_pos hgo]
    exact .inl ⟨rfl, hgo, st.1, st.2.1, st.2.2.2.1, by omega⟩
  · have hgo : (DS.stepped { σ with reads := inc64 σ.reads }).gone = false ∧ (DS.stepped { σ with reads := inc64 σ.reads }).plan = σ.plan - 1 := by
      unfold DS.stepped
      split
      · rename_i h0; exact ⟨hg, by have h0 : σ.plan = 0 := h0; show σ.plan = _; omega⟩
      · exact ⟨decide_eq_false h1, rfl⟩
    rw [if_neg (by rw [hgo.1]; simp)]
    exact .inr ⟨rfl, hgo.1, st.1, rfl, rfl, hgo.2, st.2.2.2.2⟩

theorem flush_does {σ : DS} (hg : σ.gone = false) :
    (σ.flush.2 = 40 ∧ σ.flush.1.gone = true ∧ σ.flush.1.safe = σ.safe ∧ σ.flush.1.pend = σ.pend ∧ σ.flush.1.writes = σ.writes ∧ σ.plan ≠ 0) ∨
    (σ.flush.2 = 0 ∧ σ.flush.1.gone = false ∧ σ.flush.1.safe = layAll σ.safe σ.pend ∧ σ.flush.1.pend = [] ∧ σ.flush.1.writes = σ.writes ∧ σ.flush.1.plan = σ.plan - 1) := by
  have st := DS.stepped_safe σ
  unfold DS.flush
  rw [if_neg (by rw [hg]; simp)]
  by_cases h1 : σ.plan = 1
  · have hst : σ.stepped = { σ with plan := σ.plan - 1, gone := decide (σ.plan = 1) } := by unfold DS.stepped; rw [if_neg (by omega)]
    have hgo : σ.stepped.gone = true := by rw [hst]; exact decide_eq_true h1
    rw [if_pos hgo]
    exact .inl ⟨rfl, hgo, st.1, st.2.1, st.2.2.2.1, by omega⟩
  · have hgo : σ.stepped.gone = false ∧ σ.stepped.plan = σ.plan - 1 := by
      unfold DS.stepped
      split
      · rename_i h0; exact ⟨hg, by omega⟩
      · exact ⟨decide_eq_false h1, rfl⟩
    rw [if_neg (by rw [hgo.1]; simp)]
    exact .inr ⟨rfl, hgo.1, rfl, rfl, st.2.2.2.1, hgo.2⟩

theorem layT_none {x s : ByteArray} (hx : x.size = 512) : layT x s 0 = x := by
  apply bl_inj
  rw [bl_layT hx]; simp
theorem layT_whole {x s : ByteArray} (hx : x.size = 512) (hs : s.size = 512) : layT x s 512 = s := by
  apply bl_inj
  rw [bl_layT hx, List.take_of_length_le (by rw [bl_length]; omega), List.drop_eq_nil_of_le (by rw [bl_length]; omega), List.append_nil]

theorem layD_ne {safe : List ByteArray} {w : Nat × ByteArray} {k i : Nat} (h : w.1 ≠ i) : (layD safe w k)[i]? = safe[i]? := by
  unfold layD; rw [List.getElem?_modify]; simp [h]
theorem layD_at {safe : List ByteArray} {w : Nat × ByteArray} {k : Nat} {y : ByteArray} (h : safe[w.1]? = some y) : (layD safe w k)[w.1]? = some (layT y w.2 k) := by
  unfold layD; rw [List.getElem?_modify, h]; simp

theorem layFates_other (l : List (Nat × ByteArray)) {i : Nat} : ∀ (fates : List (Int × Int)) (safe : List ByteArray), (∀ x ∈ l, x.1 ≠ i) → (layFates safe l fates)[i]? = safe[i]? := by
  induction l with
  | nil => intro fates safe _; rfl
  | cons w l ih =>
    intro fates safe h
    cases fates with
    | nil => rfl
    | cons f fates =>
      refine (ih fates (layD safe w (keptN f)) fun x hx => h x (by simp [hx])).trans ?_
      exact layD_ne (h w (by simp))

theorem layFates_length (l : List (Nat × ByteArray)) : ∀ (fates : List (Int × Int)) (safe : List ByteArray), (layFates safe l fates).length = safe.length := by
  induction l with
  | nil => intro fates safe; rfl
  | cons w l ih =>
    intro fates safe
    cases fates with
    | nil => rfl
    | cons f fates => exact (ih fates (layD safe w (keptN f))).trans (layD_length _ _ _)

theorem layFates_sizes (l : List (Nat × ByteArray)) : ∀ (fates : List (Int × Int)) (safe : List ByteArray), (∀ s ∈ safe, s.size = 512) → (∀ x ∈ l, x.2.size = 512) → ∀ s ∈ layFates safe l fates, s.size = 512 := by
  induction l with
  | nil => intro fates safe h _; exact h
  | cons w l ih =>
    intro fates safe h hl
    cases fates with
    | nil => exact h
    | cons f fates => exact ih fates (layD safe w (keptN f)) (layD_size h (hl w (by simp)) (keptN_le f)) fun x hx => hl x (by simp [hx])

theorem layFates_at (l : List (Nat × ByteArray)) : ∀ (fates : List (Int × Int)) (safe : List ByteArray), (∀ s ∈ safe, s.size = 512) → (∀ x ∈ l, x.1 < safe.length ∧ x.2.size = 512) → (l.map (·.1)).Nodup → ∀ x ∈ l, ∃ k, k ≤ 512 ∧ (layFates safe l fates)[x.1]? = some (layT (safe.getD x.1 ByteArray.empty) x.2 k) := by
  induction l with
  | nil => intro _ _ _ _ _ x hx; cases hx
  | cons w l ih =>
    intro fates safe hs hl hd x hx
    rw [List.map_cons, List.nodup_cons] at hd
    have hw := hl w (by simp)
    have gd : ∀ {n : Nat}, n < safe.length → safe[n]? = some (safe.getD n ByteArray.empty) := fun h => by rw [List.getD_eq_getElem?_getD, List.getElem?_eq_getElem h]; rfl
    have s5 : ∀ {n : Nat}, n < safe.length → (safe.getD n ByteArray.empty).size = 512 := fun {n} h => hs _ (List.mem_of_getElem? (gd h))
    cases fates with
    | nil => exact ⟨0, Nat.zero_le _, by rw [layT_none (s5 (hl x hx).1)]; exact gd (hl x hx).1⟩
    | cons f fates =>
      have hlen : (layD safe w (keptN f)).length = safe.length := layD_length _ _ _
      rcases List.mem_cons.1 hx with rfl | hx
      · refine ⟨keptN f, keptN_le f, ?_⟩
        refine (layFates_other l fates (layD safe x (keptN f)) fun y hy e => hd.1 (List.mem_map.2 ⟨y, hy, e⟩)).trans ?_
        exact layD_at (gd hw.1)
      · obtain ⟨k, h1, h2⟩ := ih fates (layD safe w (keptN f)) (layD_size hs hw.2 (keptN_le f)) (fun y hy => by rw [hlen]; exact hl y (by simp [hy])) hd.2 x hx
        refine ⟨k, h1, ?_⟩
        have hne : w.1 ≠ x.1 := fun e => hd.1 (List.mem_map.2 ⟨x, hx, e.symm⟩)
        have e : (layD safe w (keptN f)).getD x.1 ByteArray.empty = safe.getD x.1 ByteArray.empty := by
          rw [List.getD_eq_getElem?_getD, List.getD_eq_getElem?_getD, layD_ne hne]
        rw [e] at h2
        exact h2

theorem layAll_fates (l : List (Nat × ByteArray)) : ∀ (safe : List ByteArray), layAll safe l = layFates safe l (List.replicate l.length (1, 0)) := by
  induction l with
  | nil => intro safe; rfl
  | cons w l ih => intro safe; exact ih (layD safe w 512)

theorem layAll_at (l : List (Nat × ByteArray)) (safe : List ByteArray) (hs : ∀ s ∈ safe, s.size = 512) (hl : ∀ x ∈ l, x.1 < safe.length ∧ x.2.size = 512) (hd : (l.map (·.1)).Nodup) : ∀ x ∈ l, (layAll safe l)[x.1]? = some x.2 := by
  induction l generalizing safe with
  | nil => intro x hx; cases hx
  | cons w l ih =>
    intro x hx
    rw [List.map_cons, List.nodup_cons] at hd
    have hw := hl w (by simp)
    have hlen : (layD safe w 512).length = safe.length := layD_length _ _ _
    rcases List.mem_cons.1 hx with rfl | hx
    · have e1 : layAll safe (x :: l) = layAll (layD safe x 512) l := rfl
      rw [e1, layAll_fates]
      refine (layFates_other l _ (layD safe x 512) fun y hy e => hd.1 (List.mem_map.2 ⟨y, hy, e⟩)).trans ?_
      rw [layD_at (List.getElem?_eq_getElem hw.1), layT_whole (hs _ (List.getElem_mem _)) hw.2]
    · exact ih (layD safe w 512) (layD_size hs hw.2 (Nat.le_refl _)) (fun y hy => by rw [hlen]; exact hl y (by simp [hy])) hd.2 x hx

/-- The bytes of a log's sector, over what lay there. -/
def secX (S : List ByteArray) (first e : Nat) (bodies : List (List UInt8)) (j : Nat) : ByteArray := tx (sealL ⟨3, e, j, tx (bodies.getD j [])⟩ (markB (S.getD (first + j) ByteArray.empty)))

structure Base (S : List ByteArray) (first count e : Nat) : Prop where
  pos : 1 ≤ count
  fit : first + count ≤ S.length
  most : S.length ≤ 4096
  size : ∀ s ∈ S, s.size = 512
  ep : e < 18446744073709551616

structure Lies (S : List ByteArray) (first e : Nat) (bodies : List (List UInt8)) (f : Nat) (σ : DS) : Prop where
  fl : f ≤ bodies.length
  le : ∀ b ∈ bodies, b.length ≤ 491
  len : σ.safe.length = S.length
  lo : ∀ j, j < f → σ.safe[first + j]? = some (secX S first e bodies j)
  ot : ∀ i, (∀ j, j < f → i ≠ first + j) → σ.safe[i]? = S[i]?
  pend : σ.pend = (List.range' f (bodies.length - f)).map fun j => (first + j, secX S first e bodies j)

section
variable {S : List ByteArray} {first count e f : Nat} {bodies : List (List UInt8)} {σ : DS}

theorem right3 (hb : e < 18446744073709551616) {j : Nat} (hj : j ≤ 4096) {b : List UInt8} (hl : b.length ≤ 491) : (⟨3, e, j, tx b⟩ : Frm).Right :=
  ⟨by show (1 : Int) ≤ 3; decide, by show (3 : Int) ≤ 255; decide, hb, by show (0 : Int) ≤ (j : Int); omega, by show (j : Int) ≤ _; omega, by show (tx b).size ≤ _; rw [tx_size]; exact hl⟩

theorem bodyAt_le (hl : ∀ b ∈ bodies, b.length ≤ 491) (j : Nat) : (bodies.getD j []).length ≤ 491 := by
  rw [List.getD_eq_getElem?_getD]
  cases h : bodies[j]? with
  | none => exact Nat.zero_le _
  | some b => exact hl b (List.mem_of_getElem? h)

theorem secX_size (B : Base S first count e) (hl : ∀ b ∈ bodies, b.length ≤ 491) {j : Nat} (hj : j ≤ 4096) : (secX S first e bodies j).size = 512 := by
  unfold secX; rw [tx_size, sealL_length (right3 B.ep hj (bodyAt_le hl j)).b]

theorem secX_snoc {b : List UInt8} {j : Nat} (hj : j < bodies.length) : secX S first e (bodies ++ [b]) j = secX S first e bodies j := by
  unfold secX
  rw [List.getD_eq_getElem?_getD, List.getElem?_append_left hj, ← List.getD_eq_getElem?_getD]

theorem lastOf_none {l : List (Nat × ByteArray)} {n : Nat} (h : ∀ x ∈ l, x.1 ≠ n) : lastOf l n = none := by
  cases hl : lastOf l n with
  | none => rfl
  | some s =>
    exfalso
    revert hl
    refine snoc_ind (p := fun l => (∀ x ∈ l, x.1 ≠ n) → lastOf l n = some s → False) (fun _ h => by cases h) (fun l a ih => ?_) l h
    intro h hl
    rw [lastOf_snoc, if_neg (h a (by simp))] at hl
    exact ih (fun x hx => h x (by simp [hx])) hl

theorem Lies.pendIn (Q : Lies S first e bodies f σ) {x : Nat × ByteArray} (hx : x ∈ σ.pend) : ∃ j, f ≤ j ∧ j < bodies.length ∧ x = (first + j, secX S first e bodies j) := by
  rw [Q.pend] at hx
  obtain ⟨j, hj, rfl⟩ := List.mem_map.1 hx
  have := List.mem_range'_1.1 hj
  exact ⟨j, this.1, by omega, rfl⟩

theorem Lies.nodup (Q : Lies S first e bodies f σ) : (σ.pend.map (·.1)).Nodup := by
  rw [Q.pend, List.map_map]
  rw [List.Nodup, List.pairwise_map]
  refine List.Pairwise.imp ?_ (List.nodup_range' (s := f) (n := bodies.length - f))
  intro a b hab e
  have e : first + a = first + b := e
  omega

theorem Lies.look (Q : Lies S first e bodies f σ) {n : Nat} (hn : ∀ j, j < bodies.length → n ≠ first + j) : σ.look n = S.getD n ByteArray.empty := by
  unfold DS.look
  rw [lastOf_none fun x hx => by obtain ⟨j, _, h2, rfl⟩ := Q.pendIn hx; exact fun e => hn j h2 e.symm]
  show σ.safe.getD n _ = _
  rw [List.getD_eq_getElem?_getD, List.getD_eq_getElem?_getD, Q.ot n fun j hj => hn j (by have := Q.fl; omega)]

theorem Lies.put (Q : Lies S first e bodies f σ) (B : Base S first count e) (hg : σ.gone = false) (hi : bodies.length < count) {b : List UInt8} (hb : b.length ≤ 491) :
    ((putF σ ((first + bodies.length : Nat) : Int) ⟨3, e, bodies.length, tx b⟩).2 = 40 ∧ (putF σ ((first + bodies.length : Nat) : Int) ⟨3, e, bodies.length, tx b⟩).1.gone = true ∧ Lies S first e bodies f (putF σ ((first + bodies.length : Nat) : Int) ⟨3, e, bodies.length, tx b⟩).1 ∧ σ.plan ≠ 0) ∨
    ((putF σ ((first + bodies.length : Nat) : Int) ⟨3, e, bodies.length, tx b⟩).2 = 0 ∧ (putF σ ((first + bodies.length : Nat) : Int) ⟨3, e, bodies.length, tx b⟩).1.gone = false ∧ Lies S first e (bodies ++ [b]) f (putF σ ((first + bodies.length : Nat) : Int) ⟨3, e, bodies.length, tx b⟩).1 ∧
      (putF σ ((first + bodies.length : Nat) : Int) ⟨3, e, bodies.length, tx b⟩).1.plan = σ.plan - 1 ∧ (putF σ ((first + bodies.length : Nat) : Int) ⟨3, e, bodies.length, tx b⟩).1.writes = inc64 σ.writes) := by
  have hfit := B.fit
  have hmost := B.most
  have hfl := Q.fl
  rcases put_does hg (n := first + bodies.length) (f := ⟨3, e, bodies.length, tx b⟩) (by rw [Q.len]; omega) (right3 B.ep (by omega) hb) with ⟨h1, h2, h3, h4, _, h5⟩ | ⟨h1, h2, h3, h4, h5, h6, _⟩
  · exact .inl ⟨h1, h2, ⟨Q.fl, Q.le, by rw [h3]; exact Q.len, fun j hj => by rw [h3]; exact Q.lo j hj, fun i hi => by rw [h3]; exact Q.ot i hi, by rw [h4]; exact Q.pend⟩, h5⟩
  · refine .inr ⟨h1, h2, ⟨by rw [List.length_append]; omega, fun c hc => ?_, by rw [h3]; exact Q.len, fun j hj => ?_, fun i hi => by rw [h3]; exact Q.ot i hi, ?_⟩, h6, h5⟩
    · rcases List.mem_append.1 hc with hc | hc
      · exact Q.le c hc
      · simp at hc; rw [hc]; exact hb
    · rw [h3, secX_snoc (by omega)]; exact Q.lo j hj
    · rw [h4, Q.pend, List.length_append, show bodies.length + [b].length - f = (bodies.length - f) + 1 by simp; omega, List.range'_concat, List.map_append]
      congr 1
      · refine List.map_congr_left fun j hj => ?_
        have := List.mem_range'_1.1 hj
        rw [secX_snoc (by omega)]
      · show [_] = [_]
        congr 1
        rw [Nat.one_mul, show f + (bodies.length - f) = bodies.length by omega]
        congr 1
        rw [Q.look fun j hj => by omega]
        unfold secX
        rw [List.getD_eq_getElem?_getD (l := bodies ++ [b]), List.getElem?_append_right (Nat.le_refl _), Nat.sub_self]
        rfl

theorem Lies.sizes (Q : Lies S first e bodies f σ) (B : Base S first count e) (hk : bodies.length ≤ count) : (∀ s ∈ σ.safe, s.size = 512) ∧ ∀ x ∈ σ.pend, x.1 < σ.safe.length ∧ x.2.size = 512 := by
  have hfit := B.fit
  have hmost := B.most
  have hfl := Q.fl
  refine ⟨fun s hs => ?_, fun x hx => ?_⟩
  · obtain ⟨i, hi, rfl⟩ := List.getElem_of_mem hs
    by_cases h : ∃ j, j < f ∧ i = first + j
    · obtain ⟨j, hj, rfl⟩ := h
      have := Q.lo j hj
      rw [List.getElem?_eq_getElem hi] at this
      rw [Option.some.inj this]
      exact secX_size B Q.le (by omega)
    · have := Q.ot i fun j hj e => h ⟨j, hj, e⟩
      rw [List.getElem?_eq_getElem hi] at this
      exact B.size _ (List.mem_of_getElem? this.symm)
  · obtain ⟨j, h1, h2, rfl⟩ := Q.pendIn hx
    exact ⟨by show first + j < _; rw [Q.len]; omega, secX_size B Q.le (by omega)⟩

theorem Lies.flush (Q : Lies S first e bodies f σ) (B : Base S first count e) (hg : σ.gone = false) (hk : bodies.length ≤ count) :
    (σ.flush.2 = 40 ∧ σ.flush.1.gone = true ∧ Lies S first e bodies f σ.flush.1 ∧ σ.plan ≠ 0) ∨
    (σ.flush.2 = 0 ∧ σ.flush.1.gone = false ∧ Lies S first e bodies bodies.length σ.flush.1 ∧ σ.flush.1.plan = σ.plan - 1 ∧ σ.flush.1.writes = σ.writes) := by
  obtain ⟨z1, z2⟩ := Q.sizes B hk
  have hfl := Q.fl
  rcases flush_does hg with ⟨h1, h2, h3, h4, _, h5⟩ | ⟨h1, h2, h3, h4, h5, h6⟩
  · exact .inl ⟨h1, h2, ⟨Q.fl, Q.le, by rw [h3]; exact Q.len, fun j hj => by rw [h3]; exact Q.lo j hj, fun i hi => by rw [h3]; exact Q.ot i hi, by rw [h4]; exact Q.pend⟩, h5⟩
  · refine .inr ⟨h1, h2, ⟨Nat.le_refl _, Q.le, ?_, fun j hj => ?_, fun i hi => ?_, by rw [h4, Nat.sub_self]; rfl⟩, h6, h5⟩
    · rw [h3, layAll_fates, layFates_length]; exact Q.len
    · rw [h3]
      by_cases hjf : j < f
      · rw [layAll_fates, layFates_other _ _ _ fun x hx => by obtain ⟨j', h1, h2, rfl⟩ := Q.pendIn hx; show first + j' ≠ first + j; omega]
        exact Q.lo j hjf
      · have hm : (first + j, secX S first e bodies j) ∈ σ.pend := by
          rw [Q.pend]
          exact List.mem_map.2 ⟨j, List.mem_range'_1.2 ⟨by omega, by omega⟩, rfl⟩
        exact layAll_at _ _ z1 z2 Q.nodup _ hm
    · rw [h3, layAll_fates, layFates_other _ _ _ fun x hx => by obtain ⟨j', h1, h2, rfl⟩ := Q.pendIn hx; exact fun e => hi j' h2 e.symm]
      exact Q.ot i fun j hj => hi j (by omega)

/-- What a crash leaves. -/
structure Left (S : List ByteArray) (first e : Nat) (bodies : List (List UInt8)) (f : Nat) (T : List ByteArray) : Prop where
  len : T.length = S.length
  size : ∀ s ∈ T, s.size = 512
  lo : ∀ j, j < f → T[first + j]? = some (secX S first e bodies j)
  mid : ∀ j, f ≤ j → j < bodies.length → ∃ k, k ≤ 512 ∧ T[first + j]? = some (layT (S.getD (first + j) ByteArray.empty) (secX S first e bodies j) k)
  ot : ∀ i, (∀ j, j < bodies.length → i ≠ first + j) → T[i]? = S[i]?

theorem Lies.crash (Q : Lies S first e bodies f σ) (B : Base S first count e) (hk : bodies.length ≤ count) (fates : List (Int × Int)) : Left S first e bodies f (layFates σ.safe σ.pend fates) := by
  obtain ⟨z1, z2⟩ := Q.sizes B hk
  have hfl := Q.fl
  refine ⟨by rw [layFates_length]; exact Q.len, layFates_sizes _ _ _ z1 fun x hx => (z2 x hx).2, fun j hj => ?_, fun j h1 h2 => ?_, fun i hi => ?_⟩
  · rw [layFates_other _ _ _ fun x hx => by obtain ⟨j', h1, h2, rfl⟩ := Q.pendIn hx; show first + j' ≠ first + j; omega]
    exact Q.lo j hj
  · have hm : (first + j, secX S first e bodies j) ∈ σ.pend := by
      rw [Q.pend]
      exact List.mem_map.2 ⟨j, List.mem_range'_1.2 ⟨by omega, by omega⟩, rfl⟩
    obtain ⟨k, h3, h4⟩ := layFates_at _ fates _ z1 z2 Q.nodup _ hm
    have e : σ.safe.getD (first + j) ByteArray.empty = S.getD (first + j) ByteArray.empty := by
      rw [List.getD_eq_getElem?_getD, List.getD_eq_getElem?_getD, Q.ot (first + j) fun j' hj' => by omega]
    exact ⟨k, h3, by rw [← e]; exact h4⟩
  · rw [layFates_other _ _ _ fun x hx => by obtain ⟨j', h1, h2, rfl⟩ := Q.pendIn hx; exact fun e => hi j' h2 e.symm]
    exact Q.ot i fun j hj => hi j (by omega)

end
end Go.Vc
