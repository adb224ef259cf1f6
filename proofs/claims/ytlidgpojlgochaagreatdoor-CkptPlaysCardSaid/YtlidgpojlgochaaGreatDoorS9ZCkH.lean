import Derived.Test.YtlidgpojlgochaaGreatDoorS9ZCkF
set_option maxRecDepth 10000
/- Checkpoints: what is found where. No program in sight. -/
namespace Go.Vc
open Go Go.Proofs Go.MapKept

/-! ## Reading changes nothing but the count -/

def Rds (σ τ : DS) : Prop := ∃ r, τ = { σ with reads := r }
theorem Rds.refl (σ : DS) : Rds σ σ := ⟨σ.reads, rfl⟩
theorem Rds.trans {a b c : DS} (x : Rds a b) (y : Rds b c) : Rds a c := by
  obtain ⟨r, rfl⟩ := x
  obtain ⟨s, rfl⟩ := y
  exact ⟨s, rfl⟩
theorem Rds.read (σ : DS) (n : Int) : Rds σ (σ.read n).1 := by
  unfold DS.read
  split
  · exact ⟨_, rfl⟩
  · exact Rds.refl _
theorem Rds.get {σ τ : DS} (x : Rds σ τ) (n : Int) : getF τ n = getF σ n := by
  obtain ⟨r, rfl⟩ := x
  have h1 : ({ σ with reads := r } : DS).asked n = σ.asked n := rfl
  have h2 : ({ σ with reads := r } : DS).look n.toNat = σ.look n.toNat := rfl
  have h3 : (({ σ with reads := r } : DS).read n).2 = (σ.read n).2 := by
    unfold DS.read
    rw [h1, h2]
    split <;> rfl
  unfold getF
  rw [h3]
theorem Rds.safe {σ τ : DS} (x : Rds σ τ) : τ.safe = σ.safe := by obtain ⟨r, rfl⟩ := x; rfl
theorem Rds.pend {σ τ : DS} (x : Rds σ τ) : τ.pend = σ.pend := by obtain ⟨r, rfl⟩ := x; rfl
theorem Rds.gone {σ τ : DS} (x : Rds σ τ) : τ.gone = σ.gone := by obtain ⟨r, rfl⟩ := x; rfl
theorem Rds.plan {σ τ : DS} (x : Rds σ τ) : τ.plan = σ.plan := by obtain ⟨r, rfl⟩ := x; rfl
theorem Rds.look {σ τ : DS} (x : Rds σ τ) (n : Nat) : τ.look n = σ.look n := by obtain ⟨r, rfl⟩ := x; rfl
theorem Rds.take {σ τ : DS} (x : Rds σ τ) (n : Int) : takeF τ n = takeF σ n := by
  unfold takeF
  rw [x.get n, x.safe]

theorem stN_rds (σ : DS) : ∀ i, Rds σ (stN σ i).1
  | 0 => Rds.refl _
  | i + 1 => (stN_rds σ i).trans (Rds.read _ _)

theorem newest_rds (σ : DS) : Rds σ (newestF σ).1 := by
  unfold newestF
  split
  · exact stN_rds σ 1
  · split
    · exact stN_rds σ 2
    · exact stN_rds σ 2

def okL (r : Tk × Bool × Int) : List Tk := if r.2.1 = true then [r.1] else []
theorem newest_eq {σ : DS} (h0 : (takeF σ 0).2.2 = 0) (h1 : (takeF σ 1).2.2 = 0) : (newestF σ).2 = (sortT (okL (takeF σ 0) ++ okL (takeF σ 1)), 0) := by
  have e1 : takeF (stN σ 1).1 1 = takeF σ 1 := (stN_rds σ 1).take 1
  have e2 : (stN σ 2).2 = okL (takeF σ 0) ++ okL (takeF σ 1) := by
    show (([] : List Tk) ++ (if (takeF σ ((0 : Nat) : Int)).2.1 = true then [(takeF σ ((0 : Nat) : Int)).1] else [])) ++ (if (takeF (stN σ 1).1 ((1 : Nat) : Int)).2.1 = true then [(takeF (stN σ 1).1 ((1 : Nat) : Int)).1] else []) = _
    rw [show ((1 : Nat) : Int) = 1 from rfl, e1, List.nil_append]
    rfl
  unfold newestF
  rw [if_neg (by rw [show takeF (stN σ 0).1 0 = takeF σ 0 from rfl]; simpa using h0), if_neg (by rw [e1]; simpa using h1), e2]

theorem gath_rds (t : Tk) : ∀ (fuel k : Nat) (σ : DS) (acc : List UInt8), Rds σ (gath t fuel k σ acc).1
  | 0, _, σ, _ => Rds.refl σ
  | fuel + 1, k, σ, acc => by
    unfold gath
    split
    · split
      · exact Rds.read _ _
      · split
        · exact Rds.read _ _
        · exact (Rds.read _ _).trans (gath_rds t fuel _ _ _)
    · exact Rds.refl _

theorem findT_rds (σ : DS) (t : Tk) : Rds σ (findT σ t).1 := by
  have := gath_rds t (t.size + 1) 0 σ []
  unfold findT
  split
  · exact this
  · split <;> exact this

theorem find_rds (σ : DS) : Rds σ (findF σ).1 := by
  unfold findF
  split
  · exact newest_rds σ
  · generalize (newestF σ).2.1 = l
    cases l with
    | nil => exact newest_rds σ
    | cons t l => exact (newest_rds σ).trans (findT_rds _ t)

theorem Rds.gath {t : Tk} : ∀ (fuel k : Nat) {σ τ : DS} (acc : List UInt8), Rds σ τ → (gath t fuel k τ acc).2 = (Go.Vc.gath t fuel k σ acc).2
  | 0, _, _, _, _, _ => rfl
  | fuel + 1, k, σ, τ, acc, x => by
    show (if acc.length < t.size then _ else _ : DS × List UInt8 × Int).2 = (if acc.length < t.size then _ else _ : DS × List UInt8 × Int).2
    split
    · rw [x.get]
      split
      · rfl
      · split
        · rfl
        · exact Rds.gath fuel (k + 1) _ (by
            obtain ⟨r, hr⟩ := (Rds.read σ (placeH t.h + k))
            obtain ⟨s, hs⟩ := (x.trans (Rds.read τ (placeH t.h + k)))
            rw [hr, hs]
            exact ⟨s, rfl⟩)
    · rfl

/-! ## A head that lies there -/

theorem open_code (s : ByteArray) : (openF s).2.2 = 0 ∨ 42 ≤ (openF s).2.2 := by
  unfold openF
  split
  · exact .inr (by decide)
  · split
    · exact .inr (by decide)
    · split
      · exact .inr (by decide)
      · split
        · exact .inr (by decide)
        · split
          · exact .inr (by decide)
          · exact .inl rfl

theorem get_at {σ : DS} {n : Nat} (hg : σ.gone = false) (hn : n < σ.safe.length) : getF σ (n : Int) = ((openF (σ.look n)).1, (openF (σ.look n)).2.2) := get_ok hg hn

theorem take_none {σ : DS} {n : Nat} (hg : σ.gone = false) (hn : n < σ.safe.length) (h : (openF (σ.look n)).2.2 ≠ 0) : takeF σ (n : Int) = (Tk.no, false, 0) := by
  have := open_code (σ.look n)
  unfold takeF
  rw [get_at hg hn, if_neg (by show ¬ (openF (σ.look n)).2.2 = 40; omega), if_pos (.inl h)]

theorem take_zero {σ : DS} (hg : σ.gone = false) (n : Int) : (takeF σ n).2.2 = 0 := by
  have h40 : (getF σ n).2 ≠ 40 := by
    unfold getF DS.read
    by_cases ha : σ.asked n = 0
    · rw [if_pos ha]
      have := open_code (σ.look n.toNat)
      rw [if_neg (by simp)]
      show (openF (σ.look n.toNat)).2.2 ≠ 40
      omega
    · rw [if_neg ha]
      have : σ.asked n ≠ 40 := by
        unfold DS.asked
        rw [hg]
        simp only [Bool.false_eq_true, if_false]
        split <;> decide
      rw [if_pos (by simpa using ha)]
      exact this
  unfold takeF
  rw [if_neg h40]
  split <;> rfl

theorem head_four {a b c d : List UInt8} (ha : a.length = 8) (hb : b.length = 4) (hc : c.length = 4) (hd : d.length = 4) :
    (a ++ (b ++ (c ++ d))).take 8 = a ∧ ((a ++ (b ++ (c ++ d))).drop 8).take 4 = b ∧ ((a ++ (b ++ (c ++ d))).drop 12).take 4 = c ∧ ((a ++ (b ++ (c ++ d))).drop 16).take 4 = d := by
  refine ⟨List.take_left' ha, ?_, ?_, ?_⟩
  · rw [List.drop_left' ha, List.take_left' hb]
  · rw [show 12 = 8 + 4 from rfl, ← List.drop_drop, List.drop_left' ha, List.drop_left' hb, List.take_left' hc]
  · rw [show 16 = 8 + (4 + 4) from rfl, ← List.drop_drop, List.drop_left' ha, ← List.drop_drop, List.drop_left' hb, List.drop_left' hc, List.take_of_length_le (by omega)]

structure FitsH (n : Nat) (H : Hd) (image : ByteArray) : Prop where
  r : rightH n H = true
  i0 : 1 ≤ image.size
  i1 : (image.size : Int) ≤ mostH H

def tkOf (H : Hd) (image : ByteArray) : Tk := ⟨H, image.size, (sumB [image]).toNat⟩
def plN (H : Hd) : Nat := (placeH H).toNat

section
variable {n : Nat} {H : Hd} {image : ByteArray}

theorem FitsH.b (F : FitsH n H image) : n ≤ 4096 ∧ 1 ≤ H.ls ∧ H.ls ≤ 2046 ∧ H.ll = n - 2 - 2 * H.ls ∧ 1 ≤ H.ll ∧ (H.slot = 0 ∨ H.slot = 1) ∧ (1 ≤ H.gen ∧ H.gen ≤ 9223372036854775807) ∧ (1 ≤ H.ep ∧ H.ep ≤ 9223372036854775807) := rightH_ok F.r
theorem FitsH.sz (F : FitsH n H image) : image.size ≤ 2097152 ∧ (image.size : Int) ≤ 491 * H.ls := by have := F.i1; unfold mostH at this; omega
theorem FitsH.num (F : FitsH n H image) : (numP image : Int) ≤ H.ls ∧ 1 ≤ numP image := by have := F.sz; have := F.i0; unfold numP; omega
theorem FitsH.pl (F : FitsH n H image) : placeH H = (plN H : Int) ∧ 2 ≤ plN H ∧ plN H + numP image ≤ n ∧ plN H + H.ls.toNat ≤ n := by
  have h1 := F.b
  have h2 := F.num
  unfold plN placeH
  rcases h1.2.2.2.2.2.1 with e | e <;> rw [e] <;> omega
theorem FitsH.slot (F : FitsH n H image) : H.slot = (H.slot.toNat : Int) ∧ H.slot.toNat < 2 ∧ H.slot.toNat < n := by
  have h1 := F.b
  rcases h1.2.2.2.2.2.1 with e | e <;> rw [e] <;> omega
theorem FitsH.lay (F : FitsH n H image) : layF (n : Int) H.ls = ((H.ls, H.ll), 0) := by
  have h := F.r
  unfold rightH rightB at h
  obtain ⟨h1, h2, _⟩ := of_decide_eq_true h
  exact Prod.ext h2 h1
theorem FitsH.fit (F : FitsH n H image) : (tkOf H image).Fit := by
  have h1 := F.b
  have h2 := F.sz
  exact ⟨h1.2.2.2.2.2.1, h1.2.1, h1.2.2.1, F.i0, h2.1, h2.2, (sumB [image]).isLt⟩

theorem piece_size {k : Nat} (hk : 491 * k ≤ image.size) : (pieceF image k).size = min (image.size - 491 * k) 491 := by
  unfold pieceF
  rw [ByteArray.size_extract]
  omega
theorem piece_le {k : Nat} : (pieceF image k).size ≤ 491 := by
  unfold pieceF
  rw [ByteArray.size_extract]
  omega
theorem FitsH.headR (F : FitsH n H image) : (headM H image).Right := by
  have h1 := F.b
  refine ⟨by show (1 : Int) ≤ 1; decide, by show (1 : Int) ≤ 255; decide, ?_, ?_, ?_, ?_⟩
  all_goals (first | (show H.gen < _; omega) | (show 0 ≤ H.slot; omega) | (show H.slot ≤ _; omega) | (show (tx (bodyL H image)).size ≤ 491; rw [tx_size, bodyL_length]; decide))
theorem FitsH.pieceR (F : FitsH n H image) {k : Nat} (hk : k < numP image) : (pieceM H image k).Right := by
  have h1 := F.b
  have h2 := F.num
  refine ⟨by show (1 : Int) ≤ 2; decide, by show (2 : Int) ≤ 255; decide, ?_, ?_, ?_, ?_⟩
  all_goals (first | (show H.gen < _; omega) | (show 0 ≤ (k : Int); omega) | (show (k : Int) ≤ _; omega) | exact piece_le)

theorem tk_of_body (F : FitsH n H image) : tkL n H.slot H.gen (bodyL H image) = tkOf H image := by
  have h1 := F.b
  have h2 := F.sz
  obtain ⟨t1, t2, t3, t4⟩ := head_four (a := beL 8 H.ep) (b := beL 4 H.ls.toNat) (c := beL 4 image.size) (d := beL 4 (sumB [image]).toNat) (beL_length _ _) (beL_length _ _) (beL_length _ _) (beL_length _ _)
  have hs : (sumB [image]).toNat < 4294967296 := (sumB [image]).isLt
  unfold tkL bodyL
  rw [t1, t2, t3, t4, numL_beL, numL_beL, numL_beL, numL_beL]
  have e1 : H.ep % 256 ^ 8 = H.ep := Nat.mod_eq_of_lt (by omega)
  have e2 : H.ls.toNat % 256 ^ 4 = H.ls.toNat := Nat.mod_eq_of_lt (by omega)
  have e3 : image.size % 256 ^ 4 = image.size := Nat.mod_eq_of_lt (by omega)
  have e4 : (sumB [image]).toNat % 256 ^ 4 = (sumB [image]).toNat := Nat.mod_eq_of_lt (by omega)
  rw [e1, e2, e3, e4, show ((H.ls.toNat : Nat) : Int) = H.ls by omega, F.lay]
  rfl

theorem tk_ok_body (F : FitsH n H image) : tkOk n (bodyL H image) (tkOf H image) = true := by
  have h1 := F.b
  obtain ⟨t1, t2, t3, t4⟩ := head_four (a := beL 8 H.ep) (b := beL 4 H.ls.toNat) (c := beL 4 image.size) (d := beL 4 (sumB [image]).toNat) (beL_length _ _) (beL_length _ _) (beL_length _ _) (beL_length _ _)
  unfold tkOk bodyL
  rw [t2, numL_beL]
  have e2 : H.ls.toNat % 256 ^ 4 = H.ls.toNat := Nat.mod_eq_of_lt (by omega)
  rw [e2, show ((H.ls.toNat : Nat) : Int) = H.ls by omega, F.lay]
  exact decide_eq_true ⟨rfl, F.r, F.i0, F.i1⟩

theorem take_head {σ : DS} (F : FitsH σ.safe.length H image) (hg : σ.gone = false) {m : Int} (ho : openF (σ.look H.slot.toNat) = (headM H image, m, 0)) : takeF σ H.slot = (tkOf H image, true, 0) := by
  obtain ⟨s1, s2, s3⟩ := F.slot
  have hget : getF σ H.slot = (headM H image, 0) := by
    rw [s1, get_at hg s3, ho]
  have hb : bl (headM H image).body = bodyL H image := bl_tx _
  have hh : (headM H image).isHead H.slot := ⟨rfl, rfl, by show (tx (bodyL H image)).size = 20; rw [tx_size, bodyL_length]⟩
  unfold takeF
  rw [hget, if_neg (by simp), if_neg (by rintro (h | h); exact h rfl; exact h hh)]
  show (tkL _ _ (headM H image).number (bl (headM H image).body), tkOk _ (bl (headM H image).body) (tkL _ _ (headM H image).number (bl (headM H image).body)), 0) = _
  rw [hb, show (headM H image).number = H.gen from rfl, tk_of_body F, tk_ok_body F]

/-- An image's pieces lie there. -/
def Pieced (σ : DS) (H : Hd) (image : ByteArray) : Prop := ∀ k, k < numP image → ∃ m, openF (σ.look (plN H + k)) = (pieceM H image k, m, 0)

theorem take_succ_piece {k : Nat} (hk : 491 * k ≤ image.size) : (bl image).take (491 * k) ++ bl (pieceF image k) = (bl image).take (491 * (k + 1)) := by
  unfold pieceF
  rw [bl_extract]
  by_cases h : 491 * (k + 1) ≤ image.size
  · rw [Nat.min_eq_left h, show 491 * (k + 1) = 491 * k + 491 by omega, Nat.add_sub_cancel_left, List.take_add]
  · rw [Nat.min_eq_right (by omega), List.take_of_length_le (l := (bl image).drop (491 * k)) (by rw [List.length_drop, bl_length]; omega), List.take_append_drop, List.take_of_length_le (by rw [bl_length]; omega)]

theorem gath_ok {σ : DS} (F : FitsH σ.safe.length H image) (hg : σ.gone = false) (hp : Pieced σ H image) : ∀ (fuel k : Nat) (τ : DS), Rds σ τ → image.size + 1 ≤ fuel + k → k ≤ numP image → (gath (tkOf H image) fuel k τ ((bl image).take (491 * k))).2 = (bl image, 0) := by
  intro fuel
  induction fuel with
  | zero =>
    intro k τ x hf hk
    have : numP image ≤ image.size := by have := F.i0; unfold numP; omega
    omega
  | succ fuel ih =>
    intro k τ x hf hk
    have hlen : ((bl image).take (491 * k)).length = min (491 * k) image.size := by rw [List.length_take, bl_length]
    show (if ((bl image).take (491 * k)).length < image.size then _ else _ : DS × List UInt8 × Int).2 = _
    by_cases hlt : 491 * k < image.size
    · have hkn : k < numP image := by unfold numP; omega
      obtain ⟨m, hm⟩ := hp k hkn
      obtain ⟨p1, p2, p3, p4⟩ := F.pl
      have hget : getF τ (placeH H + k) = (pieceM H image k, 0) := by
        rw [x.get, p1, show (plN H : Int) + (k : Int) = ((plN H + k : Nat) : Int) by omega, get_at hg (by omega), hm]
      have hpc : (pieceM H image k).isPiece H.gen k (image.size - ((bl image).take (491 * k)).length) := ⟨rfl, rfl, rfl, by
        show (pieceF image k).size = _
        rw [piece_size (by omega), hlen]; omega⟩
      rw [if_pos (by rw [hlen]; omega)]
      show (if (getF τ (placeH H + k)).2 = 40 then _ else if (getF τ (placeH H + k)).2 ≠ 0 ∨ ¬ (getF τ (placeH H + k)).1.isPiece H.gen k (image.size - ((bl image).take (491 * k)).length) then _ else _ : DS × List UInt8 × Int).2 = _
      rw [hget, if_neg (by simp), if_neg (by rintro (h | h); exact h rfl; exact h hpc)]
      rw [show placeH (tkOf H image).h = placeH H from rfl, hget]
      show (gath (tkOf H image) fuel (k + 1) _ ((bl image).take (491 * k) ++ bl (pieceF image k))).2 = _
      rw [take_succ_piece (by omega)]
      exact ih (k + 1) _ (x.trans (Rds.read _ _)) (by omega) hkn
    · rw [if_neg (by rw [hlen]; omega)]
      show (_, (0 : Int)) = _
      rw [List.take_of_length_le (by rw [bl_length]; omega)]

theorem findT_ok {σ τ : DS} (x : Rds σ τ) (F : FitsH σ.safe.length H image) (hg : σ.gone = false) (hp : Pieced σ H image) : (findT τ (tkOf H image)).2 = (H, image, 0) := by
  have h := gath_ok F hg hp (image.size + 1) 0 τ x (by omega) (Nat.zero_le _)
  have h1 : (gath (tkOf H image) ((tkOf H image).size + 1) 0 τ []).2 = (bl image, 0) := h
  have e : tx (bl image) = image := bl_inj (bl_tx _)
  unfold findT
  rw [h1, if_neg (by simp), e, if_neg (by simp [tkOf])]
  rfl

/-- What lies in both slots, the newest first. -/
theorem newest_two {σ : DS} {s o : Int} {t u : Tk} {ok : Bool} (hs : (s = 0 ∧ o = 1) ∨ (s = 1 ∧ o = 0)) (ht : takeF σ s = (t, true, 0)) (hu : takeF σ o = (u, ok, 0)) (hlt : ok = true → u.h.gen < t.h.gen) :
    (newestF σ).2 = (t :: (if ok = true then [u] else []), 0) := by
  rcases hs with ⟨rfl, rfl⟩ | ⟨rfl, rfl⟩
  · rw [newest_eq (by rw [ht]) (by rw [hu]), ht, hu]
    cases ok with
    | false => rfl
    | true =>
      have := hlt rfl
      show (if t.h.gen < u.h.gen then _ else _, _) = _
      rw [if_neg (by omega)]; rfl
  · rw [newest_eq (by rw [hu]) (by rw [ht]), ht, hu]
    cases ok with
    | false => rfl
    | true =>
      have := hlt rfl
      show (if u.h.gen < t.h.gen then _ else _, _) = _
      rw [if_pos (by omega)]; rfl

theorem find_first {σ : DS} {l : List Tk} (F : FitsH σ.safe.length H image) (hg : σ.gone = false) (hp : Pieced σ H image) (hn : (newestF σ).2 = (tkOf H image :: l, 0)) : (findF σ).2 = (H, image, 0) := by
  unfold findF
  rw [hn, if_neg (by simp)]
  exact findT_ok (newest_rds σ) F hg hp

end

end Go.Vc

/- Checkpoints: what Write leaves, cut or not. No program in sight. -/
namespace Go.Vc
open Go Go.Proofs Go.MapKept

/-- The power is on: a step costs one of the plan. -/
structure Alive (σ : DS) (S : List ByteArray) (P : List (Nat × ByteArray)) (p : Nat) : Prop where
  g : σ.gone = false
  s : σ.safe = S
  q : σ.pend = P
  p : σ.plan = p
structure Dead (σ : DS) (S : List ByteArray) (P : List (Nat × ByteArray)) : Prop where
  g : σ.gone = true
  s : σ.safe = S
  q : σ.pend = P

section
variable {σ : DS} {S : List ByteArray} {P : List (Nat × ByteArray)} {p : Nat}

theorem Alive.rds {τ : DS} (A : Alive σ S P p) (x : Rds σ τ) : Alive τ S P p := ⟨x.gone.trans A.g, x.safe.trans A.s, x.pend.trans A.q, x.plan.trans A.p⟩

theorem write_step (A : Alive σ S P p) {n : Nat} {s : ByteArray} (hn : n < S.length) (hs : s.size = 512) :
    (p = 1 ∧ (σ.write (n : Int) s).2 = 40 ∧ Dead (σ.write (n : Int) s).1 S P) ∨ (p ≠ 1 ∧ (σ.write (n : Int) s).2 = 0 ∧ Alive (σ.write (n : Int) s).1 S (P ++ [(n, s)]) (p - 1)) := by
  have ha : σ.asked (n : Int) = 0 := by
    unfold DS.asked
    rw [if_neg (by simp [A.g]), if_neg (by rw [A.s]; omega)]
  unfold DS.write
  rw [if_pos ha, if_pos hs]
  by_cases h1 : p = 1
  · have hst : σ.stepped = { σ with plan := σ.plan - 1, gone := decide (σ.plan = 1) } := by unfold DS.stepped; rw [if_neg (by rw [A.p]; omega)]
    have hg : σ.stepped.gone = true := by rw [hst]; exact decide_eq_true (A.p.trans h1)
    rw [if_pos hg]
    exact .inl ⟨h1, rfl, hg, by rw [hst]; exact A.s, by rw [hst]; exact A.q⟩
  · have hg : σ.stepped.gone = false ∧ σ.stepped.safe = S ∧ σ.stepped.plan = p - 1 := by
      unfold DS.stepped
      split
      · rename_i h0; exact ⟨A.g, A.s, by have := A.p; omega⟩
      · exact ⟨decide_eq_false (by rw [A.p]; exact h1), A.s, by show σ.plan - 1 = _; rw [A.p]⟩
    rw [if_neg (by rw [hg.1]; simp)]
    exact .inr ⟨h1, rfl, hg.1, hg.2.1, by show σ.pend ++ _ = _; rw [A.q]; rfl, hg.2.2⟩

theorem put_step (A : Alive σ S P p) {n : Nat} {f : Frm} (hn : n < S.length) (r : f.Right) :
    (p = 1 ∧ (putF σ (n : Int) f).2 = 40 ∧ Dead (putF σ (n : Int) f).1 S P) ∨ (p ≠ 1 ∧ (putF σ (n : Int) f).2 = 0 ∧ Alive (putF σ (n : Int) f).1 S (P ++ [(n, tx (sealL f (markB (σ.look n))))]) (p - 1)) := by
  have e : putF σ (n : Int) f = ({ σ with reads := inc64 σ.reads } : DS).write (n : Int) (tx (sealL f (markB (σ.look n)))) := by
    unfold putF
    rw [if_neg (by rw [r.wrong]; simp), read_ok A.g (by rw [A.s]; exact hn)]
    rw [if_neg (by simp)]
    rfl
  rw [e]
  exact write_step (A.rds ⟨_, rfl⟩) hn (by rw [tx_size, sealL_length r.b])

theorem flush_step (A : Alive σ S P p) :
    (p = 1 ∧ σ.flush.2 = 40 ∧ Dead σ.flush.1 S P) ∨ (p ≠ 1 ∧ σ.flush.2 = 0 ∧ Alive σ.flush.1 (layAll S P) [] (p - 1)) := by
  unfold DS.flush
  rw [if_neg (by rw [A.g]; simp)]
  by_cases h1 : p = 1
  · have hst : σ.stepped = { σ with plan := σ.plan - 1, gone := decide (σ.plan = 1) } := by unfold DS.stepped; rw [if_neg (by rw [A.p]; omega)]
    have hg : σ.stepped.gone = true := by rw [hst]; exact decide_eq_true (A.p.trans h1)
    rw [if_pos hg]
    exact .inl ⟨h1, rfl, hg, by rw [hst]; exact A.s, by rw [hst]; exact A.q⟩
  · have hg : σ.stepped.gone = false ∧ σ.stepped.plan = p - 1 := by
      unfold DS.stepped
      split
      · rename_i h0; exact ⟨A.g, by have := A.p; omega⟩
      · exact ⟨decide_eq_false (by rw [A.p]; exact h1), by show σ.plan - 1 = _; rw [A.p]⟩
    rw [if_neg (by rw [hg.1]; simp)]
    exact .inr ⟨h1, rfl, hg.1, by show layAll σ.safe σ.pend = _; rw [A.s, A.q], rfl, hg.2⟩

end

/-- The first k pieces are on their way. -/
def Pieces (H : Hd) (image : ByteArray) (l : List (Nat × ByteArray)) (k : Nat) : Prop := l.length = k ∧ ∀ i, i < k → ∃ m, l[i]? = some (plN H + i, tx (sealL (pieceM H image i) m))

section
variable {n : Nat} {H : Hd} {image : ByteArray} {S : List ByteArray}

theorem run_puts (F : FitsH n H image) (hS : S.length = n) (rest : List (DS → DS × Int)) : ∀ (j k : Nat) (τ : DS) (P : List (Nat × ByteArray)) (p : Nat), Alive τ S P p → Pieces H image P k → k + j ≤ numP image →
    (∃ P' k', (runL ((List.range' k j).map (putS H image) ++ rest) τ).2 = 40 ∧ Dead (runL ((List.range' k j).map (putS H image) ++ rest) τ).1 S P' ∧ Pieces H image P' k' ∧ k' ≤ numP image ∧ 1 ≤ p ∧ p ≤ j) ∨
    (∃ τ' P', runL ((List.range' k j).map (putS H image) ++ rest) τ = runL rest τ' ∧ Alive τ' S P' (p - j) ∧ Pieces H image P' (k + j) ∧ (p = 0 ∨ j < p)) := by
  intro j
  induction j with
  | zero =>
    intro k τ P p A hP hk
    exact .inr ⟨τ, P, rfl, A, hP, by omega⟩
  | succ j ih =>
    intro k τ P p A hP hk
    obtain ⟨p1, p2, p3, p4⟩ := F.pl
    have ek : placeH H + (k : Int) = ((plN H + k : Nat) : Int) := by omega
    have st := put_step A (n := plN H + k) (f := pieceM H image k) (by omega) (F.pieceR (by omega))
    have e1 : putS H image k τ = putF τ ((plN H + k : Nat) : Int) (pieceM H image k) := by unfold putS; rw [ek]
    rw [List.range'_succ, List.map_cons, List.cons_append]
    rcases st with ⟨h1, h2, h3⟩ | ⟨h1, h2, h3⟩
    · have e2 : runL (putS H image k :: ((List.range' (k + 1) j).map (putS H image) ++ rest)) τ = putS H image k τ := by
        show (if _ then _ else _) = _
        rw [if_pos (by rw [e1, h2]; decide)]
      rw [e2, e1]
      exact .inl ⟨P, k, h2, h3, hP, by omega, by omega, by omega⟩
    · have e2 : runL (putS H image k :: ((List.range' (k + 1) j).map (putS H image) ++ rest)) τ = runL ((List.range' (k + 1) j).map (putS H image) ++ rest) (putS H image k τ).1 := by
        show (if _ then _ else _) = _
        rw [if_neg (by rw [e1, h2]; decide)]
      rw [e2]
      rw [← e1] at h3
      have hP' : Pieces H image (P ++ [(plN H + k, tx (sealL (pieceM H image k) (markB (τ.look (plN H + k)))))]) (k + 1) := by
        refine ⟨by rw [List.length_append, hP.1]; rfl, fun i hi => ?_⟩
        by_cases hik : i < k
        · obtain ⟨m, hm⟩ := hP.2 i hik
          exact ⟨m, by rw [List.getElem?_append_left (by rw [hP.1]; exact hik)]; exact hm⟩
        · have : i = k := by omega
          subst this
          exact ⟨_, by rw [List.getElem?_append_right (by rw [hP.1]; exact Nat.le_refl _), hP.1, Nat.sub_self]; rfl⟩
      rcases ih (k + 1) _ _ _ h3 hP' (by omega) with ⟨P', k', a1, a2, a3, a4, a5, a6⟩ | ⟨τ', P', a1, a2, a3, a4⟩
      · exact .inl ⟨P', k', a1, a2, a3, a4, by omega, by omega⟩
      · refine .inr ⟨τ', P', a1, ?_, ?_, by omega⟩
        · rw [show p - (j + 1) = p - 1 - j by omega]; exact a2
        · rw [show k + (j + 1) = k + 1 + j by omega]; exact a3

/-- The head's bytes, over what lies there. -/
def headX (H : Hd) (image : ByteArray) (S : List ByteArray) : Nat × ByteArray := (H.slot.toNat, tx (sealL (headM H image) (markB (S.getD H.slot.toNat ByteArray.empty))))

/-- How a Write on a disk with nothing pending may end. -/
theorem run_write {σ : DS} {p : Nat} (F : FitsH n H image) (hS : S.length = n) (A : Alive σ S [] p) :
    (∃ P k, (writeC σ H image).2 = 40 ∧ Dead (writeC σ H image).1 S P ∧ Pieces H image P k ∧ k ≤ numP image ∧ 1 ≤ p ∧ p ≤ numP image + 1) ∨
    (∃ P, Pieces H image P (numP image) ∧ (
      ((writeC σ H image).2 = 40 ∧ Dead (writeC σ H image).1 (layAll S P) [] ∧ p = numP image + 2) ∨
      ((writeC σ H image).2 = 40 ∧ Dead (writeC σ H image).1 (layAll S P) [headX H image (layAll S P)] ∧ p = numP image + 3) ∨
      ((writeC σ H image).2 = 0 ∧ Alive (writeC σ H image).1 (layAll (layAll S P) [headX H image (layAll S P)]) [] (p - (numP image + 3)) ∧ (p = 0 ∨ numP image + 3 < p)))) := by
  obtain ⟨s1, s2, s3⟩ := F.slot
  have e0 : writeC σ H image = runL (stepsF H image) σ := by
    unfold writeC
    rw [if_neg, if_neg]
    · have := F.i1; omega
    · rintro (h | h)
      · rw [A.s, hS, F.r] at h; cases h
      · have := F.i0; rw [h] at this; exact absurd this (by decide)
  have e1 : stepsF H image = (List.range' 0 (numP image)).map (putS H image) ++ [DS.flush, headS H image, DS.flush] := by
    unfold stepsF
    rw [List.range_eq_range']
  rw [e0, e1]
  rcases run_puts F hS [DS.flush, headS H image, DS.flush] (numP image) 0 σ [] p A ⟨rfl, fun i hi => absurd hi (Nat.not_lt_zero i)⟩ (by omega) with ⟨P, k, a1, a2, a3, a4, a5, a6⟩ | ⟨τ, P, a1, A1, a3, a4⟩
  · exact .inl ⟨P, k, a1, a2, a3, a4, a5, by omega⟩
  rw [Nat.zero_add] at a3
  rw [a1]
  rcases flush_step A1 with ⟨b1, b2, b3⟩ | ⟨b1, b2, A2⟩
  · have e2 : runL [DS.flush, headS H image, DS.flush] τ = τ.flush := by
      show (if _ then _ else _) = _
      rw [if_pos (by rw [b2]; decide)]
    rw [e2]
    exact .inl ⟨P, _, b2, b3, a3, Nat.le_refl _, by omega, by omega⟩
  have e2 : runL [DS.flush, headS H image, DS.flush] τ = runL [headS H image, DS.flush] τ.flush.1 := by
    show (if _ then _ else _) = _
    rw [if_neg (by rw [b2]; decide)]
  rw [e2]
  refine .inr ⟨P, a3, ?_⟩
  have hl1 : H.slot.toNat < (layAll S P).length := by
    have : ∀ (l : List (Nat × ByteArray)) (sf : List ByteArray), (layAll sf l).length = sf.length := by
      intro l
      induction l with
      | nil => intro sf; rfl
      | cons w l ih => intro sf; exact (ih (layD sf w 512)).trans (layD_length sf w 512)
    rw [this, hS]; exact s3
  have hlook : τ.flush.1.look H.slot.toNat = (layAll S P).getD H.slot.toNat ByteArray.empty := by
    unfold DS.look
    rw [A2.q, A2.s]; rfl
  have e3 : headS H image τ.flush.1 = putF τ.flush.1 (H.slot.toNat : Int) (headM H image) := by unfold headS; rw [← s1]
  have e4 : (H.slot.toNat, tx (sealL (headM H image) (markB (τ.flush.1.look H.slot.toNat)))) = headX H image (layAll S P) := by unfold headX; rw [hlook]
  rcases put_step A2 (n := H.slot.toNat) (f := headM H image) hl1 F.headR with ⟨c1, c2, c3⟩ | ⟨c1, c2, A3⟩
  · have e5 : runL [headS H image, DS.flush] τ.flush.1 = headS H image τ.flush.1 := by
      show (if _ then _ else _) = _
      rw [if_pos (by rw [e3, c2]; decide)]
    rw [e5, e3]
    exact .inl ⟨c2, c3, by omega⟩
  have e5 : runL [headS H image, DS.flush] τ.flush.1 = runL [DS.flush] (headS H image τ.flush.1).1 := by
    show (if _ then _ else _) = _
    rw [if_neg (by rw [e3, c2]; decide)]
  rw [e5, e3]
  rw [List.nil_append, e4] at A3
  rcases flush_step A3 with ⟨d1, d2, d3⟩ | ⟨d1, d2, A4⟩
  · have e6 : runL [DS.flush] (putF τ.flush.1 (H.slot.toNat : Int) (headM H image)).1 = (putF τ.flush.1 (H.slot.toNat : Int) (headM H image)).1.flush := by
      show (if _ then _ else _) = _
      rw [if_pos (by rw [d2]; decide)]
    rw [e6]
    exact .inr (.inl ⟨d2, d3, by omega⟩)
  · have e6 : runL [DS.flush] (putF τ.flush.1 (H.slot.toNat : Int) (headM H image)).1 = ((putF τ.flush.1 (H.slot.toNat : Int) (headM H image)).1.flush.1, 0) := by
      show (if _ then _ else _) = _
      rw [if_neg (by rw [d2]; decide)]; rfl
    rw [e6]
    refine .inr (.inr ⟨rfl, ?_, by omega⟩)
    rw [show p - (numP image + 3) = p - numP image - 1 - 1 - 1 by omega]
    exact A4

/-! ## What lies there afterwards -/

theorem layD_at {safe : List ByteArray} {w : Nat × ByteArray} {k i : Nat} : (layD safe w k)[i]? = if i = w.1 then (safe[i]?).map (fun x => layT x w.2 k) else safe[i]? := by
  unfold layD
  rw [List.getElem?_modify]
  by_cases h : w.1 = i
  · subst h; simp
  · rw [if_neg (fun e => h e.symm)]
    cases safe[i]? <;> simp [h]

theorem layFates_other (l : List (Nat × ByteArray)) {i : Nat} : ∀ (fates : List (Int × Int)) (safe : List ByteArray), (∀ x ∈ l, x.1 ≠ i) → (layFates safe l fates)[i]? = safe[i]? := by
  induction l with
  | nil => intro fates safe _; rfl
  | cons w l ih =>
    intro fates safe h
    cases fates with
    | nil => rfl
    | cons f fates =>
      show (layFates (layD safe w (keptN f)) l fates)[i]? = _
      rw [ih fates _ (fun x hx => h x (by simp [hx])), layD_at, if_neg (fun e => h w (by simp) e.symm)]

theorem layAll_other (l : List (Nat × ByteArray)) {i : Nat} : ∀ (safe : List ByteArray), (∀ x ∈ l, x.1 ≠ i) → (layAll safe l)[i]? = safe[i]? := by
  induction l with
  | nil => intro safe _; rfl
  | cons w l ih =>
    intro safe h
    show (layAll (layD safe w 512) l)[i]? = _
    rw [ih _ (fun x hx => h x (by simp [hx])), layD_at, if_neg (fun e => h w (by simp) e.symm)]

theorem layAll_length' : ∀ (l : List (Nat × ByteArray)) (sf : List ByteArray), (layAll sf l).length = sf.length := by
  intro l
  induction l with
  | nil => intro sf; rfl
  | cons w l ih => intro sf; exact (ih (layD sf w 512)).trans (layD_length sf w 512)

/-- Writes that lie apart: each has its bytes there. -/
theorem layAll_apart (l : List (Nat × ByteArray)) : ∀ (safe : List ByteArray) (i : Nat) (x : Nat × ByteArray), (∀ s ∈ safe, s.size = 512) → (∀ x ∈ l, x.2.size = 512 ∧ x.1 < safe.length) →
    (∀ (i j : Nat) (x y : Nat × ByteArray), l[i]? = some x → l[j]? = some y → x.1 = y.1 → i = j) → l[i]? = some x → (layAll safe l)[x.1]? = some x.2 := by
  induction l with
  | nil => intro safe i x _ _ _ h; simp at h
  | cons w l ih =>
    intro safe i x hs hl hd hi
    have hw := hl w (by simp)
    cases i with
    | zero =>
      obtain rfl : w = x := by simpa using hi
      show (layAll (layD safe w 512) l)[w.1]? = _
      have hne : ∀ y ∈ l, y.1 ≠ w.1 := by
        intro y hy e
        obtain ⟨j, hj⟩ := List.getElem?_of_mem hy
        exact absurd (hd (j + 1) 0 y w (by simpa using hj) rfl e) (by omega)
      rw [layAll_other l _ hne, layD_at, if_pos rfl, List.getElem?_eq_getElem hw.2]
      show some (layT _ w.2 512) = _
      rw [layT_all hw.1 (hs _ (List.getElem_mem hw.2))]
    | succ i =>
      show (layAll (layD safe w 512) l)[x.1]? = _
      exact ih _ i x (layD_size hs hw.1 (Nat.le_refl _)) (fun y hy => by rw [layD_length]; exact hl y (by simp [hy])) (fun i j x y h1 h2 e => by
        have := hd (i + 1) (j + 1) x y (by simpa using h1) (by simpa using h2) e
        omega) (by simpa using hi)

theorem Pieces.key {l : List (Nat × ByteArray)} {k : Nat} (h : Pieces H image l k) {x : Nat × ByteArray} (hx : x ∈ l) : ∃ i, i < k ∧ ∃ m, x = (plN H + i, tx (sealL (pieceM H image i) m)) := by
  obtain ⟨i, hi⟩ := List.getElem?_of_mem hx
  have hik : i < k := by
    have := (List.getElem?_eq_some_iff.1 hi).1
    have := h.1; omega
  obtain ⟨m, hm⟩ := h.2 i hik
  rw [hi] at hm
  exact ⟨i, hik, m, Option.some.inj hm⟩

/-- What a Write, and what came of it, has left of a disk. -/
structure LeftBy (n : Nat) (H : Hd) (image : ByteArray) (S T : List ByteArray) (code : Int) (p : Nat) : Prop where
  cd : code = 0 ∨ code = 40
  len : T.length = S.length
  off : ∀ i, i ≠ H.slot.toNat → (∀ k, k < numP image → i ≠ plN H + k) → T[i]? = S[i]?
  head : (T[H.slot.toNat]? = S[H.slot.toNat]? ∧ code = 40) ∨ (1 ≤ p ∧ numP image + 3 ≤ p ∧ code = 40 ∧ (openF (T.getD H.slot.toNat ByteArray.empty)).2.2 ≠ 0) ∨
    ((p = 0 ∨ numP image + 3 ≤ p) ∧ (∃ m, openF (T.getD H.slot.toNat ByteArray.empty) = (headM H image, m, 0)) ∧ ∀ k, k < numP image → ∃ m, openF (T.getD (plN H + k) ByteArray.empty) = (pieceM H image k, m, 0))
  zero : p = 0 → code = 0

theorem getD_of {l : List ByteArray} {i : Nat} {x : ByteArray} (h : l[i]? = some x) : l.getD i ByteArray.empty = x := by
  rw [List.getD_eq_getElem?_getD, h]; rfl

theorem left_pieces (F : FitsH n H image) (hS : S.length = n) (hz : ∀ s ∈ S, s.size = 512) {P : List (Nat × ByteArray)} (hP : Pieces H image P (numP image)) :
    (∀ i, (∀ k, k < numP image → i ≠ plN H + k) → (layAll S P)[i]? = S[i]?) ∧ (∀ s ∈ layAll S P, s.size = 512) ∧ ∀ k, k < numP image → ∃ m, (layAll S P)[plN H + k]? = some (tx (sealL (pieceM H image k) m)) := by
  obtain ⟨p1, p2, p3, p4⟩ := F.pl
  have hx : ∀ x ∈ P, x.2.size = 512 ∧ x.1 < S.length := by
    intro x hx
    obtain ⟨i, hi, m, rfl⟩ := hP.key hx
    exact ⟨by show (tx _).size = 512; rw [tx_size, sealL_length (F.pieceR hi).b], by show plN H + i < _; omega⟩
  refine ⟨fun i hi => layAll_other P S fun x hx e => ?_, (layAll_ok P S hz fun x h => (hx x h).1).1, fun k hk => ?_⟩
  · obtain ⟨j, hj, m, rfl⟩ := hP.key hx
    exact hi j hj e.symm
  · obtain ⟨m, hm⟩ := hP.2 k hk
    refine ⟨m, layAll_apart P S k _ hz hx (fun i j x y h1 h2 e => ?_) hm⟩
    obtain ⟨m1, e1⟩ := hP.2 i (by have := (List.getElem?_eq_some_iff.1 h1).1; have := hP.1; omega)
    obtain ⟨m2, e2⟩ := hP.2 j (by have := (List.getElem?_eq_some_iff.1 h2).1; have := hP.1; omega)
    rw [h1] at e1
    rw [h2] at e2
    rw [Option.some.inj e1, Option.some.inj e2] at e
    have e : plN H + i = plN H + j := e
    omega

theorem left_write {σ : DS} {p : Nat} (F : FitsH n H image) (hS : S.length = n) (hz : ∀ s ∈ S, s.size = 512) (A : Alive σ S [] p) (fates : List (Int × Int)) :
    LeftBy n H image S ((writeC σ H image).1.crash fates).safe (writeC σ H image).2 p := by
  obtain ⟨p1, p2, p3, p4⟩ := F.pl
  obtain ⟨s1, s2, s3⟩ := F.slot
  have hno : ∀ k, H.slot.toNat ≠ plN H + k := fun k => by omega
  have crashed : ∀ {τ : DS} {S' : List ByteArray} {P : List (Nat × ByteArray)}, τ.safe = S' → τ.pend = P → (τ.crash fates).safe = layFates S' P fates := by
    rintro τ S' P rfl rfl; rfl
  have lfl : ∀ (l : List (Nat × ByteArray)) (sf : List ByteArray) (fs : List (Int × Int)), (layFates sf l fs).length = sf.length := by
    intro l
    induction l with
    | nil => intro sf fs; rfl
    | cons w l ih =>
      intro sf fs
      cases fs with
      | nil => rfl
      | cons f fs => exact (ih (layD sf w (keptN f)) fs).trans (layD_length _ _ _)
  rcases run_write F hS A with ⟨P, k, h1, h2, h3, h4, h5, h6⟩ | ⟨P, hP, ⟨h1, h2, h3⟩ | ⟨h1, h2, h3⟩ | ⟨h1, h2, h3⟩⟩
  · rw [crashed h2.s h2.q, h1]
    have ho : ∀ i, (∀ k, k < numP image → i ≠ plN H + k) → (layFates S P fates)[i]? = S[i]? := fun i hi => layFates_other P fates S fun x hx e => by
      obtain ⟨j, hj, m, rfl⟩ := h3.key hx
      exact hi j (by omega) e.symm
    exact ⟨.inr rfl, lfl _ _ _, fun i _ hi => ho i hi, .inl ⟨ho _ fun k _ => hno k, rfl⟩, fun h => by omega⟩
  all_goals
    obtain ⟨l1, l2, l3⟩ := left_pieces F hS hz hP
    have len1 : (layAll S P).length = S.length := layAll_length' P S
  · rw [crashed h2.s h2.q, h1]
    exact ⟨.inr rfl, len1, fun i _ hi => l1 i hi, .inl ⟨l1 _ fun k _ => hno k, rfl⟩, fun h => by omega⟩
  · rw [crashed h2.s h2.q, h1]
    have hsz : (headX H image (layAll S P)).2.size = 512 := by show (tx _).size = 512; rw [tx_size, sealL_length F.headR.b]
    have hlt : H.slot.toNat < (layAll S P).length := by omega
    have hx0 : (layAll S P)[H.slot.toNat]? = some (layAll S P)[H.slot.toNat] := List.getElem?_eq_getElem hlt
    have hx5 : ((layAll S P)[H.slot.toNat]).size = 512 := l2 _ (List.getElem_mem hlt)
    have off : ∀ i, i ≠ H.slot.toNat → (layFates (layAll S P) [headX H image (layAll S P)] fates)[i]? = (layAll S P)[i]? := fun i hi => layFates_other _ fates _ fun x hx e => by
      rw [List.mem_singleton.1 hx] at e
      exact hi e.symm
    refine ⟨.inr rfl, (lfl _ _ _).trans len1, fun i hi hk => (off i hi).trans (l1 i hk), ?_, fun h => by omega⟩
    cases fates with
    | nil => exact .inl ⟨l1 _ fun k _ => hno k, rfl⟩
    | cons f fs =>
      have ht : (layFates (layAll S P) [headX H image (layAll S P)] (f :: fs))[H.slot.toNat]? = some (layT (layAll S P)[H.slot.toNat] (headX H image (layAll S P)).2 (keptN f)) := by
        show (layD (layAll S P) (headX H image (layAll S P)) (keptN f))[H.slot.toNat]? = _
        rw [layD_at, if_pos (show H.slot.toNat = (headX H image (layAll S P)).1 from rfl), hx0]; rfl
      have hk5 := keptN_le f
      by_cases k0 : keptN f = 0
      · refine .inl ⟨?_, rfl⟩
        rw [ht, k0, ← l1 H.slot.toNat fun k _ => hno k, hx0]
        congr 1
        apply bl_inj
        rw [bl_layT hx5, List.take_zero, List.drop_zero, List.nil_append]
      by_cases k5 : keptN f = 512
      · refine .inr (.inr ⟨.inr (by omega), ⟨_, by rw [getD_of ht, k5, layT_all hsz hx5]; exact open_seal F.headR⟩, fun k hk => ?_⟩)
        obtain ⟨m, hm⟩ := l3 k hk
        exact ⟨_, by rw [getD_of ((off _ fun e => hno k e.symm).trans hm)]; exact open_seal (F.pieceR hk)⟩
      · refine .inr (.inl ⟨by omega, by omega, rfl, ?_⟩)
        have hmk : (bl (headX H image (layAll S P)).2).getD 0 0 = markB (layAll S P)[H.slot.toNat] := by
          show (bl (tx _)).getD 0 0 = _
          rw [bl_tx, (seal_mark F.headR.b).1, getD_of hx0]
        rw [getD_of ht, open_torn hx5 hsz (by omega) (by omega) (by
          rw [hmk]
          unfold markB markN
          intro e
          have := congrArg UInt8.toNat e
          rw [u8_nat] at this
          have hb := ((bl (layAll S P)[H.slot.toNat]).getD 511 0).toNat_lt
          omega)]
        decide
  · rw [crashed h2.s h2.q, h1]
    have hsz : (headX H image (layAll S P)).2.size = 512 := by show (tx _).size = 512; rw [tx_size, sealL_length F.headR.b]
    have hlt : H.slot.toNat < (layAll S P).length := by omega
    have hx0 : (layAll S P)[H.slot.toNat]? = some (layAll S P)[H.slot.toNat] := List.getElem?_eq_getElem hlt
    have hx5 : ((layAll S P)[H.slot.toNat]).size = 512 := l2 _ (List.getElem_mem hlt)
    have ht : (layAll (layAll S P) [headX H image (layAll S P)])[H.slot.toNat]? = some (headX H image (layAll S P)).2 := by
      show (layD (layAll S P) (headX H image (layAll S P)) 512)[H.slot.toNat]? = _
      rw [layD_at, if_pos (show H.slot.toNat = (headX H image (layAll S P)).1 from rfl), hx0]
      show some (layT _ _ 512) = _
      rw [layT_all hsz hx5]
    have off : ∀ i, i ≠ H.slot.toNat → (layAll (layAll S P) [headX H image (layAll S P)])[i]? = (layAll S P)[i]? := fun i hi => layAll_other _ _ fun x hx e => by
      rw [List.mem_singleton.1 hx] at e
      exact hi e.symm
    have hhd : ∃ m, openF ((layAll (layAll S P) [headX H image (layAll S P)]).getD H.slot.toNat ByteArray.empty) = (headM H image, m, 0) := ⟨_, by rw [getD_of ht]; exact open_seal F.headR⟩
    refine ⟨.inl rfl, (layAll_length' _ _).trans len1, fun i hi hk => (off i hi).trans (l1 i hk), .inr (.inr ⟨by omega, hhd, fun k hk => ?_⟩), fun _ => rfl⟩
    · obtain ⟨m, hm⟩ := l3 k hk
      have hpp : ∃ m, openF ((layAll (layAll S P) [headX H image (layAll S P)]).getD (plN H + k) ByteArray.empty) = (pieceM H image k, m, 0) := ⟨_, by rw [getD_of ((off _ fun e => hno k e.symm).trans hm)]; exact open_seal (F.pieceR hk)⟩
      exact hpp

/-- A Write that is not cut. -/
theorem left_whole {σ : DS} (F : FitsH n H image) (hS : S.length = n) (hz : ∀ s ∈ S, s.size = 512) (A : Alive σ S [] 0) :
    (writeC σ H image).2 = 0 ∧ ∃ T, Alive (writeC σ H image).1 T [] 0 ∧ LeftBy n H image S T 0 0 := by
  have h := left_write F hS hz A []
  have hc := h.zero rfl
  rcases run_write F hS A with ⟨P, k, h1, h2, h3, h4, h5, h6⟩ | ⟨P, hP, ⟨h1, h2, h3⟩ | ⟨h1, h2, h3⟩ | ⟨h1, h2, h3⟩⟩
  · omega
  · omega
  · omega
  · rw [Nat.zero_sub] at h2
    refine ⟨h1, _, h2, ?_⟩
    rw [hc] at h
    have e : ((writeC σ H image).1.crash []).safe = layAll (layAll S P) [headX H image (layAll S P)] := by
      show layFates (writeC σ H image).1.safe _ [] = _
      unfold layFates
      rw [List.zip_nil_right, h2.s]
      rfl
    rw [e] at h
    exact h

end

end Go.Vc

