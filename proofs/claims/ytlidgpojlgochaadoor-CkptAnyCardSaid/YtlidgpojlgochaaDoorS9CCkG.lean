/- Checkpoints: what is found where. No program in sight. -/
import Derived.Test.YtlidgpojlgochaaDoorS9CCkF
set_option maxRecDepth 10000
namespace Go.Vc
open Go Go.Proofs Go.MapKept

/-! ## Reading changes nothing but the count -/

def Rds (σ τ : DS) : Prop := ∃ r, τ = { σ with reads := r }
theorem Rds.refl (σ : DS) : Rds σ σ := ⟨σ.reads, rfl⟩
theorem Rds.trans {a b c : DS} (x : Rds a b) (y : Rds b c) : Rds a c := by
  obtain ⟨r, rfl⟩ := x
  obtain ⟨s, rfl⟩ := y
  exact ⟨s, rfl⟩
theorem Rds.read (σ : DS) (n : Int) : Rds σ (σ.read n).1 := by
  unfold DS.read
  split
  · exact ⟨_, rfl⟩
  · exact Rds.refl _
theorem Rds.get {σ τ : DS} (x : Rds σ τ) (n : Int) : getF τ n = getF σ n := by
  obtain ⟨r, rfl⟩ := x
  have h1 : ({ σ with reads := r } : DS).asked n = σ.asked n := rfl
  have h2 : ({ σ with reads := r } : DS).look n.toNat = σ.look n.toNat := rfl
  have h3 : (({ σ with reads := r } : DS).read n).2 = (σ.read n).2 := by
    unfold DS.read
    rw [h1, h2]
    split <;> rfl
  unfold getF
  rw [h3]
theorem Rds.safe {σ τ : DS} (x : Rds σ τ) : τ.safe = σ.safe := by obtain ⟨r, rfl⟩ := x; rfl
theorem Rds.pend {σ τ : DS} (x : Rds σ τ) : τ.pend = σ.pend := by obtain ⟨r, rfl⟩ := x; rfl
theorem Rds.gone {σ τ : DS} (x : Rds σ τ) : τ.gone = σ.gone := by obtain ⟨r, rfl⟩ := x; rfl
theorem Rds.plan {σ τ : DS} (x : Rds σ τ) : τ.plan = σ.plan := by obtain ⟨r, rfl⟩ := x; rfl
theorem Rds.look {σ τ : DS} (x : Rds σ τ) (n : Nat) : τ.look n = σ.look n := by obtain ⟨r, rfl⟩ := x; rfl
theorem Rds.take {σ τ : DS} (x : Rds σ τ) (n : Int) : takeF τ n = takeF σ n := by
  unfold takeF
  rw [x.get n, x.safe]

theorem stN_rds (σ : DS) : ∀ i, Rds σ (stN σ i).1
  | 0 => Rds.refl _
  | i + 1 => (stN_rds σ i).trans (Rds.read _ _)

theorem newest_rds (σ : DS) : Rds σ (newestF σ).1 := by
  unfold newestF
  split
  · exact stN_rds σ 1
  · split
    · exact stN_rds σ 2
    · exact stN_rds σ 2

def okL (r : Tk × Bool × Int) : List Tk := if r.2.1 = true then [r.1] else []
theorem newest_eq {σ : DS} (h0 : (takeF σ 0).2.2 = 0) (h1 : (takeF σ 1).2.2 = 0) : (newestF σ).2 = (sortT (okL (takeF σ 0) ++ okL (takeF σ 1)), 0) := by
  have e1 : takeF (stN σ 1).1 1 = takeF σ 1 := (stN_rds σ 1).take 1
  have e2 : (stN σ 2).2 = okL (takeF σ 0) ++ okL (takeF σ 1) := by
    show (([] : List Tk) ++ (if (takeF σ ((0 : Nat) : Int)).2.1 = true then [(takeF σ ((0 : Nat) : Int)).1] else [])) ++ (if (takeF (stN σ 1).1 ((1 : Nat) : Int)).2.1 = true then [(takeF (stN σ 1).1 ((1 : Nat) : Int)).1] else []) = _
    rw [show ((1 : Nat) : Int) = 1 from rfl, e1, List.nil_append]
    rfl
  unfold newestF
  rw [if_neg (by rw [show takeF (stN σ 0).1 0 = takeF σ 0 from rfl]; simpa using h0), if_neg (by rw [e1]; simpa using h1), e2]

theorem gath_rds (t : Tk) : ∀ (fuel k : Nat) (σ : DS) (acc : List UInt8), Rds σ (gath t fuel k σ acc).1
  | 0, _, σ, _ => Rds.refl σ
  | fuel + 1, k, σ, acc => by
    unfold gath
    split
    · split
      · exact Rds.read _ _
      · split
        · exact Rds.read _ _
        · exact (Rds.read _ _).trans (gath_rds t fuel _ _ _)
    · exact Rds.refl _

theorem findT_rds (σ : DS) (t : Tk) : Rds σ (findT σ t).1 := by
  have := gath_rds t (t.size + 1) 0 σ []
  unfold findT
  split
  · exact this
  · split <;> exact this

theorem find_rds (σ : DS) : Rds σ (findF σ).1 := by
  unfold findF
  split
  · exact newest_rds σ
  · generalize (newestF σ).2.1 = l
    cases l with
    | nil => exact newest_rds σ
    | cons t l => exact (newest_rds σ).trans (findT_rds _ t)

theorem Rds.gath {t : Tk} : ∀ (fuel k : Nat) {σ τ : DS} (acc : List UInt8), Rds σ τ → (gath t fuel k τ acc).2 = (Go.Vc.gath t fuel k σ acc).2
  | 0, _, _, _, _, _ => rfl
  | fuel + 1, k, σ, τ, acc, x => by
    show (if acc.length < t.size then _ else _ : DS × List UInt8 × Int).2 = (if acc.length < t.size then _ else _ : DS × List UInt8 × Int).2
    split
    · rw [x.get]
      split
      · rfl
      · split
        · rfl
        · exact Rds.gath fuel (k + 1) _ (by
            obtain ⟨r, hr⟩ := (Rds.read σ (placeH t.h + k))
            obtain ⟨s, hs⟩ := (x.trans (Rds.read τ (placeH t.h + k)))
            rw [hr, hs]
            exact ⟨s, rfl⟩)
    · rfl

/-! ## A head that lies there -/

theorem open_code (s : ByteArray) : (openF s).2.2 = 0 ∨ 42 ≤ (openF s).2.2 := by
  unfold openF
  split
  · exact .inr (by decide)
  · split
    · exact .inr (by decide)
    · split
      · exact .inr (by decide)
      · split
        · exact .inr (by decide)
        · split
          · exact .inr (by decide)
          · exact .inl rfl

theorem get_at {σ : DS} {n : Nat} (hg : σ.gone = false) (hn : n < σ.safe.length) : getF σ (n : Int) = ((openF (σ.look n)).1, (openF (σ.look n)).2.2) := get_ok hg hn

theorem take_none {σ : DS} {n : Nat} (hg : σ.gone = false) (hn : n < σ.safe.length) (h : (openF (σ.look n)).2.2 ≠ 0) : takeF σ (n : Int) = (Tk.no, false, 0) := by
  have := open_code (σ.look n)
  unfold takeF
  rw [get_at hg hn, if_neg (by show ¬ (openF (σ.look n)).2.2 = 40; omega), if_pos (.inl h)]

theorem take_zero {σ : DS} (hg : σ.gone = false) (n : Int) : (takeF σ n).2.2 = 0 := by
  have h40 : (getF σ n).2 ≠ 40 := by
    unfold getF DS.read
    by_cases ha : σ.asked n = 0
    · rw [if_pos ha]
      have := open_code (σ.look n.toNat)
      rw [if_neg (by simp)]
      show (openF (σ.look n.toNat)).2.2 ≠ 40
      omega
    · rw [if_neg ha]
      have : σ.asked n ≠ 40 := by
        unfold DS.asked
        rw [hg]
        simp only [Bool.false_eq_true, if_false]
        split <;> decide
      rw [if_pos (by simpa using ha)]
      exact this
  unfold takeF
  rw [if_neg h40]
  split <;> rfl

theorem head_four {a b c d : List UInt8} (ha : a.length = 8) (hb : b.length = 4) (hc : c.length = 4) (hd : d.length = 4) :
    (a ++ (b ++ (c ++ d))).take 8 = a ∧ ((a ++ (b ++ (c ++ d))).drop 8).take 4 = b ∧ ((a ++ (b ++ (c ++ d))).drop 12).take 4 = c ∧ ((a ++ (b ++ (c ++ d))).drop 16).take 4 = d := by
  refine ⟨List.take_left' ha, ?_, ?_, ?_⟩
  · rw [List.drop_left' ha, List.take_left' hb]
  · rw [show 12 = 8 + 4 from rfl, ← List.drop_drop, List.drop_left' ha, List.drop_left' hb, List.take_left' hc]
  · rw [show 16 = 8 + (4 + 4) from rfl, ← List.drop_drop, List.drop_left' ha, ← List.drop_drop, List.drop_left' hb, List.drop_left' hc, List.take_of_length_le (by omega)]

structure FitsH (n : Nat) (H : Hd) (image : ByteArray) : Prop where
  r : rightH n H = true
  i0 : 1 ≤ image.size
  i1 : (image.size : Int) ≤ mostH H

def tkOf (H : Hd) (image : ByteArray) : Tk := ⟨H, image.size, (sumB [image]).toNat⟩
def plN (H : Hd) : Nat := (placeH H).toNat

section
variable {n : Nat} {H : Hd} {image : ByteArray}

theorem FitsH.b (F : FitsH n H image) : n ≤ 4096 ∧ 1 ≤ H.ls ∧ H.ls ≤ 2046 ∧ H.ll = n - 2 - 2 * H.ls ∧ 1 ≤ H.ll ∧ (H.slot = 0 ∨ H.slot = 1) ∧ (1 ≤ H.gen ∧ H.gen ≤ 9223372036854775807) ∧ (1 ≤ H.ep ∧ H.ep ≤ 9223372036854775807) := rightH_ok F.r
theorem FitsH.sz (F : FitsH n H image) : image.size ≤ 2097152 ∧ (image.size : Int) ≤ 491 * H.ls := by have := F.i1; unfold mostH at this; omega
theorem FitsH.num (F : FitsH n H image) : (numP image : Int) ≤ H.ls ∧ 1 ≤ numP image := by have := F.sz; have := F.i0; unfold numP; omega
theorem FitsH.pl (F : FitsH n H image) : placeH H = (plN H : Int) ∧ 2 ≤ plN H ∧ plN H + numP image ≤ n ∧ plN H + H.ls.toNat ≤ n := by
  have h1 := F.b
  have h2 := F.num
  unfold plN placeH
  rcases h1.2.2.2.2.2.1 with e | e <;> rw [e] <;> omega
theorem FitsH.slot (F : FitsH n H image) : H.slot = (H.slot.toNat : Int) ∧ H.slot.toNat < 2 ∧ H.slot.toNat < n := by
  have h1 := F.b
  rcases h1.2.2.2.2.2.1 with e | e <;> rw [e] <;> omega
theorem FitsH.lay (F : FitsH n H image) : layF (n : Int) H.ls = ((H.ls, H.ll), 0) := by
  have h := F.r
  unfold rightH rightB at h
  obtain ⟨h1, h2, _⟩ := of_decide_eq_true h
  exact Prod.ext h2 h1
theorem FitsH.fit (F : FitsH n H image) : (tkOf H image).Fit := by
  have h1 := F.b
  have h2 := F.sz
  exact ⟨h1.2.2.2.2.2.1, h1.2.1, h1.2.2.1, F.i0, h2.1, h2.2, (sumB [image]).isLt⟩

theorem piece_size {k : Nat} (hk : 491 * k ≤ image.size) : (pieceF image k).size = min (image.size - 491 * k) 491 := by
  unfold pieceF
  rw [ByteArray.size_extract]
  omega
theorem piece_le {k : Nat} : (pieceF image k).size ≤ 491 := by
  unfold pieceF
  rw [ByteArray.size_extract]
  omega
theorem FitsH.headR (F : FitsH n H image) : (headM H image).Right := by
  have h1 := F.b
  refine ⟨by show (1 : Int) ≤ 1; decide, by show (1 : Int) ≤ 255; decide, ?_, ?_, ?_, ?_⟩
  all_goals (first | (show H.gen < _; omega) | (show 0 ≤ H.slot; omega) | (show H.slot ≤ _; omega) | (show (tx (bodyL H image)).size ≤ 491; rw [tx_size, bodyL_length]; decide))
theorem FitsH.pieceR (F : FitsH n H image) {k : Nat} (hk : k < numP image) : (pieceM H image k).Right := by
  have h1 := F.b
  have h2 := F.num
  refine ⟨by show (1 : Int) ≤ 2; decide, by show (2 : Int) ≤ 255; decide, ?_, ?_, ?_, ?_⟩
  all_goals (first | (show H.gen < _; omega) | (show 0 ≤ (k : Int); omega) | (show (k : Int) ≤ _; omega) | exact piece_le)

theorem tk_of_body (F : FitsH n H image) : tkL n H.slot H.gen (bodyL H image) = tkOf H image := by
  have h1 := F.b
  have h2 := F.sz
  obtain ⟨t1, t2, t3, t4⟩ := head_four (a := beL 8 H.ep) (b := beL 4 H.ls.toNat) (c := beL 4 image.size) (d := beL 4 (sumB [image]).toNat) (beL_length _ _) (beL_length _ _) (beL_length _ _) (beL_length _ _)
  have hs : (sumB [image]).toNat < 4294967296 := (sumB [image]).isLt
  unfold tkL bodyL
  rw [t1, t2, t3, t4, numL_beL, numL_beL, numL_beL, numL_beL]
  have e1 : H.ep % 256 ^ 8 = H.ep := Nat.mod_eq_of_lt (by omega)
  have e2 : H.ls.toNat % 256 ^ 4 = H.ls.toNat := Nat.mod_eq_of_lt (by omega)
  have e3 : image.size % 256 ^ 4 = image.size := Nat.mod_eq_of_lt (by omega)
  have e4 : (sumB [image]).toNat % 256 ^ 4 = (sumB [image]).toNat := Nat.mod_eq_of_lt (by omega)
  rw [e1, e2, e3, e4, show ((H.ls.toNat : Nat) : Int) = H.ls by omega, F.lay]
  rfl

theorem tk_ok_body (F : FitsH n H image) : tkOk n (bodyL H image) (tkOf H image) = true := by
  have h1 := F.b
  obtain ⟨t1, t2, t3, t4⟩ := head_four (a := beL 8 H.ep) (b := beL 4 H.ls.toNat) (c := beL 4 image.size) (d := beL 4 (sumB [image]).toNat) (beL_length _ _) (beL_length _ _) (beL_length _ _) (beL_length _ _)
  unfold tkOk bodyL
  rw [t2, numL_beL]
  have e2 : H.ls.toNat % 256 ^ 4 = H.ls.toNat := Nat.mod_eq_of_lt (by omega)
  rw [e2, show ((H.ls.toNat : Nat) : Int) = H.ls by omega, F.lay]
  exact decide_eq_true ⟨rfl, F.r, F.i0, F.i1⟩

theorem take_head {σ : DS} (F : FitsH σ.safe.length H image) (hg : σ.gone = false) {m : Int} (ho : openF (σ.look H.slot.toNat) = (headM H image, m, 0)) : takeF σ H.slot = (tkOf H image, true, 0) := by
  obtain ⟨s1, s2, s3⟩ := F.slot
  have hget : getF σ H.slot = (headM H image, 0) := by
    rw [s1, get_at hg s3, ho]
  have hb : bl (headM H image).body = bodyL H image := bl_tx _
  have hh : (headM H image).isHead H.slot := ⟨rfl, rfl, by show (tx (bodyL H image)).size = 20; rw [tx_size, bodyL_length]⟩
  unfold takeF
  rw [hget, if_neg (by simp), if_neg (by rintro (h | h); exact h rfl; exact h hh)]
  show (tkL _ _ (headM H image).number (bl (headM H image).body), tkOk _ (bl (headM H image).body) (tkL _ _ (headM H image).number (bl (headM H image).body)), 0) = _
  rw [hb, show (headM H image).number = H.gen from rfl, tk_of_body F, tk_ok_body F]

/-- An image's pieces lie there. -/
def Pieced (σ : DS) (H : Hd) (image : ByteArray) : Prop := ∀ k, k < numP image → ∃ m, openF (σ.look (plN H + k)) = (pieceM H image k, m, 0)

theorem take_succ_piece {k : Nat} (hk : 491 * k ≤ image.size) : (bl image).take (491 * k) ++ bl (pieceF image k) = (bl image).take (491 * (k + 1)) := by
  unfold pieceF
  rw [bl_extract]
  by_cases h : 491 * (k + 1) ≤ image.size
  · rw [Nat.min_eq_left h, show 491 * (k + 1) = 491 * k + 491 by omega, Nat.add_sub_cancel_left, List.take_add]
  · rw [Nat.min_eq_right (by omega), List.take_of_length_le (l := (bl image).drop (491 * k)) (by rw [List.length_drop, bl_length]; omega), List.take_append_drop, List.take_of_length_le (by rw [bl_length]; omega)]

theorem gath_ok {σ : DS} (F : FitsH σ.safe.length H image) (hg : σ.gone = false) (hp : Pieced σ H image) : ∀ (fuel k : Nat) (τ : DS), Rds σ τ → image.size + 1 ≤ fuel + k → k ≤ numP image → (gath (tkOf H image) fuel k τ ((bl image).take (491 * k))).2 = (bl image, 0) := by
  intro fuel
  induction fuel with
  | zero =>
    intro k τ x hf hk
    have : numP image ≤ image.size := by have := F.i0; unfold numP; omega
    omega
  | succ fuel ih =>
    intro k τ x hf hk
    have hlen : ((bl image).take (491 * k)).length = min (491 * k) image.size := by rw [List.length_take, bl_length]
    show (if ((bl image).take (491 * k)).length < image.size then _ else _ : DS × List UInt8 × Int).2 = _
    by_cases hlt : 491 * k < image.size
    · have hkn : k < numP image := by unfold numP; omega
      obtain ⟨m, hm⟩ := hp k hkn
      obtain ⟨p1, p2, p3, p4⟩ := F.pl
      have hget : getF τ (placeH H + k) = (pieceM H image k, 0) := by
        rw [x.get, p1, show (plN H : Int) + (k : Int) = ((plN H + k : Nat) : Int) by omega, get_at hg (by omega), hm]
      have hpc : (pieceM H image k).isPiece H.gen k (image.size - ((bl image).take (491 * k)).length) := ⟨rfl, rfl, rfl, by
        show (pieceF image k).size = _
        rw [piece_size (by omega), hlen]; omega⟩
      rw [if_pos (by rw [hlen]; omega)]
      show (if (getF τ (placeH H + k)).2 = 40 then _ else if (getF τ (placeH H + k)).2 ≠ 0 ∨ ¬ (getF τ (placeH H + k)).1.isPiece H.gen k (image.size - ((bl image).take (491 * k)).length) then _ else _ : DS × List UInt8 × Int).2 = _
      rw [hget, if_neg (by simp), if_neg (by rintro (h | h); exact h rfl; exact h hpc)]
      rw [show placeH (tkOf H image).h = placeH H from rfl, hget]
      show (gath (tkOf H image) fuel (k + 1) _ ((bl image).take (491 * k) ++ bl (pieceF image k))).2 = _
      rw [take_succ_piece (by omega)]
      exact ih (k + 1) _ (x.trans (Rds.read _ _)) (by omega) hkn
    · rw [if_neg (by rw [hlen]; omega)]
      show (_, (0 : Int)) = _
      rw [List.take_of_length_le (by rw [bl_length]; omega)]

theorem findT_ok {σ τ : DS} (x : Rds σ τ) (F : FitsH σ.safe.length H image) (hg : σ.gone = false) (hp : Pieced σ H image) : (findT τ (tkOf H image)).2 = (H, image, 0) := by
  have h := gath_ok F hg hp (image.size + 1) 0 τ x (by omega) (Nat.zero_le _)
  have h1 : (gath (tkOf H image) ((tkOf H image).size + 1) 0 τ []).2 = (bl image, 0) := h
  have e : tx (bl image) = image := bl_inj (bl_tx _)
  unfold findT
  rw [h1, if_neg (by simp), e, if_neg (by simp [tkOf])]
  rfl

/-- What lies in both slots, the newest first. -/
theorem newest_two {σ : DS} {s o : Int} {t u : Tk} {ok : Bool} (hs : (s = 0 ∧ o = 1) ∨ (s = 1 ∧ o = 0)) (ht : takeF σ s = (t, true, 0)) (hu : takeF σ o = (u, ok, 0)) (hlt : ok = true → u.h.gen < t.h.gen) :
    (newestF σ).2 = (t :: (if ok = true then [u] else []), 0) := by
  rcases hs with ⟨rfl, rfl⟩ | ⟨rfl, rfl⟩
  · rw [newest_eq (by rw [ht]) (by rw [hu]), ht, hu]
    cases ok with
    | false => rfl
    | true =>
      have := hlt rfl
      show (if t.h.gen < u.h.gen then _ else _, _) = _
      rw [if_neg (by omega)]; rfl
  · rw [newest_eq (by rw [hu]) (by rw [ht]), ht, hu]
    cases ok with
    | false => rfl
    | true =>
      have := hlt rfl
      show (if u.h.gen < t.h.gen then _ else _, _) = _
      rw [if_pos (by omega)]; rfl

theorem find_first {σ : DS} {l : List Tk} (F : FitsH σ.safe.length H image) (hg : σ.gone = false) (hp : Pieced σ H image) (hn : (newestF σ).2 = (tkOf H image :: l, 0)) : (findF σ).2 = (H, image, 0) := by
  unfold findF
  rw [hn, if_neg (by simp)]
  exact findT_ok (newest_rds σ) F hg hp

end

end Go.Vc
