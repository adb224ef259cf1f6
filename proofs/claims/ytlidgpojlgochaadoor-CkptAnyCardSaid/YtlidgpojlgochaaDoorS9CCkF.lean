/- Checkpoints: Find. -/
import Derived.Test.YtlidgpojlgochaaDoorS9CCkE
set_option maxRecDepth 10000
namespace Go.Vc
open Go Go.Proofs Go.MapKept

/-! ## What is told -/

/-- Is a frame the piece of an image that is wanted? -/
def Frm.isPiece (f : Frm) (gen k left : Nat) : Prop := f.kind = 2 ∧ f.number = gen ∧ f.index = (k : Int) ∧ f.body.size = min left 491
instance (f : Frm) (gen k left : Nat) : Decidable (f.isPiece gen k left) := inferInstanceAs (Decidable (_ ∧ _ ∧ _ ∧ _))
def gath (t : Tk) : Nat → Nat → DS → List UInt8 → DS × List UInt8 × Int
  | 0, _, σ, acc => (σ, acc, 0)
  | fuel + 1, k, σ, acc =>
    if acc.length < t.size then
      if (getF σ (placeH t.h + k)).2 = 40 then ((σ.read (placeH t.h + k)).1, [], 40)
      else if (getF σ (placeH t.h + k)).2 ≠ 0 ∨ ¬ (getF σ (placeH t.h + k)).1.isPiece t.h.gen k (t.size - acc.length) then ((σ.read (placeH t.h + k)).1, [], 180)
      else gath t fuel (k + 1) (σ.read (placeH t.h + k)).1 (acc ++ bl (getF σ (placeH t.h + k)).1.body)
    else (σ, acc, 0)
def findT (σ : DS) (t : Tk) : DS × Hd × ByteArray × Int :=
  if (gath t (t.size + 1) 0 σ []).2.2 ≠ 0 then ((gath t (t.size + 1) 0 σ []).1, Hd.no, ⟨#[]⟩, (gath t (t.size + 1) 0 σ []).2.2)
  else if (sumB [tx (gath t (t.size + 1) 0 σ []).2.1]).toNat ≠ t.sum then ((gath t (t.size + 1) 0 σ []).1, Hd.no, ⟨#[]⟩, 180)
  else ((gath t (t.size + 1) 0 σ []).1, t.h, tx (gath t (t.size + 1) 0 σ []).2.1, 0)
def findL (σ : DS) : List Tk → DS × Hd × ByteArray × Int
  | [] => (σ, Hd.no, ⟨#[]⟩, 200)
  | t :: _ => findT σ t
def findF (σ : DS) : DS × Hd × ByteArray × Int :=
  if (newestF σ).2.2 ≠ 0 then ((newestF σ).1, Hd.no, ⟨#[]⟩, (newestF σ).2.2) else findL (newestF σ).1 (newestF σ).2.1

/-- What is known of a head that can be taken. -/
structure Tk.Fit (t : Tk) : Prop where
  s : t.h.slot = 0 ∨ t.h.slot = 1
  l0 : 1 ≤ t.h.ls
  l1 : t.h.ls ≤ 2046
  n0 : 1 ≤ t.size
  n1 : t.size ≤ 2097152
  n2 : (t.size : Int) ≤ 491 * t.h.ls
  m : t.sum < 4294967296

theorem tkOk_fit {n : Nat} {L : List UInt8} {t : Tk} (h : tkOk n L t = true) (hm : t.sum < 4294967296) : t.Fit := by
  unfold tkOk at h
  obtain ⟨h1, h2, h3, h4⟩ := of_decide_eq_true h
  obtain ⟨r1, r2, r3, r4, r5, r6, r7, r8⟩ := rightH_ok h2
  unfold mostH at h4
  exact ⟨r6, r2, r3, h3, by omega, by omega, hm⟩

theorem take_fit {σ : DS} {slot : Int} (h : (takeF σ slot).2.1 = true) : (takeF σ slot).1.Fit := by
  unfold takeF at h ⊢
  split
  · rename_i h1
    rw [if_pos h1] at h; cases h
  · rename_i h1
    rw [if_neg h1] at h
    split
    · rename_i h2
      rw [if_pos h2] at h; cases h
    · rename_i h2
      rw [if_neg h2] at h
      exact tkOk_fit h (numL_small (k := 4) (by rw [List.length_take]; omega))

theorem stN_fit (σ : DS) : ∀ i, ∀ t ∈ (stN σ i).2, t.Fit
  | 0, t, ht => by cases ht
  | i + 1, t, ht => by
    have ht : t ∈ (stN σ i).2 ++ (if (takeF (stN σ i).1 i).2.1 = true then [(takeF (stN σ i).1 i).1] else []) := ht
    rcases List.mem_append.1 ht with h | h
    · exact stN_fit σ i t h
    · split at h
      · rename_i hk
        rw [List.mem_singleton.1 h]
        exact take_fit hk
      · cases h

theorem sortT_mem {l : List Tk} {t : Tk} (h : t ∈ sortT l) : t ∈ l := by
  unfold sortT at h
  split at h
  · split at h <;> simp at h ⊢ <;> rcases h with h | h <;> simp [h]
  · exact h

theorem newest_fit {σ : DS} {t : Tk} (h : t ∈ (newestF σ).2.1) : t.Fit := by
  unfold newestF at h
  split at h
  · cases h
  · split at h
    · cases h
    · exact stN_fit σ 2 t (sortT_mem h)

/-! ## How -/

/-- Rows of bytes may have grown; all else is as it was. -/
def KcE (e : TypeId) (hr hs : Hp) : Prop := ∀ (y : Nat) (vs : Array Value) (t : TypeId), hr[y]? = some (.cells vs t) → t ≠ e → hs[y]? = some (.cells vs t)
theorem KcE.ext {e : TypeId} {hr hs : Hp} (x : Ext hr hs) : KcE e hr hs := fun y _ _ h _ => (x.old y (Array.getElem?_eq_some_iff.1 h).1).trans h
theorem KcE.grown {e : TypeId} {hr hs : Hp} {base n : Nat} {v : Value} {xs : List Value} (o : Own hr base e 1 v n xs) (g : Grown hr hs v.ownBlock) : KcE e hr hs := fun y vs t h ht => by
  refine (g.block y (Array.getElem?_eq_some_iff.1 h).1 fun e => ?_).trans h
  obtain ⟨cur, hc⟩ := o.blk e.symm
  rw [h] at hc
  cases hc
  exact ht rfl

section
variable {h : Hp} {B : Nat → Prop} {d : Nat} {σ : DS}

set_option maxHeartbeats 1000000 in
/-- ckpt.Find -/
theorem find_c (D : DiskAt dI h B d σ) (hh : Halves h) (h0 : ¬ B 0) : CallsH Tryd.prog 16 #[vP d] h fun e h' =>
    Same B h h' ∧ DiskAt dI h' B d (findF σ).1 ∧ e = .returned (.tuple #[.agg (hdV (findF σ).2.1).toArray, .string (findF σ).2.2.1, vZ (findF σ).2.2.2]) := by
  have nB : ∀ {x : Nat}, h.size ≤ x → ¬ B x := fun hx hb => by have := D.lt _ hb; omega
  refine V16 _ h _ ?_
  intro b g1 hb e1
  have x1 : Ext h g1 := by rw [e1]; exact Ext.push _ _
  have cb1 : g1[b]? = some (.cells (hdV Hd.no).toArray 26) := by rw [e1, hb, zerosHead]; exact push_last
  clear e1
  have lb1 := (Array.getElem?_eq_some_iff.1 cb1).1
  have hbh : h.size ≤ b := by omega
  refine ⟨infoHead, (newest_c (D.ext x1) (hh.ext x1) h0).mono ?_⟩
  rintro e g2 ⟨y2, D2, q, cq, rfl, oq⟩
  have cb2 := (y2.old b lb1 (nB hbh)).trans cb1
  have y02 := (x1.same B).trans y2 fun _ h _ => h
  -- the end: the result is set
  have fin : ∀ (H : Hd) (s : ByteArray) (code : Int) (τ : DS) (gq gr : Hp), Same B h gq → DiskAt dI gq B d τ → gq[b]? = some (.cells (hdV Hd.no).toArray 26) → findF σ = (τ, H, s, code) → gr = setsH gq b 0 (hdV H) →
      ∃ f0 f1 f2 f3 f4 : Int, cellsAt gr b 0 [vZ f0, .int .u64 f1, .int .u64 f2, vZ f3, vZ f4] ∧
        (Same B h gr ∧ DiskAt dI gr B d (findF σ).1 ∧ Ending.returned (.tuple #[.agg #[vZ f0, .int .u64 f1, .int .u64 f2, vZ f3, vZ f4], .string s, vZ code]) = .returned (.tuple #[.agg (hdV (findF σ).2.1).toArray, .string (findF σ).2.2.1, vZ (findF σ).2.2.2])) := by
    intro H s code τ gq gr y Dq cq ef er
    have cr := (hd_set cq H).2.2.2
    rw [← er] at cr
    have ys : Same (fun x => x = b) gq gr := by rw [er]; exact setsH_same rfl
    refine ⟨_, _, _, _, _, cellsAt_all (vs := hdV H) cr, y.trans ys fun x hx hl => by omega, ?_, by rw [ef]; rfl⟩
    rw [ef]
    exact Dq.other ys fun x hx e => nB hbh (e ▸ hx)
  have one : ∀ H : Hd, ∀ v ∈ hdV H, v.oneCell' = true := fun H => by simp [hdV, Value.oneCell']
  have wr : ∀ {gq : Hp}, gq[b]? = some (.cells (hdV Hd.no).toArray 26) → wrAt gq b 0 5 := fun c => (hd_set c Hd.no).2.2.1
  obtain ⟨l, hl⟩ : ∃ l, l = (newestF σ).2.1 := ⟨_, rfl⟩
  obtain ⟨code, hcode⟩ : ∃ code, code = (newestF σ).2.2 := ⟨_, rfl⟩
  have hfit : ∀ t ∈ l, t.Fit := fun t ht => newest_fit (by rw [← hl]; exact ht)
  rw [← hl] at oq
  rw [← hl, ← hcode]
  refine ⟨_, _, _, _, rfl, fun hne => ?_, fun hz => ?_⟩
  · have hne : code ≠ 0 := of_decide_eq_true hne
    refine ⟨rfl, one Hd.no, wr cb2, fun gr er => ?_⟩
    exact fin Hd.no ⟨#[]⟩ code _ g2 gr y02 D2 cb2 (by unfold findF; rw [← hcode, if_pos hne]) er
  have hz : ¬ code ≠ 0 := of_decide_eq_false hz
  have ef : findF σ = findL (newestF σ).1 l := by
    unfold findF
    rw [← hcode, if_neg hz, hl]
  refine ⟨fun hn0 => ?_, fun hn0 => ?_⟩
  · have hn0 : l = [] := List.eq_nil_of_length_eq_zero (by have := of_decide_eq_true hn0; omega)
    refine ⟨rfl, one Hd.no, wr cb2, fun gr er => ?_⟩
    exact fin Hd.no ⟨#[]⟩ 200 _ g2 gr y02 D2 cb2 (by rw [ef, hn0]; rfl) er
  have hn0 : l ≠ [] := fun h => by rw [h] at hn0; simp at hn0
  obtain ⟨t, l', hlt⟩ := List.exists_cons_of_ne_nil hn0
  have hlpos : 0 < l.length := by rw [hlt]; simp
  have ft := hfit t (by rw [hlt]; simp)
  have ef : findF σ = findT (newestF σ).1 t := by rw [ef, hlt]; rfl
  obtain ⟨σ0, hσ0⟩ : ∃ σ0, σ0 = (newestF σ).1 := ⟨_, rfl⟩
  rw [← hσ0] at ef D2
  have sg : SegS g2 q l.length 7 (l.map tkV) := oq.segS (by intro r hr; obtain ⟨t, _, rfl⟩ := List.mem_map.1 hr; rfl) (by simp)
  obtain ⟨bq, ob, p1, p2, p3, p4⟩ := sg.at (i := 0) (by simpa using hlpos)
  have et : (l.map tkV)[0]'(by simpa using hlpos) = tkV t := by simp [hlt]
  rw [et] at p4
  refine ⟨bq, ob, p1, p2, p3, _, _, _, _, _, _, _, p4, ?_⟩
  clear et p1 p2 p3 p4 sg oq bq ob hn0 hfit
  intro b2 g3 hb2 e3
  have x3 : Ext g2 g3 := by rw [e3]; exact Ext.push _ _
  have c3 : g3[b2]? = some (.cells (tkV Tk.no).toArray 81) := by rw [e3, hb2, zerosTk]; exact push_last
  clear e3
  obtain ⟨q1, q2, q3, q4⟩ := tk_set c3 t
  refine ⟨infoTk, rfl, q2, q3, ?_⟩
  intro g4 e4
  have x4 : Ext g2 g4 := by rw [e4]; exact x3.over (setsH_same (B := fun x => x = b2) rfl) fun x hx => by omega
  have c4 : g4[b2]? = some (.cells (tkV t).toArray 81) := by rw [e4]; exact q4
  clear e4 q1 q2 q3 q4 c3 x3
  have hb2h : h.size ≤ b2 := by have := y02.size; omega
  refine ⟨_, cellsAt_one (cellH_at c4), semH_make rowB zerosB (l := 0) (c := t.size) (Nat.zero_le _) (by have := ft.n1; omega) (by have := ft.n1; simp only [maxLen]; omega) ⟨_, _, _, rfl, ?_⟩⟩
  have x5 : Ext g4 (g4.push (.cells (Array.replicate t.size (.int .u8 0)) 5)) := Ext.push _ _
  have o5 : Own (g4.push (.cells (Array.replicate t.size (.int .u8 0)) 5)) h.size 5 1 (.slice (some ⟨g4.size, 0, none⟩) 0 t.size) 0 (List.replicate 0 (.int .u8 0)) := own_made (z := .int .u8 0) (l := 0) (Nat.zero_le _) (by have := ft.n1; simp only [maxLen]; omega) (by have := x4.size; have := y02.size; omega)
  generalize g4.push (.cells (Array.replicate t.size (.int .u8 0)) 5) = g5 at x5 o5
  have x25 := x4.trans x5
  have lt := ft.n1
  have ln := ft.n0
  have hpl : 0 ≤ placeH t.h ∧ placeH t.h ≤ 100000 := by
    have := ft.s; have := ft.l0; have := ft.l1
    unfold placeH
    rcases ft.s with e | e <;> rw [e] <;> omega
  refine ⟨fun ll hr => ∃ (k : Nat) (p : Option Addr) (c : Nat) (τ : DS) (acc : List UInt8), ll = [.slice p acc.length c, vI k] ∧ acc.length = min (491 * k) t.size ∧ (0 < k → 491 * (k - 1) < t.size) ∧ Same B h hr ∧ DiskAt dI hr B d τ ∧ hr[b]? = some (.cells (hdV Hd.no).toArray 26) ∧ hr[b2]? = some (.cells (tkV t).toArray 81) ∧
      Own hr h.size 5 1 (.slice p acc.length c) acc.length (byteVs acc) ∧ gath t (t.size + 1) 0 σ0 [] = gath t (t.size + 1 - k) k τ acc,
    fun ll _ => t.size - (match ll with | .slice _ n _ :: _ => n | _ => 0), ⟨0, _, _, σ0, [], rfl, by simp, by omega, (y02.trans (x25.same B) fun _ h _ => h), D2.ext x25, (x25.old b (Array.getElem?_eq_some_iff.1 cb2).1).trans cb2, (x5.old b2 (Array.getElem?_eq_some_iff.1 c4).1).trans c4, o5, rfl⟩, ?_⟩
  rintro p n c kx hr ⟨k, p', c', τ, acc, hll, hacc, hk, y, Dτ, cb, ct, o, hg⟩
  have hll' := hll
  simp only [List.cons.injEq, Value.slice.injEq, Value.int.injEq, and_true, true_and] at hll'
  obtain ⟨⟨rfl, hn, rfl⟩, rfl⟩ := hll'
  subst hn
  have hklt : k ≤ t.size := by
    by_cases h0 : 0 < k
    · have := hk h0; omega
    · omega
  refine ⟨_, cellsAt_one (cellH_at ct), fun hlt' => ?_, fun hlt' => ?_⟩
  · have hlt' : acc.length < t.size := by have := of_decide_eq_true hlt'; omega
    have e491 : acc.length = 491 * k := by omega
    refine ⟨_, _, _, _, _, tk_hd ct, (place_c t.h ft.s (by have := ft.l0; omega) (by have := ft.l1; omega) hr).mono ?_⟩
    rintro e g6 ⟨x6, rfl⟩
    refine ⟨_, rfl, _, wrapI64 (by omega) (by omega), (get_c (Dτ.ext x6) (hh.same (y.trans (x6.same B) fun _ h _ => h) h0) h0 (placeH t.h + k)).mono ?_⟩
    rintro e g7 ⟨y7, D7, rfl⟩
    obtain ⟨f, hf⟩ : ∃ f, f = (getF τ (placeH t.h + k)).1 := ⟨_, rfl⟩
    obtain ⟨fc, hfc⟩ : ∃ fc, fc = (getF τ (placeH t.h + k)).2 := ⟨_, rfl⟩
    rw [← hf, ← hfc]
    refine ⟨_, _, _, _, _, rfl, ?_⟩
    intro b3 g8 hb3 e8
    have x8 : Ext g7 g8 := by rw [e8]; exact Ext.push _ _
    have c8 : g8[b3]? = some (.cells (frmV Frm.no).toArray 74) := by rw [e8, hb3, zerosFrame]; exact push_last
    clear e8
    obtain ⟨q1, q2, q3, q4⟩ := frm_set c8 f
    refine ⟨infoFrame, rfl, q2, q3, ?_⟩
    intro g9 e9
    have x9 : Ext g7 g9 := by rw [e9]; exact x8.over (setsH_same (B := fun x => x = b3) rfl) fun x hx => by omega
    have cf : g9[b3]? = some (.cells (frmV f).toArray 74) := by rw [e9]; exact q4
    clear e9 q1 q2 q3 q4 c8 x8
    have K : ∀ {x : Nat} {vs : Array Value} {ty : TypeId}, h.size ≤ x → hr[x]? = some (.cells vs ty) → g9[x]? = some (.cells vs ty) := fun {x _ _} hx c => by
      have l0 := (Array.getElem?_eq_some_iff.1 c).1
      have l6 := x6.size
      have l7 := y7.size
      exact (x9.old x (by omega)).trans ((y7.old x (by omega) (nB hx)).trans ((x6.old x l0).trans c))
    have cb9 := K hbh cb
    have ct9 := K hb2h ct
    have y9 : Same B h g9 := ((y.trans (x6.same B) fun _ h _ => h).trans y7 fun _ h _ => h).trans (x9.same B) fun _ h _ => h
    have D9 := D7.ext x9
    have o9 : Own g9 h.size 5 1 (.slice p acc.length c) acc.length (byteVs acc) := by
      refine o.keep fun x hx => ?_
      have lx := o.lt hx
      have l6 := x6.size
      have l7 := y7.size
      exact (x9.old x (by omega)).trans ((y7.old x (by omega) (nB lx.1)).trans (x6.old x lx.2))
    have hg' : gath t (t.size + 1) 0 σ0 [] = if fc = 40 then ((τ.read (placeH t.h + k)).1, [], 40) else if fc ≠ 0 ∨ ¬ f.isPiece t.h.gen k (t.size - acc.length) then ((τ.read (placeH t.h + k)).1, [], 180) else gath t (t.size - k) (k + 1) (τ.read (placeH t.h + k)).1 (acc ++ bl f.body) := by
      rw [hg, show t.size + 1 - k = (t.size - k) + 1 by omega]
      show (if acc.length < t.size then _ else _) = _
      rw [if_pos hlt', ← hfc, ← hf]
    refine ⟨fun h40 => ?_, fun h40 => ?_⟩
    · have h40 : fc = 40 := of_decide_eq_true h40
      rw [if_pos h40] at hg'
      refine ⟨rfl, one Hd.no, wr cb9, fun gr er => ?_⟩
      rw [h40]
      exact fin Hd.no ⟨#[]⟩ 40 _ g9 gr y9 D9 cb9 (by rw [ef]; unfold findT; rw [hg', if_pos (by show (40 : Int) ≠ 0; decide)]) er
    have h40 : ¬ fc = 40 := of_decide_eq_false h40
    rw [if_neg h40] at hg'
    refine ⟨decide (fc ≠ 0 ∨ ¬ f.isPiece t.h.gen k (t.size - acc.length)), ⟨fun k0 => ⟨rfl, ?_⟩, fun k0 => ⟨_, cellsAt_one (cellH_at cf), fun k1 => ⟨rfl, ?_⟩, fun k1 => ⟨_, cellsAt_one (cellH_at cf), _, cellsAt_one (cellH_at ct9), fun k2 => ⟨rfl, ?_⟩, fun k2 => ⟨_, cellsAt_one (cellH_at cf), fun k3 => ⟨rfl, ?_⟩, fun k3 => ⟨_, cellsAt_one (cellH_at cf), _, cellsAt_one (cellH_at ct9), ((t.size - acc.length : Nat) : Int), by rw [wrapI64] <;> omega, rfl, ?_⟩⟩⟩⟩⟩, fun hB => ?_, fun hB => ?_⟩
    · exact decide_eq_true (p := fc ≠ 0 ∨ ¬ f.isPiece t.h.gen k (t.size - acc.length)) (.inl (of_decide_eq_true k0))
    · have k1 : f.kind ≠ 2 := of_decide_eq_true k1
      exact decide_eq_true (p := fc ≠ 0 ∨ ¬ f.isPiece t.h.gen k (t.size - acc.length)) (.inr fun hh => k1 hh.1)
    · have k2 : (f.number : Int) ≠ (t.h.gen : Int) := of_decide_eq_true k2
      exact decide_eq_true (p := fc ≠ 0 ∨ ¬ f.isPiece t.h.gen k (t.size - acc.length)) (.inr fun hh => k2 (by rw [hh.2.1]))
    · have k3 : f.index ≠ (k : Int) := of_decide_eq_true k3
      exact decide_eq_true (p := fc ≠ 0 ∨ ¬ f.isPiece t.h.gen k (t.size - acc.length)) (.inr fun hh => k3 hh.2.2.1)
    · have k0 : ¬ fc ≠ 0 := of_decide_eq_false k0
      have k1 : ¬ f.kind ≠ 2 := of_decide_eq_false k1
      have k2 : ¬ (f.number : Int) ≠ (t.h.gen : Int) := of_decide_eq_false k2
      have k3 : ¬ f.index ≠ (k : Int) := of_decide_eq_false k3
      apply decide_eq_decide.2
      constructor
      · rintro (hh | hh)
        · exact (k0 hh).elim
        · intro h20
          exact hh ⟨by omega, by omega, by omega, by omega⟩
      · intro hh
        exact .inr fun h3 => hh (by have := h3.2.2.2; omega)
    · have hB := of_decide_eq_true hB
      rw [if_pos hB] at hg'
      refine ⟨rfl, one Hd.no, wr cb9, fun gr er => ?_⟩
      exact fin Hd.no ⟨#[]⟩ 180 _ g9 gr y9 D9 cb9 (by rw [ef]; unfold findT; rw [hg', if_pos (by show (180 : Int) ≠ 0; decide)]) er
    · have hB := of_decide_eq_false hB
      rw [if_neg hB] at hg'
      have hpc : f.isPiece t.h.gen k (t.size - acc.length) := Decidable.of_not_not fun hh => hB (.inr hh)
      have hbs := hpc.2.2.2
      have hbl : (bl f.body).length = f.body.size := bl_length _
      refine ⟨_, cellsAt_one (cellH_at cf), semH_appendStr rowB uStr zeroB o9 (s := f.body) (by simp only [maxLen]; omega) (by omega) y9.size fun p4 c4 g10 o10 gr10 _ _ => ?_⟩
      have K10 : KcE 5 g9 g10 := KcE.grown o9 gr10
      have elen : (acc ++ bl f.body).length = acc.length + f.body.size := by rw [List.length_append, hbl]
      refine ⟨_, incI (by omega), ⟨k + 1, p4, c4, _, acc ++ bl f.body, by rw [elen], by rw [elen, hbs]; omega, fun _ => by simp only [Nat.add_sub_cancel]; omega, y9.grown gr10 fun x hx => (o9.lt hx).1, D9.grown gr10 fun x hx => nB (o9.lt hx).1, K10 _ _ _ cb9 (by decide), K10 _ _ _ ct9 (by decide), ?_, ?_⟩, by simp only; omega⟩
      · rw [elen]
        have : byteVs (acc ++ bl f.body) = byteVs acc ++ byteVs f.body.data.toList := by simp [byteVs, bl]
        rw [this]
        exact o10
      · rw [hg', show t.size + 1 - (k + 1) = t.size - k by omega]
  · have hge : ¬ acc.length < t.size := by have := of_decide_eq_false hlt'; omega
    have hg' : gath t (t.size + 1) 0 σ0 [] = (τ, acc, 0) := by
      rw [hg, show t.size + 1 - k = (t.size - k) + 1 by omega]
      show (if acc.length < t.size then _ else _) = _
      rw [if_neg hge]
    have hsz : (tx acc).size = acc.length := tx_size _
    refine semH_toText uBs uB uStr (t := tx acc) (by rw [show (tx acc).data.toList = acc from bl_tx _]; exact o.seg) ⟨_, rfl, ?_⟩
    refine ⟨fun h' => h'[b2]? = some (.cells (tkV t).toArray 81), ct, semH_build rowS (vs := [.string (tx acc)]) rfl rfl (by simp) (by simp) (by simp [Value.oneCell']) ⟨_, _, _, rfl, ?_⟩⟩
    have x6 : Ext hr (hr.push (.cells [Value.string (tx acc)].toArray 9)) := Ext.push _ _
    have s6 : Seg (hr.push (.cells [Value.string (tx acc)].toArray 9)) (some ⟨hr.size, 0, none⟩) 1 ([tx acc].map Value.string) := ⟨rfl, .inr ⟨_, _, rfl, cellsAt_all push_last⟩⟩
    generalize (hr.push (.cells [Value.string (tx acc)].toArray 9)) = g6 at x6 s6
    have ct6 := (x6.old b2 (Array.getElem?_eq_some_iff.1 ct).1).trans ct
    have cb6 := (x6.old b (Array.getElem?_eq_some_iff.1 cb).1).trans cb
    have y6 : Same B h g6 := y.trans (x6.same B) fun _ h _ => h
    refine ⟨ct6, (sum_c [tx acc] (by intro y hy; simp at hy; subst hy; simp only [maxLen]; omega) g6 (hh.same y6 h0) s6 (by decide)).mono ?_⟩
    rintro e g7 ⟨rfl, rfl⟩
    refine ⟨_, rfl, ct6, (t.sum : Int), fun h' c => cellsAt_one (cellH_at c), fun hne => ?_, fun he => ?_⟩
    · have hne : (sumB [tx acc]).toNat ≠ t.sum := by have := of_decide_eq_true hne; omega
      refine ⟨rfl, one Hd.no, wr cb6, fun gr er => ?_⟩
      refine fin Hd.no ⟨#[]⟩ 180 τ _ gr y6 (Dτ.ext x6) cb6 ?_ er
      rw [ef]; unfold findT
      rw [hg', if_neg (by simp), if_pos hne]
    · have he : ¬ (sumB [tx acc]).toNat ≠ t.sum := by have := of_decide_eq_false he; omega
      refine ⟨_, _, _, _, _, tk_hd ct6, rfl, one t.h, wr cb6, fun gr er => ?_⟩
      refine fin t.h (tx acc) 0 τ _ gr y6 (Dτ.ext x6) cb6 ?_ er
      rw [ef]; unfold findT
      rw [hg', if_neg (by simp), if_neg he]

theorem find_nil (h : Hp) : CallsH Tryd.prog 16 #[.pointer none] h fun e h' => Ext h h' ∧ e = .returned (.tuple #[.agg (hdV Hd.no).toArray, .string ⟨#[]⟩, vZ 1]) := by
  refine V16 _ h _ ?_
  intro b g1 hb e1
  have x1 : Ext h g1 := by rw [e1]; exact Ext.push _ _
  have cb1 : g1[b]? = some (.cells (hdV Hd.no).toArray 26) := by rw [e1, hb, zerosHead]; exact push_last
  clear e1
  refine ⟨infoHead, (newest_nil g1).mono ?_⟩
  rintro e g2 ⟨rfl, rfl⟩
  obtain ⟨q1, q2, q3, q4⟩ := hd_set cb1 Hd.no
  refine ⟨_, _, _, _, rfl, fun _ => ⟨rfl, q2, q3, fun gr er => ?_⟩, fun hf => (by simp at hf)⟩
  have er : gr = setsH g2 b 0 (hdV Hd.no) := er
  refine ⟨_, _, _, _, _, cellsAt_all (vs := hdV Hd.no) (by rw [er]; exact q4), ?_, rfl⟩
  rw [er]
  exact x1.over (setsH_same (B := fun x => x = b) rfl) fun x hx => by omega

end

end Go.Vc
