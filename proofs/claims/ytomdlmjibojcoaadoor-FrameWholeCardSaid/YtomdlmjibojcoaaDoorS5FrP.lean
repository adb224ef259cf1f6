/- FrameKeeps: the walk. -/
import Derived.Test.YtomdlmjibojcoaaDoorS5FrN
set_option maxRecDepth 10000
namespace Go.Vc
open Go Go.Proofs Go.MapKept

theorem layAll_length : ∀ (l : List (Nat × ByteArray)) (safe : List ByteArray), (layAll safe l).length = safe.length := by
  intro l
  refine snoc_ind (p := fun l => ∀ safe : List ByteArray, (layAll safe l).length = safe.length) (fun _ => rfl) (fun l a ih safe => ?_) l
  unfold layAll at ih ⊢
  rw [List.foldl_append]
  show (layD _ a 512).length = _
  rw [layD_length, ih]

theorem layAll_get : ∀ (l : List (Nat × ByteArray)) (safe : List ByteArray), (∀ s ∈ safe, s.size = 512) → (∀ x ∈ l, x.1 < safe.length ∧ x.2.size = 512) → ∀ j, j < safe.length → (layAll safe l).getD j ByteArray.empty = (lastOf l j).getD (safe.getD j ByteArray.empty) := by
  intro l
  refine snoc_ind (p := fun l => ∀ safe : List ByteArray, (∀ s ∈ safe, s.size = 512) → (∀ x ∈ l, x.1 < safe.length ∧ x.2.size = 512) → ∀ j, j < safe.length → (layAll safe l).getD j ByteArray.empty = (lastOf l j).getD (safe.getD j ByteArray.empty)) (fun _ _ _ _ _ => rfl) (fun l a ih safe h1 h2 j hj => ?_) l
  have ih' := ih safe h1 (fun x hx => h2 x (by simp [hx])) j hj
  have ha := h2 a (by simp)
  have e : layAll safe (l ++ [a]) = layD (layAll safe l) a 512 := by unfold layAll; rw [List.foldl_append]; rfl
  have hl := layAll_length l safe
  have hsz := (layAll_ok l safe h1 (fun x hx => (h2 x (by simp [hx])).2)).1
  obtain ⟨n, s⟩ := a
  have hn : n < (layAll safe l).length := by rw [hl]; exact ha.1
  rw [e, layD_set hn, layT_all ha.2 (hsz _ (List.getElem_mem hn)), lastOf_snoc]
  by_cases hjn : n = j
  · subst hjn
    rw [if_pos rfl, List.getD_eq_getElem?_getD, List.getElem?_set_self hn]; rfl
  · rw [if_neg hjn, ← ih', List.getD_eq_getElem?_getD, List.getElem?_set_ne hjn, ← List.getD_eq_getElem?_getD]

/-- Frames lie in these sectors. -/
def LieIn (S : List ByteArray) (raws : List Frm) (K : Nat) : Prop := ∀ j (hj : j < raws.length), j < K → ∃ m, S.getD j ByteArray.empty = tx (sealL (rightF raws[j]) m)

theorem Fresh.put {h a : Hp} {d : Nat} {σ : DS} (F : Fresh h a d σ) (hh : Halves h) {n : Nat} {f : Frm} (hg : σ.gone = false) (hp : σ.plan = 0) (hn : n < σ.safe.length) (r : f.Right) (hl : σ.pend.length ≤ 8796093022208) :
    CallsH Tryd.prog 18 #[vP d, vI n, .agg (frmV f).toArray] a fun e c => Fresh h c d { σ with reads := inc64 σ.reads, pend := σ.pend ++ [(n, tx (sealL f (markB (σ.look n))))], writes := inc64 σ.writes } ∧ e = .returned (vZ 0) := by
  have h0 := hh.pos
  refine (put_c F.2 (hh.ext F.1) (by rintro ⟨h1, _⟩; omega) (n : Int) f r.ok hl).mono ?_
  rintro e c ⟨y, D, rfl⟩
  rw [put_ok hg hp hn r] at D ⊢
  exact ⟨F.step rfl y D, rfl⟩

theorem Fresh.get {h a : Hp} {d : Nat} {σ : DS} (F : Fresh h a d σ) (hh : Halves h) (n : Int) :
    CallsH Tryd.prog 19 #[vP d, vZ n] a fun e c => Fresh h c d (σ.read n).1 ∧ e = .returned (.tuple #[.agg (frmV (getF σ n).1).toArray, vZ (getF σ n).2]) := by
  have h0 := hh.pos
  refine (get_c F.2 (hh.ext F.1) (by rintro ⟨h1, _⟩; omega) n).mono ?_
  rintro e c ⟨y, D, rfl⟩
  exact ⟨F.go rfl y D, rfl⟩

set_option maxHeartbeats 1000000 in
/-- turnoutlaw05.FrameKeeps -/
theorem keeps_law (raws overs : List Frm) (hro : ∀ f ∈ raws, f.Ok) (hoo : ∀ f ∈ overs, f.Ok) (hrl : raws.length ≤ 8796093022207) (h : Hp) (hh : Halves h) {p q : Option Addr} {k m c c' : Nat} (hs : SegS h p k 4 (raws.map frmV)) (hq : SegS h q m 4 (overs.map frmV)) :
    CallsH Tryd.prog 10 #[.slice p k c, .slice q m c'] h (RetX (.bool true) h) := by
  have hk : raws.length = k := by have := hs.1; simpa using this
  have hm : overs.length = m := by have := hq.1; simpa using this
  refine V10 _ _ _ _ _ _ h _ ((awake_c h hh).mono ?_)
  rintro e h1 ⟨x1, rfl⟩
  have hh1 := hh.ext x1
  refine ⟨_, rfl, ((1 + k : Nat) : Int), by rw [wrapI64] <;> omega, fun l hr => ∃ n : Nat, l = [vI n] ∧ hr = h1 ∧ 1 ≤ n ∧ n ≤ 40, ⟨fun hc => ⟨40, rfl, rfl, by decide, by decide⟩, fun hc => ⟨1 + k, rfl, rfl, by omega, by simp at hc; omega⟩⟩, ?_⟩
  rintro nv h1' ⟨n, hl, rfl, hn1, hn2⟩
  cases hl
  refine (new_c (n : Int)).mono ?_
  rintro e h2 (⟨hbad, rfl, rfl⟩ | ⟨_, _, d, F2, rfl⟩)
  · omega
  refine ⟨_, _, rfl, fun l hr => l = [] ∧ hr = h2, ⟨false, ⟨fun hf => (by cases hf), fun _ => ⟨fun hf => (by simp at hf), fun _ => ⟨false, eqv_ptr uPD _, rfl, rfl⟩⟩⟩, fun hB => (by cases hB), fun _ => ⟨rfl, rfl⟩⟩, ?_⟩
  rintro h2' ⟨_, rfl⟩
  rw [Int.toNat_natCast] at F2
  have rawAt : ∀ {hr : Hp} {σ : DS}, Fresh h1' hr d σ → ∀ {i : Nat}, i < k → ∃ b o, p = some ⟨b, o, none⟩ ∧ 0 ≤ (i : Int) ∧ (i : Int) < k ∧ ∃ f ∈ raws, raws[i]? = some f ∧ cellsAt hr b (o + Int.toNat (i : Int) * 4) (frmV f) := by
    intro hr σ F i hi
    obtain ⟨b, o, e1, e2, e3, e4⟩ := (hs.ext (x1.trans F.1)).at (i := i) (by simp; omega)
    refine ⟨b, o, e1, e2, e3, raws[i]'(by omega), List.getElem_mem _, List.getElem?_eq_getElem (by omega), by simpa using e4⟩
  -- the first frames
  refine ⟨fun l hr => l = [] ∧ ∃ σ, Fresh h1' hr d σ ∧ σ.gone = false ∧ σ.plan = 0 ∧ σ.safe.length = n ∧ σ.pend.length ≤ 40 ∧ (∀ s ∈ σ.safe, s.size = 512) ∧ (∀ j (hj : j < raws.length), j < n → ∃ mk, lastOf σ.pend j = some (tx (sealL (rightF raws[j]) mk))),
    ⟨fun l hr => ∃ (i : Nat) (σ : DS), i ≤ n ∧ i ≤ k ∧ l = [vI i] ∧ Fresh h1' hr d σ ∧ σ.gone = false ∧ σ.plan = 0 ∧ σ.safe.length = n ∧ σ.pend.length ≤ i ∧ (∀ j (hj : j < raws.length), j < i → ∃ mk, lastOf σ.pend j = some (tx (sealL (rightF raws[j]) mk))), fun l _ => (k - numAt l 0).toNat,
      ⟨0, _, Nat.zero_le _, Nat.zero_le _, rfl, F2, rfl, rfl, by simp [DS.new, DS.fresh], Nat.le_refl _, fun j _ hj => by omega⟩, ?_⟩, ?_⟩
  · rintro x hr ⟨i, σ, hin, hik, hl, F, hg, hp, hsl, hpl, hlie⟩
    cases hl
    refine ⟨fun l hr' => l = [] ∧ hr' = hr ∧ i < n ∧ i < k, ⟨decide (i < n ∧ i < k), ⟨fun hc => ⟨rfl, ?_⟩, fun hc => ⟨rfl, ?_⟩⟩, fun hB => ⟨rfl, rfl, of_decide_eq_true hB⟩, fun hB => ⟨rfl, σ, F, hg, hp, hsl, by omega, F.2.ok.size, fun j hj hjn => hlie j hj ?_⟩⟩, ?_⟩
    · have hc : i < n := by simp at hc; omega
      simp only [hc, true_and]
      apply decide_eq_decide.2; omega
    · have hc : ¬ i < n := by simp at hc; omega
      simp [hc]
    · have := of_decide_eq_false hB; omega
    rintro hr' ⟨_, rfl, hi1, hi2⟩
    obtain ⟨b, o, e1, e2, e3, f, hf, hfi, hfc⟩ := rawAt F hi2
    refine ⟨b, o, e1, e2, e3, f.kind, f.number, f.index, f.body, hfc, (right_c f (hro f hf) hr').mono ?_⟩
    rintro e h4 ⟨x4, rfl⟩
    have R := rightF_right (hro f hf).n (f := f)
    refine ⟨_, _, _, _, rfl, ((F.ext x4).put hh1 (n := i) hg hp (by omega) R (by omega)).mono ?_⟩
    rintro e h5 ⟨F5, rfl⟩
    refine ⟨_, rfl, fun hf => (by simp at hf), fun _ => ⟨_, incI (by omega), ⟨i + 1, _, hi1, hi2, rfl, F5, hg, hp, hsl, by simp; omega, fun j hj hji => ?_⟩, by simp only [numAt]; omega⟩⟩
    show ∃ mk, lastOf (σ.pend ++ [(i, tx (sealL (rightF f) (markB (σ.look i))))]) j = _
    rw [lastOf_snoc]
    by_cases hij : i = j
    · subst hij
      have : raws[i] = f := by rw [List.getElem?_eq_getElem hj] at hfi; exact Option.some.inj hfi
      rw [if_pos rfl, this]
      exact ⟨_, rfl⟩
    · rw [if_neg hij]
      exact hlie j hj (by omega)
  rintro h3 ⟨_, σ, F3, hg, hp, hsl, hpl, h512, hlie⟩
  refine (flush_c F3.2).mono ?_
  rintro e h4 ⟨y4, _, D4, rfl⟩
  have hpok := F3.2.ok.pend
  rw [flush_ok hg hp] at D4 ⊢
  have F4 := F3.go rfl y4 D4
  obtain ⟨S, hS⟩ : ∃ S, S = layAll σ.safe σ.pend := ⟨_, rfl⟩
  rw [← hS] at F4
  have hSl : S.length = n := by rw [hS, layAll_length]; exact hsl
  have hSlie : LieIn S raws n := by
    intro j hj hjn
    obtain ⟨mk, e⟩ := hlie j hj hjn
    refine ⟨mk, ?_⟩
    rw [hS, layAll_get _ _ h512 (fun x hx => hpok x hx) j (by omega), e]
    rfl
  clear hlie hpok h512 hpl hS D4 y4
  have hov : ∀ {hr : Hp} {τ : DS}, Fresh h1' hr d τ → ∀ {i : Nat}, i < m → ∃ b o, q = some ⟨b, o, none⟩ ∧ 0 ≤ (i : Int) ∧ (i : Int) < m ∧ ∃ f ∈ overs, cellsAt hr b (o + Int.toNat (i : Int) * 4) (frmV f) := by
    intro hr τ F i hi
    obtain ⟨b, o, e1, e2, e3, e4⟩ := (hq.ext (x1.trans F.1)).at (i := i) (by simp; omega)
    exact ⟨b, o, e1, e2, e3, overs[i]'(by omega), List.getElem_mem _, by simpa using e4⟩
  refine ⟨_, rfl, fun l hr => l = [] ∧ ∃ τ, Fresh h1' hr d τ ∧ τ.safe = S ∧ τ.gone = false,
    ⟨fun l hr => ∃ (i : Nat) (τ : DS), i ≤ 255 ∧ l = [vI i] ∧ Fresh h1' hr d τ ∧ τ.gone = false ∧ τ.plan = 0 ∧ τ.safe = S ∧ τ.pend.length ≤ i, fun l _ => (255 - numAt l 0).toNat, ⟨0, _, by decide, rfl, F4, hg, hp, rfl, Nat.le_refl _⟩, ?_⟩, ?_⟩
  · rintro x hr ⟨i, τ, hi, hl, F, hg, hp, hsf, hpl⟩
    cases hl
    refine ⟨fun l hr' => l = [] ∧ hr' = hr ∧ i < m ∧ i < 255, ⟨decide (i < m ∧ i < 255), ⟨fun hc => ⟨rfl, ?_⟩, fun hc => ⟨rfl, ?_⟩⟩, fun hB => ⟨rfl, rfl, of_decide_eq_true hB⟩, fun hB => ⟨rfl, τ, F, hsf, hg⟩⟩, ?_⟩
    · have hc : i < m := by simp at hc; omega
      simp only [hc, true_and]
      apply decide_eq_decide.2; omega
    · have hc : ¬ i < m := by simp at hc; omega
      simp [hc]
    rintro hr' ⟨_, rfl, hi1, hi2⟩
    obtain ⟨b, o, e1, e2, e3, f, hf, hfc⟩ := hov F hi1
    have hmod : i % n < n := Nat.mod_lt _ (by omega)
    refine ⟨by omega, ((i % n : Nat) : Int), tmod_nat i n, b, o, e1, e2, e3, f.kind, f.number, f.index, f.body, hfc, (right_c f (hoo f hf) hr').mono ?_⟩
    rintro e h4 ⟨x4, rfl⟩
    have R := rightF_right (hoo f hf).n (f := f)
    refine ⟨_, _, _, _, rfl, ((F.ext x4).put hh1 (n := i % n) hg hp (by rw [hsf, hSl]; exact hmod) R (by omega)).mono ?_⟩
    rintro e h5 ⟨F5, rfl⟩
    exact ⟨_, rfl, fun hf => (by simp at hf), fun _ => ⟨_, incI (by omega), ⟨i + 1, _, hi2, rfl, F5, hg, hp, hsf, by simp; omega⟩, by simp only [numAt]; omega⟩⟩
  rintro h5 ⟨_, τ, F5, hsf, hg5⟩
  refine (crash_c F5.2 [] (SegS.nil _ _) (fun b o hp => by cases hp)).mono ?_
  rintro e h6 ⟨y6, D6, rfl⟩
  have F6 := F5.go rfl y6 D6
  have hcs : (τ.crash []).safe = S := by
    show layFates τ.safe τ.pend [] = S
    unfold layFates
    rw [List.zip_nil_right]
    exact hsf
  refine ⟨rfl, fun l hr => l = [] ∧ ∃ τ, Fresh h1' hr d τ ∧ τ.safe = S ∧ τ.gone = false,
    ⟨fun l hr => ∃ (i : Nat) (τ : DS), i ≤ n ∧ i ≤ k ∧ l = [vI i] ∧ Fresh h1' hr d τ ∧ τ.gone = false ∧ τ.safe = S ∧ τ.pend = [], fun l _ => (k - numAt l 0).toNat, ⟨0, _, Nat.zero_le _, Nat.zero_le _, rfl, F6, rfl, hcs, rfl⟩, ?_⟩, ?_⟩
  · rintro x hr ⟨i, τ, hin, hik, hl, F, hg, hsf, hpd⟩
    cases hl
    refine ⟨fun l hr' => l = [] ∧ hr' = hr ∧ i < n ∧ i < k, ⟨decide (i < n ∧ i < k), ⟨fun hc => ⟨rfl, ?_⟩, fun hc => ⟨rfl, ?_⟩⟩, fun hB => ⟨rfl, rfl, of_decide_eq_true hB⟩, fun hB => ⟨rfl, τ, F, hsf, hg⟩⟩, ?_⟩
    · have hc : i < n := by simp at hc; omega
      simp only [hc, true_and]
      apply decide_eq_decide.2; omega
    · have hc : ¬ i < n := by simp at hc; omega
      simp [hc]
    rintro hr' ⟨_, rfl, hi1, hi2⟩
    refine (F.get hh1 (i : Int)).mono ?_
    rintro e h7 ⟨F7, rfl⟩
    have hil : i < τ.safe.length := by rw [hsf, hSl]; exact hi1
    rw [read_ok hg hil] at F7
    obtain ⟨b, o, e1, e2, e3, f, hf, hfi, hfc⟩ := rawAt F7 hi2
    have R := rightF_right (hro f hf).n (f := f)
    have hget : getF τ (i : Int) = (rightF f, 0) := by
      obtain ⟨mk, e⟩ := hSlie i (by omega) hi1
      have hr0 : raws[i]'(by omega) = f := by rw [List.getElem?_eq_getElem (by omega)] at hfi; exact Option.some.inj hfi
      have hlook : τ.look i = tx (sealL (rightF f) mk) := by
        unfold DS.look
        rw [hpd, hsf]
        show S.getD i ByteArray.empty = _
        rw [e, hr0]
      rw [get_ok hg hil, hlook, open_seal R]
    rw [hget]
    refine ⟨_, _, _, _, _, rfl, frm_new (rightF f) fun b2 h8 hb2 x8 c8 => ?_⟩
    have F8 := F7.ext x8
    obtain ⟨b', o', e1', e2', e3', f', hf', hfi', hfc'⟩ := rawAt F8 hi2
    have hff : f' = f := by rw [hfi] at hfi'; exact (Option.some.inj hfi').symm
    subst hff
    refine ⟨fun hz => hz[b2]? = some (.cells (frmV (rightF f')).toArray 24), c8, fun hf => (by simp at hf), fun _ => ⟨_, _, _, _, fun hz hc => cellsAt_all (vs := frmV (rightF f')) hc, b', o', e1', e2', e3', f'.kind, f'.number, f'.index, f'.body, hfc', (right_c f' (hro f' hf) h8).mono ?_⟩⟩
    rintro e h9 ⟨x9, rfl⟩
    exact ⟨_, _, _, _, rfl, x9.frm c8, _, eqv_frm (rightF f') (rightF f'), fun hf => (by simp at hf), fun _ => ⟨_, incI (by omega), ⟨i + 1, _, hi1, hi2, rfl, F8.ext x9, hg, hsf, hpd⟩, by simp only [numAt]; omega⟩⟩
  rintro h7 ⟨_, τ, F7, hsf, hg7⟩
  refine (F7.get hh1 (n : Int)).mono ?_
  rintro e h8 ⟨F8, rfl⟩
  have hrd : τ.read (n : Int) = (τ, ByteArray.empty, 41) := by
    have ha : τ.asked (n : Int) = 41 := by
      unfold DS.asked
      rw [if_neg (by simp [hg7]), if_pos (by rw [hsf, hSl]; omega)]
    unfold DS.read
    rw [if_neg (by rw [ha]; decide), ha]
  have hget : getF τ (n : Int) = (Frm.no, 41) := by
    unfold getF
    rw [hrd]; rfl
  rw [hget]
  refine ⟨_, _, _, _, _, rfl, frm_new Frm.no fun b2 h9 hb2 x9 c9 => ⟨true, ⟨fun _ => ⟨rfl, rfl⟩, fun hf => (by simp at hf)⟩, rfl, (x1.trans F8.1).trans x9⟩⟩

end Go.Vc
