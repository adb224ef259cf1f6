/- FrameWhole: the walk. -/
import Derived.Test.YtomdlmjibojcoaaDoorS5FrV
set_option maxRecDepth 10000
namespace Go.Vc
open Go Go.Proofs Go.MapKept

/-- A disk at work, beside other things. -/
structure Wk (B : Nat → Prop) (h : Hp) (C : Nat → Prop) (hr : Hp) (d : Nat) (σ : DS) : Prop where
  same : Same B h hr
  disk : DiskAt dI hr C d σ
  sub : ∀ b, C b → B b ∨ h.size ≤ b

/-- What is not the disk's stays, and stays so. -/
def Kp (C : Nat → Prop) (hr : Hp) (C' : Nat → Prop) (hs : Hp) : Prop := hr.size ≤ hs.size ∧ ∀ b, b < hr.size → ¬ C b → ¬ C' b ∧ hs[b]? = hr[b]?

section
variable {B C C' C'' : Nat → Prop} {h hr hs ht : Hp} {d : Nat} {σ σ' : DS}

theorem Kp.trans (x : Kp C hr C' hs) (y : Kp C' hs C'' ht) : Kp C hr C'' ht :=
  ⟨Nat.le_trans x.1 y.1, fun b hb hn => by
    obtain ⟨h1, h2⟩ := x.2 b hb hn
    obtain ⟨h3, h4⟩ := y.2 b (Nat.lt_of_lt_of_le hb x.1) h1
    exact ⟨h3, h4.trans h2⟩⟩
theorem Kp.ext (C : Nat → Prop) (x : Ext hr hs) : Kp C hr C hs := ⟨x.size, fun b hb hn => ⟨hn, x.old b hb⟩⟩
theorem Wk.ext (W : Wk B h C hr d σ) (x : Ext hr hs) : Wk B h C hs d σ :=
  ⟨W.same.trans (x.same NoB) (fun _ hx _ => hx.elim), W.disk.ext x, W.sub⟩
theorem Wk.over (W : Wk B h C hr d σ) (x : Same C hr hs) : Same B h hs :=
  W.same.trans x fun b hb hl => (W.sub b hb).resolve_right (by omega)
theorem Wk.step (W : Wk B h C hr d σ) (x : Same C hr hs) (D : DiskAt dI hs (GrowB C hr hs) d σ') : Wk B h (GrowB C hr hs) hs d σ' ∧ Kp C hr (GrowB C hr hs) hs := by
  refine ⟨⟨W.over x, D, ?_⟩, x.size, fun b hb hn => ⟨?_, x.old b hb hn⟩⟩
  · rintro b (hb | hb)
    · exact W.sub b hb
    · have := W.same.size; exact .inr (by omega)
  · rintro (hc | hc)
    · exact hn hc
    · omega
theorem Wk.go (W : Wk B h C hr d σ) (x : Same C hr hs) (D : DiskAt dI hs C d σ') : Wk B h C hs d σ' ∧ Kp C hr C hs :=
  ⟨⟨W.over x, D, W.sub⟩, x.size, fun b hb hn => ⟨hn, x.old b hb hn⟩⟩
theorem Wk.push (W : Wk B h C hr d σ) {row : Option Nat} (g : Grown hr hs row) (hrow : ∀ b, row = some b → h.size ≤ b ∧ ¬ C b) : Wk B h C hs d σ :=
  ⟨⟨Nat.le_trans W.same.size g.size, fun b hb hn => (g.block b (Nat.lt_of_lt_of_le hb W.same.size) fun e => by have := (hrow b e.symm).1; omega).trans (W.same.old b hb hn)⟩,
    W.disk.keep g.size fun b hb => g.block b (W.disk.lt b hb) fun e => (hrow b e.symm).2 hb, W.sub⟩

theorem Wk.halves (W : Wk B h C hr d σ) (hh : Halves h) (h0 : ¬ B 0) : Halves hr ∧ ¬ C 0 :=
  ⟨hh.same W.same h0, fun hc => (W.sub 0 hc).elim h0 fun hl => by have := hh.pos; omega⟩

theorem Wk.put (W : Wk B h C hr d σ) (hh : Halves h) (h0 : ¬ B 0) {n : Nat} {f : Frm} (hg : σ.gone = false) (hp : σ.plan = 0) (hn : n < σ.safe.length) (r : f.Right) (hl : σ.pend.length ≤ 8796093022208) :
    CallsH Tryd.prog 18 #[vP d, vI n, .agg (frmV f).toArray] hr fun e hs => ∃ C', Wk B h C' hs d { σ with reads := inc64 σ.reads, pend := σ.pend ++ [(n, tx (sealL f (markB (σ.look n))))], writes := inc64 σ.writes } ∧ Kp C hr C' hs ∧ e = .returned (vZ 0) := by
  obtain ⟨h1, h2⟩ := W.halves hh h0
  refine (put_c W.disk h1 h2 (n : Int) f r.ok hl).mono ?_
  rintro e hs ⟨y, D, rfl⟩
  rw [put_ok hg hp hn r] at D ⊢
  obtain ⟨a, b⟩ := W.step y D
  exact ⟨_, a, b, rfl⟩

theorem Wk.get (W : Wk B h C hr d σ) (hh : Halves h) (h0 : ¬ B 0) {n : Nat} (hg : σ.gone = false) (hn : n < σ.safe.length) :
    CallsH Tryd.prog 19 #[vP d, vI n] hr fun e hs => Wk B h C hs d { σ with reads := inc64 σ.reads } ∧ Kp C hr C hs ∧ e = .returned (.tuple #[.agg (frmV (openF (σ.look n)).1).toArray, vZ (openF (σ.look n)).2.2]) := by
  obtain ⟨h1, h2⟩ := W.halves hh h0
  refine (get_c W.disk h1 h2 (n : Int)).mono ?_
  rintro e hs ⟨y, D, rfl⟩
  rw [read_ok hg hn] at D
  rw [get_ok hg hn]
  obtain ⟨a, b⟩ := W.go y D
  exact ⟨a, b, rfl⟩

end

theorem rowFrm : RowT Tryd.prog 43 24 4 40 := RowT.of (by kernel_rfl)

theorem Kp.frm {C C' : Nat → Prop} {hr hs : Hp} (k : Kp C hr C' hs) {b : Nat} {f : Frm} (c : hr[b]? = some (.cells (frmV f).toArray 24)) (hC : ¬ C b) : hs[b]? = some (.cells (frmV f).toArray 24) ∧ ¬ C' b := by
  obtain ⟨h1, h2⟩ := k.2 b (Array.getElem?_eq_some_iff.1 c).1 hC
  exact ⟨h2.trans c, h1⟩

theorem Kp.own {C C' : Nat → Prop} {hr hs : Hp} (k : Kp C hr C' hs) {base : Nat} {e : TypeId} {z : Nat} {v : Value} {n : Nat} {xs : List Value} (o : Own hr base e z v n xs) (hC : ∀ b, v.ownBlock = some b → ¬ C b) :
    Own hs base e z v n xs ∧ ∀ b, v.ownBlock = some b → ¬ C' b :=
  ⟨o.keep fun b hb => (k.2 b (o.lt hb).2 (hC b hb)).2, fun b hb => (k.2 b (o.lt hb).2 (hC b hb)).1⟩

theorem Wk.seg {B C : Nat → Prop} {h hr : Hp} {d : Nat} {σ : DS} (W : Wk B h C hr d σ) {p : Option Addr} {n z : Nat} {rows : List (List Value)} (hz : 0 < z) (s : SegS h p n z rows) (hB : ∀ b o, p = some ⟨b, o, none⟩ → rows ≠ [] → ¬ B b) :
    SegS hr p n z rows ∧ ∀ b o, p = some ⟨b, o, none⟩ → rows ≠ [] → ¬ C b :=
  ⟨s.keep fun b o hp h0 => W.same.old b (s.block hz hp h0) (hB b o hp h0), fun b o hp h0 hc => (W.sub b hc).elim (hB b o hp h0) fun hl => by have := s.block hz hp h0; omega⟩

/-- The disk is awake and bare. -/
def Bare (σ : DS) : Prop := σ.gone = false ∧ σ.plan = 0 ∧ σ.safe.length = 2 ∧ σ.pend = []

theorem fs_at {raws : List Frm} {i : Nat} {f : Frm} (h : raws[i]? = some f) : (raws.map rightF).getD i Frm.no = rightF f := by
  rw [List.getD_eq_getElem?_getD, List.getElem?_map, h]; rfl

set_option maxHeartbeats 2000000 in
/-- turnoutlaw05.whole -/
theorem whole_c {B : Nat → Prop} {h : Hp} {d : Nat} {σ : DS} (D : DiskAt dI h B d σ) (hσ : Bare σ) (hh : Halves h) (h0 : ¬ B 0) (raws : List Frm) (hro : ∀ f ∈ raws, f.Ok) (fates : List (Int × Int))
    {p q : Option Addr} {k m c c' : Nat} (hs : SegS h p k 4 (raws.map frmV)) (hsB : ∀ b o, p = some ⟨b, o, none⟩ → raws.map frmV ≠ [] → ¬ B b)
    (hq : SegS h q m 2 (fates.map fateV)) (hqB : ∀ b o, q = some ⟨b, o, none⟩ → fates.map fateV ≠ [] → ¬ B b) :
    CallsH Tryd.prog 21 #[vP d, .slice p k c, .slice q m c'] h fun e h' => (∃ C σ', Wk B h C h' d σ' ∧ Bare σ') ∧ e = .returned (.bool true) := by
  obtain ⟨hg, hp, hsl, hpd⟩ := hσ
  have hk : raws.length = k := by have := hs.1; simpa using this
  have W0 : Wk B h B h d σ := ⟨Same.refl _ _, D, fun b hb => .inl hb⟩
  obtain ⟨x, hx⟩ : ∃ x, x = σ.safe.getD 1 ByteArray.empty := ⟨_, rfl⟩
  obtain ⟨fs, hfs⟩ : ∃ fs, fs = raws.map rightF := ⟨_, rfl⟩
  have hfl : fs.length = k := by rw [hfs, List.length_map, hk]
  have hAR : AllRight fs := by
    intro f hf
    rw [hfs] at hf
    obtain ⟨r, hr, rfl⟩ := List.mem_map.1 hf
    exact rightF_right (hro r hr).n
  have hlook0 : σ.look 1 = x := by
    unfold DS.look; rw [hpd, hx]; rfl
  refine V21 _ _ _ _ _ _ _ h _ ((W0.get hh h0 (n := 1) hg (by omega)).mono ?_)
  rintro e h1 ⟨W1, k1, rfl⟩
  rw [hlook0]
  refine ⟨_, _, _, _, _, rfl, frm_new (openF x).1 fun b1 h2 hb1 x2 c1 => ?_⟩
  have hC1 : ¬ B b1 := fun hb => by have := W1.disk.lt b1 hb; omega
  have hb1' : h.size ≤ b1 := by have := W1.same.size; omega
  have W2 := W1.ext x2
  have rawAt : ∀ {C : Nat → Prop} {hr : Hp} {τ : DS}, Wk B h C hr d τ → ∀ {i : Nat}, i < k → ∃ b o, p = some ⟨b, o, none⟩ ∧ 0 ≤ (i : Int) ∧ (i : Int) < k ∧ ∃ f ∈ raws, raws[i]? = some f ∧ cellsAt hr b (o + Int.toNat (i : Int) * 4) (frmV f) := by
    intro C hr τ W i hi
    obtain ⟨b, o, e1, e2, e3, e4⟩ := (W.seg (by decide) hs hsB).1.at (i := i) (by simp; omega)
    refine ⟨b, o, e1, e2, e3, raws[i]'(by omega), List.getElem_mem _, List.getElem?_eq_getElem (by omega), by simpa using e4⟩
  refine ⟨fun l hr => ∃ (i : Nat) (pp : Option Addr) (cc : Nat) (C : Nat → Prop) (τ : DS), l = [.slice pp i cc] ∧ i ≤ k ∧ i ≤ 255 ∧ Wk B h C hr d τ ∧ τ.gone = false ∧ τ.safe = σ.safe ∧ τ.pend = pendL x fs i ∧
      Own hr h.size 24 4 (.slice pp i cc) i ((fs.take i).map frmV).flatten ∧ (∀ b, (Value.slice pp i cc).ownBlock = some b → ¬ C b) ∧ hr[b1]? = some (.cells (frmV (openF x).1).toArray 24) ∧ ¬ C b1,
    ⟨fun l hr => ∃ (i : Nat) (pp : Option Addr) (cc : Nat) (C : Nat → Prop) (τ : DS), l = [.slice pp i cc, vI i] ∧ i ≤ k ∧ i ≤ 255 ∧ Wk B h C hr d τ ∧ τ.gone = false ∧ τ.plan = 0 ∧ τ.safe = σ.safe ∧ τ.pend = pendL x fs i ∧
      Own hr h.size 24 4 (.slice pp i cc) i ((fs.take i).map frmV).flatten ∧ (∀ b, (Value.slice pp i cc).ownBlock = some b → ¬ C b ∧ b ≠ b1) ∧ hr[b1]? = some (.cells (frmV (openF x).1).toArray 24) ∧ ¬ C b1,
      fun l _ => (k - numAt l 1).toNat, ⟨0, none, 0, B, _, rfl, Nat.zero_le _, Nat.zero_le _, W2, hg, hp, rfl, hpd, Own.nil _ _ _ _, by simp [Value.ownBlock], c1, hC1⟩, ?_⟩, ?_⟩
  · rintro pp n cc iv hr ⟨i, _, _, C, τ, hl, hik, hi255, W, tg, tp, tsf, tpd, o, hoC, f1, hf1⟩
    cases hl
    refine ⟨fun l hr' => l = [] ∧ hr' = hr ∧ n < k ∧ n < 255, ⟨decide (n < k ∧ n < 255), ⟨fun hc => ⟨rfl, ?_⟩, fun hc => ⟨rfl, ?_⟩⟩, fun hB => ⟨rfl, rfl, of_decide_eq_true hB⟩, fun hB => ⟨n, _, _, C, τ, rfl, hik, hi255, W, tg, tsf, tpd, o, fun b hb => (hoC b hb).1, f1, hf1⟩⟩, ?_⟩
    · have hc : n < k := by simp at hc; omega
      simp only [hc, true_and]
      apply decide_eq_decide.2; omega
    · have hc : ¬ n < k := by simp at hc; omega
      simp [hc]
    rintro hr' ⟨_, rfl, hi1, hi2⟩
    obtain ⟨b, ob, e1, e2, e3, f, hf, hfi, hfc⟩ := rawAt W hi1
    refine ⟨b, ob, e1, e2, e3, f.kind, f.number, f.index, f.body, hfc, (right_c f (hro f hf) hr').mono ?_⟩
    rintro e h4 ⟨x4, rfl⟩
    have R := rightF_right (hro f hf).n (f := f)
    have hfn : fs.getD n Frm.no = rightF f := by rw [hfs]; exact fs_at hfi
    refine ⟨_, _, _, _, rfl, frm_new (rightF f) fun b2 h5 hb2 x5 c5 => ⟨_, _, _, _, cellsAt_all (vs := frmV (rightF f)) c5, ?_⟩⟩
    have x45 := x4.trans x5
    have W5 := W.ext x45
    have hC2 : ¬ C b2 := fun hb => by have := (W.ext x4).disk.lt b2 hb; omega
    refine ((W5.put hh h0 (n := 1) tg tp (by rw [tsf]; omega) R (by rw [tpd, pendL_length]; omega)).mono ?_)
    rintro e h6 ⟨C6, W6, k6, rfl⟩
    have hnext : tx (sealL (rightF f) (markB (τ.look 1))) = slF x fs n := by
      have hlk : (bl (τ.look 1)).getD 511 0 = mkN x n := by
        rw [look_pend (fs := fs) (i := n) (by rw [tpd, tsf, hx]), tsf, ← hx]
        by_cases hn0 : n = 0
        · subst hn0; rw [if_pos rfl, mkN_zero]
        · rw [if_neg hn0, (slF_marks hAR (by omega)).2, Nat.sub_add_cancel (by omega)]
      unfold slF
      rw [hfn, markB_next hlk]
    refine ⟨_, rfl, ((W6.get hh h0 (n := 1) tg (by simp only; rw [tsf]; omega)).mono ?_)⟩
    rintro e h7 ⟨W7, k7, rfl⟩
    have hlk2 : ∀ ρ : DS, ρ.pend = τ.pend ++ [(1, tx (sealL (rightF f) (markB (τ.look 1))))] → ρ.look 1 = tx (sealL (rightF f) (markB (τ.look 1))) := by
      intro ρ hρ
      unfold DS.look; rw [hρ, lastOf_snoc, if_pos rfl]; rfl
    rw [hlk2 _ rfl, open_seal R]
    refine ⟨_, _, _, _, _, rfl, frm_new (rightF f) fun b3 h8 hb3 x8 c8 => ?_⟩
    have c5' : h8[b2]? = some (.cells (frmV (rightF f)).toArray 24) := x8.frm ((k6.trans k7).frm c5 hC2).1
    have kAll : Kp C hr' C6 h8 := ((Kp.ext C x45).trans (k6.trans k7)).trans (Kp.ext C6 x8)
    obtain ⟨o8, ho8⟩ := kAll.own o fun b hb => (hoC b hb).1
    obtain ⟨g1, hg1⟩ := kAll.frm f1 hf1
    have W8 := W7.ext x8
    refine ⟨false, ⟨fun hf => (by simp at hf), fun _ => ⟨fun hf => (by simp at hf), fun _ => ⟨_, _, _, _, cellsAt_all (vs := frmV (rightF f)) c8, _, _, _, _, cellsAt_all (vs := frmV (rightF f)) c5', _, eqv_frm (rightF f) (rightF f), rfl, by simp⟩⟩⟩, fun hf => (by cases hf), fun _ => ⟨_, _, _, _, cellsAt_all (vs := frmV (rightF f)) c5', ?_⟩⟩
    refine semH_pushS rowFrm (by decide) o8 (r := frmV (rightF f)) rfl rfl (by decide) (by simp [frmV, Value.oneCell']) (by omega) (by simp only [maxLen]; omega) W8.same.size fun p9 c9 h9 o9 g9 _ b9 => ?_
    have hrow : ∀ b, (Value.slice pp n cc).ownBlock = some b → h.size ≤ b ∧ ¬ C6 b := fun b hb => ⟨(o8.lt hb).1, ho8 b hb⟩
    refine ⟨_, incI (by omega), ⟨n + 1, p9, c9, C6, _, rfl, hi1, hi2, W8.push g9 hrow, tg, tp, tsf, ?_, ?_, ?_, ?_, hg1⟩, by simp only [numAt]; omega⟩
    · show τ.pend ++ [(1, tx (sealL (rightF f) (markB (τ.look 1))))] = _
      rw [hnext, tpd, pendL_succ]
    · have : ((fs.take (n + 1)).map frmV).flatten = ((fs.take n).map frmV).flatten ++ frmV (rightF f) := by
        have hn : n < fs.length := by omega
        rw [List.take_succ_eq_append_getElem hn, List.map_append, List.flatten_append]
        have : fs[n] = rightF f := by rw [← hfn, List.getD_eq_getElem?_getD, List.getElem?_eq_getElem hn]; rfl
        rw [this]; simp
      rw [this]; exact o9
    · intro b hb
      rcases b9 with e | ⟨b', e, hge⟩
      · rw [e] at hb; exact ⟨ho8 b hb, (hoC b hb).2⟩
      · rw [e] at hb; cases hb
        exact ⟨fun hc => by have := W8.disk.lt _ hc; omega, fun he => by have := (Array.getElem?_eq_some_iff.1 g1).1; omega⟩
    · rw [g9.block b1 (Array.getElem?_eq_some_iff.1 g1).1 fun e => (hoC b1 e.symm).2 rfl]; exact g1
  rintro pp n cc h3 ⟨i, _, _, C, τ, hl, hik, hi255, W, tg, tsf, tpd, o, hoC, f1, hf1⟩
  cases hl
  obtain ⟨hqr, hqC⟩ := W.seg (by decide) hq hqB
  refine (crash_c W.disk fates hqr fun b o' e1 e2 => hqC b o' e1 (by simpa using e2)).mono ?_
  rintro e h4 ⟨y4, D4, rfl⟩
  obtain ⟨W4, k4⟩ := W.go y4 D4
  have hlo := laid_out (safe := σ.safe) hAR hsl D.ok.size fates (K := n) (by omega) n (Nat.le_refl _)
  rw [← hx, ← tpd, ← tsf] at hlo
  obtain ⟨hl2, hout⟩ := hlo
  have hbare : ∀ r, Bare { τ.crash fates with reads := r } := fun r => ⟨rfl, rfl, hl2, rfl⟩
  refine ⟨rfl, (W4.get hh h0 (n := 1) rfl (by show 1 < (layFates τ.safe τ.pend fates).length; omega)).mono ?_⟩
  rintro e h5 ⟨W5, k5, rfl⟩
  have hlk : (τ.crash fates).look 1 = (layFates τ.safe τ.pend fates).getD 1 ByteArray.empty := rfl
  rw [hlk]
  generalize (layFates τ.safe τ.pend fates).getD 1 ByteArray.empty = y at hout
  refine ⟨_, _, _, _, _, rfl, frm_new (openF y).1 fun b4 h6 hb4 x6 c6 => ?_⟩
  have kAll := (k4.trans k5).trans (Kp.ext C x6)
  obtain ⟨o6, ho6⟩ := kAll.own o hoC
  obtain ⟨g1, hg1⟩ := kAll.frm f1 hf1
  have fin : (∃ C σ', Wk B h C h6 d σ' ∧ Bare σ') := ⟨_, _, W5.ext x6, hbare _⟩
  refine ⟨fun _ => ⟨fin, rfl⟩, fun hne => ?_⟩
  have hne : (openF y).2.2 ≠ 50 := by simpa using hne
  refine ⟨fun l hr => l = [] ∧ hr = h6 ∧ ∃ j, j < n ∧ (openF y).1 = fs.getD j Frm.no ∧ (openF y).2.2 = 0, ⟨decide ((openF y).1 = (openF x).1 ∧ (openF y).2.2 = (openF x).2.2), ⟨_, _, _, _, cellsAt_all (vs := frmV (openF y).1) c6, _, _, _, _, cellsAt_all (vs := frmV (openF x).1) g1, _, eqv_frm _ _, fun he => ⟨rfl, ?_⟩, fun he => ⟨rfl, ?_⟩⟩, fun hB => ⟨fin, rfl⟩, fun hB => ⟨rfl, rfl, ?_⟩⟩, ?_⟩
  · simp [of_decide_eq_true he]
  · simp [of_decide_eq_false he]
  · have hB := of_decide_eq_false hB
    rcases hout.open hAR (by omega) hi255 with he | he | ⟨j, mm, hj, he⟩
    · rw [he] at hB; exact (hB ⟨rfl, rfl⟩).elim
    · rw [he] at hne; exact (hne rfl).elim
    · exact ⟨j, hj, by rw [he], by rw [he]⟩
  rintro h7 ⟨_, rfl, j, hj, hjf, hj0⟩
  have hseg : SegS h7 pp n 4 ((fs.take n).map frmV) := o6.segS (fun r hr => by obtain ⟨f, _, rfl⟩ := List.mem_map.1 hr; rfl) (by simp; omega)
  refine ⟨fun l hr => ∃ i : Nat, l = [vI i] ∧ i ≤ j ∧ hr = h7, fun l _ => (n - numAt l 0).toNat, ⟨0, rfl, Nat.zero_le _, rfl⟩, ?_⟩
  rintro iv hr ⟨i, hl, hij, rfl⟩
  cases hl
  refine ⟨fun _ => ?_, fun hc => by simp at hc; omega⟩
  obtain ⟨b, ob, e1, e2, e3, e4⟩ := hseg.at (i := i) (by simp; omega)
  have hn : i < fs.length := by omega
  have e4' : cellsAt hr b (ob + Int.toNat (i : Int) * 4) (frmV fs[i]) := by simpa using e4
  refine ⟨decide ((openF y).1 = fs[i]), ⟨fun _ => ⟨_, _, _, _, cellsAt_all (vs := frmV (openF y).1) c6, b, ob, e1, e2, e3, _, _, _, _, e4', _, eqv_frm _ _, rfl, rfl⟩, fun hf => (by simp [hj0] at hf)⟩, fun hB => ⟨fin, rfl⟩, fun hB => ⟨_, incI (by omega), ⟨i + 1, rfl, ?_, rfl⟩, by simp only [numAt]; omega⟩⟩
  have hB := of_decide_eq_false hB
  by_cases hij' : i = j
  · subst hij'
    exact (hB (by rw [hjf, List.getD_eq_getElem?_getD, List.getElem?_eq_getElem hn]; rfl)).elim
  · omega

/-- 'copy' of a text into a slice that may be too short. -/
theorem semH_copyMin {P : Program} {dT sT ty elem : TypeId} (hu : P.underlying dT = some (.slice elem)) (hz : (P.info? elem).map (·.size) = some 1) {h : Hp} {b o n c : Nat} {s : ByteArray} (hw : wrAt h b o ((bl s).take n).length) {R : Value → Hp → Prop}
    (hR : ∀ x : Int, R (.int .i64 x) (setsH h b o (byteVs ((bl s).take n)))) : SemH P (Builtin.copy_ #[dT, sT] ty #[.slice (some ⟨b, o, none⟩) n c, .string s]) h R := by
  intro w hw'
  subst hw'
  have hl : (byteVs ((bl s).take n)).length = ((bl s).take n).length := byteVs_length _
  obtain ⟨w', hrun, hrest, hheap⟩ := run_stores (P := P) b (byteVs ((bl s).take n)) o 0 w (by rw [hl]; exact hw) (byteVs_one _)
  refine ⟨.int .i64 ((Nat.min s.size n : Nat) : Int), w', ?_, hrest, by rw [hheap]; exact hR _⟩
  cases hq : P.info? elem with
  | none => simp [hq] at hz
  | some i =>
    have htk : List.take (Nat.min s.size n) (List.map (fun b : UInt8 => Value.int IntKind.u8 (b.toNat : Int)) s.data.toList) = byteVs ((bl s).take n) := by
      show _ = List.map _ (List.take n s.data.toList)
      rw [List.map_take]
      have : s.size = (List.map (fun b : UInt8 => Value.int IntKind.u8 (b.toNat : Int)) s.data.toList).length := by simp
      rw [this]
      refine List.take_eq_take_iff.2 ?_
      show min (min _ n) _ = min n _
      omega
    simp [Builtin.copy_, run_underlying hu, Builtin.lenOf, Builtin.firstCells, sizeOf, typeInfo, hq]
    rw [htk, hrun]
    simp [Result.andThen, goInt]

/-- A row of bytes in a block. -/
def BytesAt (h : Hp) (b : Nat) (t : TypeId) (L : List UInt8) : Prop := h[b]? = some (.cells (byteVs L).toArray t)
theorem BytesAt.set {h : Hp} {b : Nat} {t : TypeId} {L M : List UInt8} (a : BytesAt h b t L) {o : Nat} (ho : o + M.length ≤ L.length) : wrAt h b o M.length ∧ BytesAt (setsH h b o (byteVs M)) b t (layL L o M) := by
  refine ⟨wrAt_of a (by simpa [byteVs] using ho) (.inl (Nat.zero_le _)), ?_⟩
  unfold BytesAt
  rw [setsH_at a, layC_bytes ho]
theorem BytesAt.seg {h : Hp} {b : Nat} {t : TypeId} {L : List UInt8} (a : BytesAt h b t L) {n : Nat} (hn : L.length = n) : Seg h (some ⟨b, 0, none⟩) n (byteVs L) := by
  refine ⟨by rw [byteVs_length]; exact hn, .inr ⟨b, 0, rfl, cellsAt_of a fun j hj => ?_⟩⟩
  rw [List.getElem?_toArray, Nat.zero_add]
  exact List.getElem?_eq_getElem hj

theorem chunks_two {image : ByteArray} (h : image.size = 1024) : (chunks image).length = 2 := by
  unfold chunks; rw [h]; simp

set_option maxHeartbeats 1000000 in
/-- turnoutlaw05.FrameWhole -/
theorem whole_law (first : ByteArray) (raws : List Frm) (fates : List (Int × Int)) (again : List Frm) (more : List (Int × Int)) (hro : ∀ f ∈ raws, f.Ok) (hao : ∀ f ∈ again, f.Ok) (h : Hp) (hh : Halves h)
    {p1 p2 p3 p4 : Option Addr} {n1 n2 n3 n4 c1 c2 c3 c4 : Nat} (hs1 : SegS h p1 n1 4 (raws.map frmV)) (hs2 : SegS h p2 n2 2 (fates.map fateV)) (hs3 : SegS h p3 n3 4 (again.map frmV)) (hs4 : SegS h p4 n4 2 (more.map fateV)) :
    CallsH Tryd.prog 9 #[.string first, .slice p1 n1 c1, .slice p2 n2 c2, .slice p3 n3 c3, .slice p4 n4 c4] h (RetX (.bool true) h) := by
  refine V9 _ _ _ _ _ _ _ _ _ _ _ _ _ h _ ((awake_c h hh).mono ?_)
  rintro e h1 ⟨x1, rfl⟩
  refine ⟨_, rfl, semH_make rowB zerosB (l := 1024) (c := 1024) (Nat.le_refl _) (by omega) (by simp only [maxLen]; omega) ⟨_, _, _, rfl, ?_⟩⟩
  have a2 : BytesAt (h1.push (.cells (Array.replicate 1024 (.int .u8 0)) 5)) h1.size 5 (List.replicate 1024 0) := by
    unfold BytesAt
    rw [push_last]
    have : byteVs (List.replicate 1024 0) = List.replicate 1024 (Value.int .u8 0) := List.map_replicate
    rw [this, List.toArray_replicate]
  generalize hh2 : h1.push (.cells (Array.replicate 1024 (.int .u8 0)) 5) = h2 at a2
  have x2 : Ext h1 h2 := by rw [← hh2]; exact Ext.push _ _
  refine ⟨512, rfl, by omega, by omega, some ⟨h1.size, 512, none⟩, rfl, ?_⟩
  have htl : ((bl first).take 512).length ≤ 512 := List.length_take_le _ _
  obtain ⟨w3, a3⟩ := a2.set (o := 512) (M := (bl first).take 512) (by rw [List.length_replicate]; omega)
  refine semH_copyMin uBs szB (n := 1024 - 512) w3 fun cnt => ⟨_, rfl, ?_⟩
  have x3 : Ext h1 (setsH h2 h1.size 512 (byteVs ((bl first).take 512))) := x2.over (setsH_same (B := fun x => x = h1.size) rfl) fun x hx => by omega
  obtain ⟨L, hL⟩ : ∃ L, L = layL (List.replicate 1024 (0 : UInt8)) 512 ((bl first).take 512) := ⟨_, rfl⟩
  have hLl : L.length = 1024 := by rw [hL, layL_length (by rw [List.length_replicate]; omega), List.length_replicate]
  rw [← hL] at a3
  generalize setsH h2 h1.size 512 (byteVs ((bl first).take 512)) = h3 at a3 x3
  have hsg := a3.seg hLl
  have hsz : (tx L).size = 1024 := by rw [tx_size, hLl]
  refine semH_toText uBs uB uStr (t := tx L) (by rw [show (tx L).data.toList = L from bl_tx L]; exact hsg) ⟨_, rfl, ?_⟩
  refine (load_c (tx L) (by omega)).mono ?_
  rintro e h4 (⟨hbad, _, _⟩ | ⟨_, d, F, rfl⟩)
  · exact (hbad ⟨by omega, by omega, by omega⟩).elim
  have x03 := x1.trans x3
  have x04 := x03.trans F.1
  refine ⟨_, _, rfl, fun l hr => l = [] ∧ hr = h4, ⟨false, ⟨fun hf => (by cases hf), fun _ => ⟨fun hf => (by simp at hf), fun _ => ⟨false, eqv_ptr uPD _, rfl, rfl⟩⟩⟩, fun hB => (by cases hB), fun _ => ⟨rfl, rfl⟩⟩, ?_⟩
  rintro h4' ⟨_, rfl⟩
  have hh4 := hh.ext x04
  have s03 := x03.size
  have hpos := hh.pos
  have off : ∀ {p : Option Addr} {n z : Nat} {rows : List (List Value)}, 0 < z → SegS h p n z rows → ∀ b o, p = some ⟨b, o, none⟩ → rows ≠ [] → b < h.size := fun hz s b o hp h0 => s.block hz hp h0
  refine (whole_c F.2 ⟨rfl, rfl, chunks_two hsz, rfl⟩ hh4 (by rintro ⟨hb, _⟩; omega) raws hro fates (hs1.ext x04) (fun b o e1 e2 hb => by have := off (by decide) hs1 b o e1 e2; omega) (hs2.ext x04) (fun b o e1 e2 hb => by have := off (by decide) hs2 b o e1 e2; omega)).mono ?_
  rintro e h5 ⟨⟨C, σ, W5, bare⟩, rfl⟩
  obtain ⟨hh5, hC0⟩ := W5.halves hh4 (by rintro ⟨hb, _⟩; omega)
  have s34 := F.1.size
  have hC : ∀ b, C b → h.size ≤ b := fun b hb => (W5.sub b hb).elim (fun hb => by omega) (fun hb => by omega)
  have x05 : Ext h h5 := x04.over W5.same fun b hb => by omega
  refine ⟨_, rfl, (whole_c W5.disk bare hh5 hC0 again hao more (hs3.ext x05) (fun b o e1 e2 hb => by have := off (by decide) hs3 b o e1 e2; have := hC b hb; omega) (hs4.ext x05) (fun b o e1 e2 hb => by have := off (by decide) hs4 b o e1 e2; have := hC b hb; omega)).mono ?_⟩
  rintro e h6 ⟨⟨C6, σ6, W6, _⟩, rfl⟩
  exact ⟨_, rfl, true, ⟨fun _ => ⟨rfl, rfl⟩, fun hf => (by cases hf)⟩, rfl, x05.over W6.same hC⟩

end Go.Vc
