/- DiskPlays: the walk. -/
import Derived.Test.YtebcmlfccfchoaaS4D4U
set_option maxRecDepth 10000
namespace Go.Vc
open Go Go.Proofs Go.MapKept

theorem rowP : RowT Try.prog 67 59 2 16 := RowT.of (by kernel_rfl)

theorem Own.block {h : Hp} {base : Nat} {e : TypeId} {z : Nat} {p : Option Addr} {n c : Nat} {xs : List Value} (o : Own h base e z (.slice p n c) n xs) (hn : 0 < n) : ∃ g, p = some ⟨g, 0, none⟩ ∧ base ≤ g ∧ g < h.size ∧ (Value.slice p n c).ownBlock = some g := by
  rcases o.2 with ⟨_, h0⟩ | ⟨g, cap, cur, hv, hb, hg, _⟩
  · omega
  · cases hv
    exact ⟨g, rfl, hb, (Array.getElem?_eq_some_iff.1 (show h[g]? = _ from hg)).1, rfl⟩

def pairL (x : Nat × Nat) : List Value := [vP x.1, vP x.2]

/-- Two pairs of disks beside one another. -/
structure Game (h hq : Hp) (lb N : Nat) (ps : List (Nat × Nat)) : Prop where
  x : Ext h hq
  row : SegS hq (some ⟨lb, 0, none⟩) ps.length 2 (ps.map pairL)
  ltb : lb < hq.size
  pairs : ∃ (B : Nat → Nat → Prop) (σ : Nat → DS), (∀ i (hi : i < ps.length), PairIn hq (B i) ps[i].1 ps[i].2 (σ i) ∧ (σ i).pend.length ≤ N) ∧
    (∀ i j b, i < ps.length → j < ps.length → B i b → B j b → i = j) ∧ (∀ i b, i < ps.length → B i b → h.size ≤ b ∧ b ≠ lb)

section
variable {h hq hr : Hp} {lb N : Nat} {ps : List (Nat × Nat)}

theorem Game.ext (G : Game h hq lb N ps) (x : Ext hq hr) : Game h hr lb N ps :=
  let ⟨gx, row, l, B, σ, h1, h2, h3⟩ := G
  ⟨gx.trans x, row.ext x, Nat.lt_of_lt_of_le l x.size, B, σ, fun i hi => ⟨(h1 i hi).1.ext x, (h1 i hi).2⟩, h2, h3⟩

theorem Game.one (G : Game h hq lb N ps) {j : Nat} (hj : j < ps.length) : ∃ B σ, PairIn hq B ps[j].1 ps[j].2 σ ∧ σ.pend.length ≤ N ∧ (∀ b, B b → h.size ≤ b) ∧
    ∀ hr σ', Same B hq hr → PairIn hr (GrowB B hq hr) ps[j].1 ps[j].2 σ' → σ'.pend.length ≤ N + 1 → Game h hr lb (N + 1) ps := by
  obtain ⟨gx, row, l, B, σ, h1, h2, h3⟩ := G
  refine ⟨B j, σ j, (h1 j hj).1, (h1 j hj).2, fun b hb => (h3 j b hj hb).1, fun hr σ' y p hl => ⟨gx.over y fun b hb => (h3 j b hj hb).1, row.keep fun b o hp _ => ?_, Nat.lt_of_lt_of_le l y.size, fun i => if i = j then GrowB (B j) hq hr else B i, fun i => if i = j then σ' else σ i, ?_, ?_, ?_⟩⟩
  · cases hp
    exact y.old lb l fun hb => (h3 j lb hj hb).2 rfl
  · intro i hi
    by_cases e : i = j
    · subst e
      simp only [if_true]
      exact ⟨p, hl⟩
    · simp only [if_neg e]
      exact ⟨(h1 i hi).1.other y fun b hb hb' => e (h2 i j b hi hj hb hb'), by have := (h1 i hi).2; omega⟩
  · intro i k b hi hk hb1 hb2
    by_cases e : i = j
    · by_cases e' : k = j
      · rw [e, e']
      · simp only [if_pos e, if_neg e'] at hb1 hb2
        have := (h1 k hk).1.lt b hb2
        rcases hb1 with hb1 | hb1
        · exact (e' (h2 k j b hk hj hb2 hb1)).elim
        · omega
    · by_cases e' : k = j
      · simp only [if_neg e, if_pos e'] at hb1 hb2
        have := (h1 i hi).1.lt b hb1
        rcases hb2 with hb2 | hb2
        · exact (e (h2 i j b hi hj hb1 hb2)).elim
        · omega
      · simp only [if_neg e, if_neg e'] at hb1 hb2
        exact h2 i k b hi hk hb1 hb2
  · intro i b hi hb
    by_cases e : i = j
    · simp only [if_pos e] at hb
      rcases hb with hb | hb
      · exact h3 j b hj hb
      · exact ⟨by have := gx.size; omega, by omega⟩
    · simp only [if_neg e] at hb
      exact h3 i b hi hb

theorem Game.at (G : Game h hq lb N ps) {j : Nat} (hj : j < ps.length) : ∃ b o, some (⟨lb, 0, none⟩ : Addr) = some ⟨b, o, none⟩ ∧ 0 ≤ (j : Int) ∧ (j : Int) < ps.length ∧ cellsAt hq b (o + Int.toNat (j : Int) * 2) (pairL ps[j]) := by
  obtain ⟨b, o, h1, h2, h3, h4⟩ := G.row.at (i := j) (by simpa using hj)
  exact ⟨b, o, h1, h2, h3, by simpa using h4⟩

end

/-- turnoutlaw04.DiskPlays -/
theorem plays_law (sectors : Int) (image : ByteArray) (ops : List OpR) (hs0 : -9223372036854775808 ≤ sectors) (hs1 : sectors ≤ 9223372036854775807) (himg : image.size ≤ 9223372036854775807) (hl : ops.length ≤ 2199023255551) (h : Hp) (hok : ∀ o ∈ ops, OpOk h o)
    {p : Option Addr} {k c : Nat} (hs : SegS h p k 6 (ops.map opV)) :
    CallsH Try.prog 10 #[vZ sectors, .string image, .slice p k c] h (RetX (.bool true) h) := by
  have hk : ops.length = k := by have := hs.1; simpa using this
  refine V10 _ _ _ _ _ h _ ((awake_c h).mono ?_)
  rintro e h0 ⟨x0, rfl⟩
  refine ⟨_, rfl, (pick_c sectors 5 (by decide) hs0 hs1 h0).mono ?_⟩
  rintro e h0' ⟨rfl, rfl⟩
  have hp5 := pickN_lt sectors (show 0 < 5 by decide)
  obtain ⟨n, hn⟩ : ∃ n, n = 1 + pickN sectors 5 := ⟨_, rfl⟩
  refine ⟨_, rfl, (n : Int), by rw [wrapI64] <;> omega, (new_c (n : Int)).mono ?_⟩
  rintro e h1 (⟨hbad, rfl, rfl⟩ | ⟨_, _, da, Fa, rfl⟩)
  · omega
  refine ⟨_, _, rfl, (rNew_c (n : Int)).mono ?_⟩
  rintro e h2 (⟨hbad, rfl, rfl⟩ | ⟨_, _, db, Fb, rfl⟩)
  · omega
  have s0 := x0.size
  have s1 := Fa.1.size
  have s2 := Fb.1.size
  have hx2 := (x0.trans Fa.1).trans Fb.1
  have P2 : PairIn h2 (fun b => h0'.size ≤ b ∧ b < h2.size) da db (DS.new n) :=
    ⟨_, _, ⟨Fa.2.ext Fb.1, Fb.2, fun x h1 h2 => by omega⟩, fun b hb => ⟨hb.1, by omega⟩, fun b hb => ⟨by omega, hb.2⟩, fun b hb => hb.2⟩
  clear Fa Fb
  refine ⟨_, _, rfl, fun l hq => l = [] ∧ hq = h2, ⟨false, ⟨fun hf => (by cases hf), fun _ => ⟨false, eqv_ptr uPD _, fun hf => (by cases hf), fun _ => ⟨rfl, rfl⟩⟩⟩, fun hB => (by cases hB), fun _ => ⟨rfl, rfl⟩⟩, ?_⟩
  rintro h2' ⟨_, rfl⟩
  refine semH_pushS rowP (by decide) (Own.nil h2' h2'.size 59 2) (r := pairL (da, db)) rfl rfl (by decide) (by simp [pairL, Value.oneCell']) (by decide) (by decide) (Nat.le_refl _) fun p3 c3 h3 o3 g3 _ _ => ?_
  rw [List.nil_append] at o3
  obtain ⟨g, hpg, hg0, hg1, hgo⟩ := o3.block (by decide)
  have x3 : Ext h2' h3 := (Ext.refl h2').grown g3 fun k hk => by cases hk
  have s3 := x3.size
  refine (load_c image himg).mono ?_
  rintro e h4 hC
  have hC' : ∃ (a : Option Addr) (co : Int), e = .returned (.tuple #[.pointer a, vZ co]) ∧ Ext h3 h4 ∧ ((¬ LoadOk image ∧ a = none ∧ co = 1) ∨ (LoadOk image ∧ co = 0 ∧ ∃ dc, a = some ⟨dc, 0, none⟩ ∧ Fresh h3 h4 dc (DS.fresh (chunks image)))) := by
    rcases hC with ⟨hbad, rfl, rfl⟩ | ⟨hok, dc, F, rfl⟩
    · exact ⟨_, _, rfl, Ext.refl _, .inl ⟨hbad, rfl, rfl⟩⟩
    · exact ⟨_, _, rfl, F.1, .inr ⟨hok, rfl, dc, rfl, F⟩⟩
  clear hC
  obtain ⟨a, co, rfl, x4, hC⟩ := hC'
  refine ⟨a, co, rfl, (rLoad_c image himg).mono ?_⟩
  rintro e h5 hD
  have hD' : ∃ d : Option Addr, e = .returned (.tuple #[.pointer d, vZ co]) ∧ Ext h4 h5 ∧ ((a = none ∧ d = none) ∨ ∃ dc dd, a = some ⟨dc, 0, none⟩ ∧ d = some ⟨dd, 0, none⟩ ∧ PairIn h5 (fun x => h3.size ≤ x ∧ x < h5.size) dc dd (DS.fresh (chunks image))) := by
    rcases hC with ⟨hbad, rfl, rfl⟩ | ⟨hok, rfl, dc, rfl, F⟩
    · rcases hD with ⟨_, rfl, rfl⟩ | ⟨hok, _⟩
      · exact ⟨none, rfl, Ext.refl _, .inl ⟨rfl, rfl⟩⟩
      · exact (hbad hok).elim
    · rcases hD with ⟨hbad, _⟩ | ⟨_, dd, G, rfl⟩
      · exact (hbad hok).elim
      · have a1 := F.1.size
        have a2 := G.1.size
        exact ⟨_, rfl, G.1, .inr ⟨dc, dd, rfl, rfl, _, _, ⟨F.2.ext G.1, G.2, fun x h1 h2 => by omega⟩, fun b hb => ⟨hb.1, by omega⟩, fun b hb => ⟨by omega, hb.2⟩, fun b hb => hb.2⟩⟩
  obtain ⟨d, rfl, x5, hCD⟩ := hD'
  clear hC hD
  have s4 := x4.size
  have s5 := x5.size
  have x35 := x4.trans x5
  have o5 := o3.ext x35
  have hx5 := (hx2.trans x3).trans x35
  have P5 := (P2.ext x3).ext x35
  obtain ⟨t, ec, ed, ht, hf⟩ : ∃ t : Bool, EqV Try.prog 25 (.pointer a) (.pointer none) t ∧ EqV Try.prog 53 (.pointer d) (.pointer none) t ∧ (t = true → a = none) ∧ (t = false → a ≠ none) := by
    rcases hCD with ⟨rfl, rfl⟩ | ⟨dc, dd, rfl, rfl, _⟩
    · exact ⟨true, eqv_nil uPD, eqv_nil uPR, fun _ => rfl, fun h => by cases h⟩
    · exact ⟨false, eqv_ptr uPD _, eqv_ptr uPR _, fun h => (by cases h), fun _ h => by cases h⟩
  refine ⟨_, _, rfl, fun l hq => l = [] ∧ hq = h5, ⟨false, ⟨fun hf => (by simp at hf), fun _ => ⟨t, ec, t, ed, _, eqv_bool uBoolT _ _, rfl, by simp⟩⟩, fun hB => (by cases hB), fun _ => ⟨rfl, rfl⟩⟩, ?_⟩
  rintro h6 ⟨_, rfl⟩
  refine ⟨fun l hq => ∃ (lb lc : Nat) (ps : List (Nat × Nat)), l = [.slice (some ⟨lb, 0, none⟩) ps.length lc] ∧ 0 < ps.length ∧ ps.length ≤ 2 ∧ Game h hq lb 0 ps, ⟨!t, ⟨t, ec, fun hn => ⟨t, ed, rfl, rfl⟩, fun hn => ⟨rfl, (by rw [hn])⟩⟩, fun hB => ?_, fun hB => ?_⟩, ?_⟩
  · have htf : t = false := by simpa using hB
    rcases hCD with ⟨hn, _⟩ | ⟨dc, dd, rfl, rfl, Q⟩
    · exact (hf htf hn).elim
    refine semH_pushS rowP (by decide) o5 (r := pairL (dc, dd)) rfl rfl (by decide) (by simp [pairL, Value.oneCell']) (by decide) (by decide) (by omega) fun p7 c7 h7 o7 g7 _ b7 => ?_
    obtain ⟨g', hpg', hg0', hg1', hgo'⟩ := o7.block (by decide)
    subst hpg'
    have y7 : Same (fun b => b = g) h6 h7 := g7.same _ fun b hb => by rw [hgo] at hb; cases hb; rfl
    have hgg : g' = g ∨ h6.size ≤ g' := by
      rcases b7 with e | ⟨b2, e, hl⟩
      · rw [hgo', hgo] at e; cases e; exact .inl rfl
      · rw [hgo'] at e; cases e; exact .inr hl
    refine ⟨g', _, [(da, db), (dc, dd)], rfl, by simp, by simp, hx5.over y7 fun b hb => by omega, ?_, hg1', fun i => if i = 0 then (fun b => h0'.size ≤ b ∧ b < h2'.size) else (fun b => h3.size ≤ b ∧ b < h6.size), fun i => if i = 0 then DS.new n else DS.fresh (chunks image), ?_, ?_, ?_⟩
    · exact o7.segS (rows := [pairL (da, db), pairL (dc, dd)]) (by simp [pairL]) rfl
    · intro i hi
      match i, hi with
      | 0, _ => exact ⟨P5.other y7 fun b hb e => by omega, Nat.le_refl _⟩
      | 1, _ => exact ⟨Q.other y7 fun b hb e => by omega, Nat.le_refl _⟩
    · intro i j b hi hj h1 h2
      match i, j, hi, hj with
      | 0, 0, _, _ => rfl
      | 0, 1, _, _ => simp at h1 h2; omega
      | 1, 0, _, _ => simp at h1 h2; omega
      | 1, 1, _, _ => rfl
    · intro i b hi hb
      match i, hi with
      | 0, _ => simp at hb; exact ⟨by omega, by omega⟩
      | 1, _ => simp at hb; exact ⟨by omega, by omega⟩
  · subst hpg
    refine ⟨g, _, [(da, db)], rfl, by simp, by simp, hx5, ?_, by omega, fun _ => (fun b => h0'.size ≤ b ∧ b < h2'.size), fun _ => DS.new n, ?_, ?_, ?_⟩
    · exact o5.segS (rows := [pairL (da, db)]) (by simp [pairL]) rfl
    · intro i hi
      have : i = 0 := by simp at hi; omega
      subst this
      exact ⟨P5, Nat.le_refl _⟩
    · intro i j b hi hj _ _
      simp at hi hj; omega
    · intro i b hi hb
      exact ⟨by omega, by omega⟩
  rintro lp ln lc h7 ⟨lb, lc', ps, hls, hps0, hps2, G7⟩
  cases hls
  clear hCD P2 P5 o3 o5 hx5 x35 x5 x4 x3 g3
  refine ⟨fun l hq => ∃ i : Nat, i ≤ k ∧ l = [vI i] ∧ Game h hq lb i ps, fun l _ => (k - numAt l 0).toNat, ⟨0, Nat.zero_le _, rfl, G7⟩, ?_⟩
  rintro x hq ⟨i, hi, hl, G⟩
  cases hl
  refine ⟨fun hlt => ?_, fun hlt => ?_⟩
  · have hlt : i < k := by simp at hlt; omega
    have hio : i < ops.length := by omega
    have ok := hok ops[i] (List.getElem_mem hio)
    obtain ⟨b, o, hp, q0, q1, hc⟩ := (hs.ext G.x).get (i := i) (by simpa using hio)
    have eo : (ops.map opV)[i]'(by simpa using hio) = opV ops[i] := by simp
    refine ⟨b, o, hp, q0, q1, ops[i].on, hc 1 _ (by rw [eo]; rfl), (pick_c ops[i].on ps.length hps0 ok.on0 ok.on1 hq).mono ?_⟩
    rintro e hq' ⟨rfl, rfl⟩
    obtain ⟨j, hj⟩ : ∃ j, j = pickN ops[i].on ps.length := ⟨_, rfl⟩
    have hjl : j < ps.length := by rw [hj]; exact pickN_lt _ hps0
    rw [← hj]
    obtain ⟨b1, o1, e1, a0, a1, a2⟩ := G.at hjl
    refine ⟨_, rfl, b1, o1, e1, a0, a1, _, _, a2, pair_var fun bb h8 hbb x8 c8 => ⟨_, _, pair_ld c8, ?_⟩⟩
    have G8 := G.ext x8
    obtain ⟨b2, o2, hp2, q2, q3, hc2⟩ := (hs.ext G8.x).at (i := i) (by simpa using hio)
    rw [eo] at hc2
    obtain ⟨B, σ, PB, hpl, hBl, hnext⟩ := G8.one hjl
    refine ⟨b2, o2, hp2, q2, q3, _, _, _, _, _, _, _, _, hc2, (play_c PB (by omega) ops[i] ⟨ok.n0, ok.n1, ok.on0, ok.on1, ok.len, ok.seg.ext G8.x⟩ fun b q hp h0 hb => ?_).mono ?_⟩
    · have := ok.seg.block (by decide) hp fun e => h0 (List.map_eq_nil_iff.1 e)
      have := hBl b hb
      omega
    rintro e h9 ⟨y9, ⟨σ', P9, hl9⟩, rfl⟩
    have G9 := hnext h9 σ' y9 P9 (by omega)
    refine ⟨true, rfl, fun hf => (by cases hf), fun _ => ⟨fun l hr => ∃ m : Nat, m ≤ ps.length ∧ l = [vI m] ∧ Game h hr lb (i + 1) ps, fun l _ => (ps.length - numAt l 0).toNat, ⟨0, Nat.zero_le _, rfl, G9⟩, ?_⟩⟩
    rintro x hr ⟨m, hm, hl, Gr⟩
    cases hl
    refine ⟨fun hmt => ?_, fun _ => ⟨_, incI (by omega), ⟨i + 1, hlt, rfl, Gr⟩, by simp only [numAt]; omega⟩⟩
    have hmt : m < ps.length := by simp at hmt; omega
    obtain ⟨b3, o3, e3, f0, f1, f2⟩ := Gr.at hmt
    obtain ⟨B3, σ3, ⟨Ba, Bb, pp, _⟩, _⟩ := Gr.one hmt
    refine ⟨b3, o3, e3, f0, f1, _, _, f2, (settled_c pp).mono ?_⟩
    rintro e h10 ⟨x10, rfl⟩
    exact ⟨true, rfl, fun hf => (by cases hf), fun _ => ⟨_, incI (by omega), ⟨m + 1, hmt, rfl, Gr.ext x10⟩, by simp only [numAt]; omega⟩⟩
  · refine ⟨fun l hr => ∃ m : Nat, m ≤ ps.length ∧ l = [vI m] ∧ Game h hr lb i ps, fun l _ => (ps.length - numAt l 0).toNat, ⟨0, Nat.zero_le _, rfl, G⟩, ?_⟩
    rintro x hr ⟨m, hm, hl, Gr⟩
    cases hl
    refine ⟨fun hmt => ?_, fun _ => ⟨rfl, Gr.x⟩⟩
    have hmt : m < ps.length := by simp at hmt; omega
    obtain ⟨b3, o3, e3, f0, f1, f2⟩ := Gr.at hmt
    obtain ⟨B3, σ3, ⟨Ba, Bb, pp, _⟩, hl3, _⟩ := Gr.one hmt
    refine ⟨b3, o3, e3, f0, f1, _, _, f2, (ppend_c pp (by omega)).mono ?_⟩
    rintro e h10 ⟨x10, rfl⟩
    have G10 := Gr.ext x10
    have em : (ps.map pairL)[m]'(by simpa using hmt) = pairL ps[m] := by simp
    obtain ⟨b4, o4, e4, u0, u1, u2⟩ := G10.row.get (i := m) (by simpa using hmt)
    refine ⟨true, rfl, fun h' => Game h h' lb i ps, G10, fun hf => (by cases hf), fun _ => ⟨b4, o4, e4, u0, u1, _, u2 0 _ (by rw [em]; rfl), (image_c (pp.ext x10).a).mono ?_⟩⟩
    rintro e h11 ⟨x11, rfl⟩
    have G11 := G10.ext x11
    cases e4
    refine ⟨_, rfl, G11, lb, 0, rfl, u0, u1, _, fun h' G' => ?_, (rImage_c ((pp.ext x10).ext x11).b).mono ?_⟩
    · obtain ⟨b5, o5, e5, v0, v1, v2⟩ := G'.row.get (i := m) (by simpa using hmt)
      cases e5
      exact v2 1 _ (by rw [em]; rfl)
    rintro e h12 ⟨x12, rfl⟩
    exact ⟨_, rfl, G11.ext x12, fun hf => (by simp at hf), fun _ => ⟨_, incI (by omega), ⟨m + 1, hmt, rfl, G11.ext x12⟩, by simp only [numAt]; omega⟩⟩

end Go.Vc
