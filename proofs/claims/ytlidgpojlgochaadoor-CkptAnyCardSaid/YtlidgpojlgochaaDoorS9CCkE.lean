/- Checkpoints: Heads and Find. -/
import Derived.Test.YtlidgpojlgochaaDoorS9CCkD
set_option maxRecDepth 10000
namespace Go.Vc
open Go Go.Proofs Go.MapKept

theorem take_err {σ : DS} {slot : Int} (h : (takeF σ slot).2.2 ≠ 0) : (takeF σ slot).2.2 = 40 := by
  unfold takeF at h ⊢
  split
  · rfl
  · rename_i h1
    rw [if_neg h1] at h
    split
    · rename_i h2
      rw [if_pos h2] at h
      exact (h rfl).elim
    · rename_i h2
      rw [if_neg h2] at h
      exact (h rfl).elim

theorem stN_length (σ : DS) : ∀ i, (stN σ i).2.length ≤ i
  | 0 => Nat.le_refl _
  | i + 1 => by
    have := stN_length σ i
    show ((stN σ i).2 ++ _).length ≤ i + 1
    rw [List.length_append]
    split
    · simp; omega
    · simp; omega

theorem flat_snoc {α : Type} (f : α → List Value) (l : List α) (a : α) : ((l ++ [a]).map f).flatten = (l.map f).flatten ++ f a := by simp

section
variable {h : Hp} {B : Nat → Prop} {d : Nat} {σ : DS}

theorem DiskAt.grown {hq hr : Hp} {B : Nat → Prop} {d : Nat} {σ : DS} {row : Option Nat} (D : DiskAt dI hq B d σ) (g : Grown hq hr row) (hrow : ∀ b, row = some b → ¬ B b) : DiskAt dI hr B d σ :=
  D.keep g.size fun b hb => g.block b (D.lt b hb) fun e => hrow b e.symm hb
theorem Same.grown {B : Nat → Prop} {h hq hr : Hp} {row : Option Nat} (y : Same B h hq) (g : Grown hq hr row) (hrow : ∀ b, row = some b → h.size ≤ b) : Same B h hr :=
  ⟨Nat.le_trans y.size g.size, fun b hb hn => (g.block b (Nat.lt_of_lt_of_le hb y.size) fun e => by have := hrow b e.symm; omega).trans (y.old b hb hn)⟩

set_option maxHeartbeats 1000000 in
/-- ckpt.newest -/
theorem newest_c (D : DiskAt dI h B d σ) (hh : Halves h) (h0 : ¬ B 0) : CallsH Tryd.prog 38 #[vP d] h fun e h' =>
    Same B h h' ∧ DiskAt dI h' B d (newestF σ).1 ∧ ∃ p c, e = .returned (.tuple #[.slice p (newestF σ).2.1.length c, vZ (newestF σ).2.2]) ∧
      Own h' h.size 81 7 (.slice p (newestF σ).2.1.length c) (newestF σ).2.1.length ((newestF σ).2.1.map tkV).flatten := by
  have nB : ∀ {x : Nat}, h.size ≤ x → ¬ B x := fun hx hb => by have := D.lt _ hb; omega
  refine V38 _ h _ ⟨false, eqv_ptr uPD _, fun hf => (by cases hf), fun _ => ?_⟩
  refine ⟨fun l hr => ∃ (i : Nat) (p : Option Addr) (c : Nat), l = [.slice p (stN σ i).2.length c, vI i] ∧ i ≤ 2 ∧ (∀ j : Nat, j < i → (takeF (stN σ j).1 j).2.2 = 0) ∧ Same B h hr ∧ DiskAt dI hr B d (stN σ i).1 ∧
      Own hr h.size 81 7 (.slice p (stN σ i).2.length c) (stN σ i).2.length ((stN σ i).2.map tkV).flatten,
    fun l _ => (2 - numAt l 1).toNat, ⟨0, none, 0, rfl, by decide, fun j hj => absurd hj (Nat.not_lt_zero j), Same.refl _ _, D, Own.nil _ _ _ _⟩, ?_⟩
  rintro p n c x hr ⟨i, p', c', hl, hi, hj, y, Di, o⟩
  have hl' := hl
  simp only [List.cons.injEq, Value.slice.injEq, Value.int.injEq, and_true, true_and] at hl'
  obtain ⟨⟨rfl, hn, rfl⟩, rfl⟩ := hl'
  clear hl
  have hlen := stN_length σ i
  refine ⟨fun hlt => ?_, fun hlt => ?_⟩
  · have hlt : i < 2 := by have := of_decide_eq_true hlt; omega
    refine (takeH_c Di (hh.same y h0) h0 (i : Int)).mono ?_
    rintro e g1 ⟨y1, D1, rfl⟩
    obtain ⟨t, ht⟩ : ∃ t, t = (takeF (stN σ i).1 i).1 := ⟨_, rfl⟩
    obtain ⟨ok, hok⟩ : ∃ ok, ok = (takeF (stN σ i).1 i).2.1 := ⟨_, rfl⟩
    obtain ⟨code, hcode⟩ : ∃ code, code = (takeF (stN σ i).1 i).2.2 := ⟨_, rfl⟩
    rw [← ht, ← hok, ← hcode]
    refine ⟨_, _, _, _, _, _, _, _, _, rfl, ?_⟩
    intro b g2 hb e2
    have x2 : Ext g1 g2 := by rw [e2]; exact Ext.push _ _
    have c2 : g2[b]? = some (.cells (tkV Tk.no).toArray 81) := by rw [e2, hb, zerosTk]; exact push_last
    clear e2
    obtain ⟨q1, q2, q3, q4⟩ := tk_set c2 t
    refine ⟨infoTk, rfl, q2, q3, ?_⟩
    intro g3 e3
    have x3 : Ext g1 g3 := by rw [e3]; exact x2.over (setsH_same (B := fun x => x = b) rfl) fun x hx => by omega
    have c3 : g3[b]? = some (.cells (tkV t).toArray 81) := by rw [e3]; exact q4
    clear e3 q1 q2 q3 q4 c2 x2
    have y3 : Same B h g3 := (y.trans y1 fun _ h _ => h).trans (x3.same B) fun _ h _ => h
    have D3 : DiskAt dI g3 B d (stN σ (i + 1)).1 := D1.ext x3
    have o3 : Own g3 h.size 81 7 (.slice p n c) n ((stN σ i).2.map tkV).flatten := by
      rw [hn]
      rw [hn] at *
      exact (o.keep fun b hb => y1.old b (o.lt hb).2 (nB (o.lt hb).1)).ext x3
    refine ⟨fun hne => ?_, fun hz => ?_⟩
    · have hne : code ≠ 0 := of_decide_eq_true hne
      have e1 : newestF σ = ((stN σ (i + 1)).1, [], code) := by
        unfold newestF
        have : i = 0 ∨ i = 1 := by omega
        rcases this with rfl | rfl
        · rw [if_pos (by rw [hcode] at hne; exact hne), hcode]; rfl
        · have h00 := hj 0 (by decide)
          rw [if_neg (by simpa using h00), if_pos (by rw [hcode] at hne; exact hne), hcode]; rfl
      rw [e1]
      exact ⟨y3, D3, none, 0, rfl, Own.nil _ _ _ _⟩
    · have hz : ¬ code ≠ 0 := of_decide_eq_false hz
      have hj' : ∀ j : Nat, j < i + 1 → (takeF (stN σ j).1 j).2.2 = 0 := fun j hji => by
        by_cases hjj : j < i
        · exact hj j hjj
        · have : j = i := by omega
          subst this
          rw [← hcode]; omega
      refine ⟨fun htrue => ?_, fun hfalse => ?_⟩
      · refine ⟨_, _, _, _, _, _, _, cellsAt_all (vs := tkV t) c3, ?_⟩
        have e2 : (stN σ (i + 1)).2 = (stN σ i).2 ++ [t] := by
          show _ ++ _ = _
          rw [if_pos (by rw [← hok]; exact htrue), ht]
        refine semH_pushS rowTk (by decide) o3 (r := tkV t) rfl rfl (by decide) (by simp [tkV, Value.oneCell']) (by omega) (by simp only [maxLen]; omega) y3.size fun p4 c4 g4 o4 gr4 _ _ => ?_
        have hl2 : n + 1 = (stN σ (i + 1)).2.length := by rw [e2, List.length_append, ← hn]; rfl
        refine ⟨_, incI (by omega), ⟨i + 1, p4, c4, by rw [hl2], hlt, hj', y3.grown gr4 fun b hb => (o3.lt hb).1, D3.grown gr4 fun b hb => nB (o3.lt hb).1, ?_⟩, by simp only [numAt]; omega⟩
        rw [← hl2, e2, flat_snoc]
        exact o4
      · have e2 : (stN σ (i + 1)).2 = (stN σ i).2 := by
          show _ ++ _ = _
          rw [if_neg (by rw [← hok, hfalse]; simp), List.append_nil]
        refine ⟨_, incI (by omega), ⟨i + 1, p, c, by rw [e2, hn], hlt, hj', y3, D3, ?_⟩, by simp only [numAt]; omega⟩
        rw [e2, ← hn]
        exact o3
  · have hi2 : i = 2 := by have := of_decide_eq_false hlt; omega
    subst hi2
    have e1 : newestF σ = ((stN σ 2).1, sortT (stN σ 2).2, 0) := by
      unfold newestF
      have h00 := hj 0 (by decide)
      have h01 := hj 1 (by decide)
      rw [if_neg (by simpa using h00), if_neg (by simpa using h01)]
    rw [e1]
    obtain ⟨l, hl⟩ : ∃ l, l = (stN σ 2).2 := ⟨_, rfl⟩
    rw [← hl] at o hn hlen ⊢
    rcases l with _ | ⟨a, _ | ⟨b, _ | ⟨_, _⟩⟩⟩
    · have hn : n = 0 := hn
      subst hn
      exact ⟨false, ⟨fun hf => (by simp at hf), fun _ => ⟨rfl, rfl⟩⟩, fun hf => (by cases hf), fun _ => ⟨y, Di, p, c, rfl, o⟩⟩
    · have hn : n = 1 := hn
      subst hn
      exact ⟨false, ⟨fun hf => (by simp at hf), fun _ => ⟨rfl, rfl⟩⟩, fun hf => (by cases hf), fun _ => ⟨y, Di, p, c, rfl, o⟩⟩
    · have hn : n = 2 := hn
      subst hn
      have sg : SegS hr p 2 7 [tkV a, tkV b] := o.segS (rows := [tkV a, tkV b]) (by simp [tkV]) rfl
      obtain ⟨ba, oa, pa, za, la, ca⟩ := sg.get (i := 0) (by simp)
      obtain ⟨bb, ob, pb, zb, lb, cb⟩ := sg.get (i := 1) (by simp)
      obtain ⟨ba', oa', pa', za', la', ca'⟩ := sg.at (i := 0) (by simp)
      obtain ⟨bb', ob', pb', zb', lb', cb'⟩ := sg.at (i := 1) (by simp)
      refine ⟨decide ((a.h.gen : Int) < (b.h.gen : Int)), ⟨fun _ => ⟨ba, oa, pa, za, la, (a.h.gen : Int), ca 1 _ rfl, bb, ob, pb, zb, lb, (b.h.gen : Int), cb 1 _ rfl, rfl, rfl⟩, fun hf => (by simp at hf)⟩, fun hB => ?_, fun hB => ?_⟩
      · have hB : (a.h.gen : Int) < (b.h.gen : Int) := of_decide_eq_true hB
        have es : sortT [a, b] = [b, a] := by show (if a.h.gen < b.h.gen then _ else _) = _; rw [if_pos (by omega)]
        rw [es]
        refine ⟨bb', ob', pb', zb', lb', _, _, _, _, _, _, _, cb', ba', oa', pa', za', la', _, _, _, _, _, _, _, ca', ?_⟩
        have o' : Own hr h.size 81 7 (.slice p 2 c) 2 (tkV a ++ tkV b) := by simpa using o
        refine o'.storeS (i := 0) (vs := tkV b) (by decide) rfl (by simp [tkV, Value.oneCell']) fun g1 o1 gr1 s1 => ?_
        rw [show 0 * 7 = 0 from rfl, layC_first (x := tkV a) (y := tkV b) (v := tkV b) rfl] at o1
        refine o1.storeS (i := 1) (vs := tkV a) (by decide) rfl (by simp [tkV, Value.oneCell']) fun g2 o2 gr2 s2 => ?_
        rw [show 1 * 7 = 7 from rfl, layC_second (x := tkV b) (y := tkV b) (v := tkV a) (k := 7) rfl rfl] at o2
        refine ⟨(y.grown gr1 fun b hb => (o'.lt hb).1).grown gr2 fun b hb => (o1.lt hb).1, (Di.grown gr1 fun b hb => nB (o'.lt hb).1).grown gr2 fun b hb => nB (o1.lt hb).1, p, c, rfl, ?_⟩
        have : ([b, a].map tkV).flatten = tkV b ++ tkV a := by simp
        rw [this]
        exact o2
      · have hB : ¬ (a.h.gen : Int) < (b.h.gen : Int) := of_decide_eq_false hB
        have es : sortT [a, b] = [a, b] := by show (if a.h.gen < b.h.gen then _ else _) = _; rw [if_neg (by omega)]
        rw [es]
        exact ⟨y, Di, p, c, rfl, o⟩
    · simp at hlen

theorem newest_nil (h : Hp) : CallsH Tryd.prog 38 #[.pointer none] h fun e h' => h' = h ∧ e = .returned (.tuple #[.slice none 0 0, vZ 1]) :=
  V38 _ h _ ⟨true, eqv_nil uPD, fun _ => ⟨rfl, rfl⟩, fun hf => (by cases hf)⟩

/-- ckpt.Heads -/
theorem heads_c (D : DiskAt dI h B d σ) (hh : Halves h) (h0 : ¬ B 0) : CallsH Tryd.prog 15 #[vP d] h fun e h' =>
    Same B h h' ∧ DiskAt dI h' B d (newestF σ).1 ∧ ∃ p c, e = .returned (.tuple #[.slice p (newestF σ).2.1.length c, vZ (newestF σ).2.2]) ∧
      Own h' h.size 26 5 (.slice p (newestF σ).2.1.length c) (newestF σ).2.1.length (((newestF σ).2.1.map (·.h)).map hdV).flatten := by
  have nB : ∀ {x : Nat}, h.size ≤ x → ¬ B x := fun hx hb => by have := D.lt _ hb; omega
  refine V15 _ h _ ((newest_c D hh h0).mono ?_)
  rintro e g ⟨y, Dg, q, cq, rfl, oq⟩
  obtain ⟨l, hl⟩ : ∃ l, l = (newestF σ).2.1 := ⟨_, rfl⟩
  have hlen : l.length ≤ 2 := by
    rw [hl]
    unfold newestF
    split
    · exact Nat.zero_le _
    · split
      · exact Nat.zero_le _
      · have := stN_length σ 2
        show (sortT (stN σ 2).2).length ≤ 2
        unfold sortT
        split
        · split <;> exact Nat.le_refl _
        · exact this
  rw [← hl] at oq ⊢
  refine ⟨_, _, _, _, rfl, ?_⟩
  have sg : SegS g q l.length 7 (l.map tkV) := oq.segS (by intro r hr; obtain ⟨t, _, rfl⟩ := List.mem_map.1 hr; rfl) (by simp)
  have s0 := y.size
  refine ⟨fun ll hr => ∃ (i : Nat) (p : Option Addr) (c : Nat), ll = [.slice p i c, vI i] ∧ i ≤ l.length ∧ Ext g hr ∧ Own hr g.size 26 5 (.slice p i c) i (((l.take i).map (·.h)).map hdV).flatten,
    fun ll _ => (l.length - numAt ll 1).toNat, ⟨0, none, 0, rfl, Nat.zero_le _, Ext.refl _, Own.nil _ _ _ _⟩, ?_⟩
  rintro p n c x hr ⟨i, p', c', hll, hi, xr, o⟩
  cases hll
  refine ⟨fun hlt => ?_, fun hlt => ?_⟩
  · have hlt : n < l.length := by have := of_decide_eq_true hlt; omega
    obtain ⟨b, ob, e1, e2, e3, e4⟩ := (sg.ext xr).at (i := n) (by simpa using hlt)
    have e4 : cellsAt hr b (ob + Int.toNat (n : Int) * 7) (tkV l[n]) := by simpa using e4
    refine ⟨b, ob, e1, e2, e3, _, _, _, _, _, _, _, e4, ?_⟩
    intro b1 g2 hb1 e5
    have x2 : Ext hr g2 := by rw [e5]; exact Ext.push _ _
    have c2 : g2[b1]? = some (.cells (tkV Tk.no).toArray 81) := by rw [e5, hb1, zerosTk]; exact push_last
    clear e5
    obtain ⟨q1, q2, q3, q4⟩ := tk_set c2 l[n]
    refine ⟨infoTk, rfl, q2, q3, ?_⟩
    intro g3 e6
    have x3 : Ext hr g3 := by rw [e6]; exact x2.over (setsH_same (B := fun x => x = b1) rfl) fun x hx => by omega
    have c3 : g3[b1]? = some (.cells (tkV l[n]).toArray 81) := by rw [e6]; exact q4
    refine ⟨_, _, _, _, _, tk_hd c3, ?_⟩
    have o3 := o.ext x3
    refine semH_pushS rowHd (by decide) o3 (r := hdV l[n].h) rfl rfl (by decide) (by simp [hdV, Value.oneCell']) (by omega) (by simp only [maxLen]; omega) (xr.trans x3).size fun p4 c4 g4 o4 gr4 _ _ => ?_
    refine ⟨_, incI (by omega), ⟨n + 1, p4, c4, rfl, hlt, (xr.trans x3).grown gr4 fun b hb => (o3.lt hb).1, ?_⟩, by simp only [numAt]; omega⟩
    rw [take_one hlt, List.map_append, List.map_append, List.flatten_append]
    have : (List.map hdV (List.map (fun x => x.h) [l[n]])).flatten = hdV l[n].h := by simp
    rw [this]
    exact o4
  · have hn : n = l.length := by have := of_decide_eq_false hlt; omega
    subst hn
    rw [List.take_length] at o
    exact ⟨(y.trans (xr.same B) fun _ h _ => h), Dg.ext xr, p, c, rfl, o.rebase fun b hb => by have := (o.lt hb).1; omega⟩

theorem heads_nil (h : Hp) : CallsH Tryd.prog 15 #[.pointer none] h fun e h' => h' = h ∧ e = .returned (.tuple #[.slice none 0 0, vZ 1]) := by
  refine V15 _ h _ ((newest_nil h).mono ?_)
  rintro e g ⟨rfl, rfl⟩
  refine ⟨_, _, _, _, rfl, fun ll hr => ll = [.slice none 0 0, vI 0] ∧ hr = g, fun _ _ => 0, ⟨rfl, rfl⟩, ?_⟩
  rintro p n c x hr ⟨hll, rfl⟩
  cases hll
  exact ⟨fun hf => (by simp at hf), fun _ => ⟨rfl, rfl⟩⟩

end

end Go.Vc
