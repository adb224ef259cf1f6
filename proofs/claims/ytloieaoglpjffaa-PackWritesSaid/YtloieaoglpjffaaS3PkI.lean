/- What is written by both writers is the same. -/
import Derived.Test.YtloieaoglpjffaaS3PkH
import Derived.Test.YtloieaoglpjffaaS3PkZ
set_option maxRecDepth 10000
namespace Go.Vc
open Go Go.Proofs

/-- The program's writer and the document's, side by side. -/
def Duo (h : Hp) (D : Nat → Prop) (p q : Nat) (w : Wr) : Prop := ∃ B C, WrAt h B p w ∧ QrAt h C q w ∧ (∀ b, B b → ¬ C b) ∧ (∀ b, B b → D b) ∧ (∀ b, C b → D b) ∧ ∀ b, D b → b < h.size

/-- What an item makes of a writer. -/
def wF (w : Wr) (i : It) : Wr := if i.kind = 1 then w.uint i.n else if i.kind = 2 then w.fixed i.n i.k else if i.kind = 3 then w.text (bl i.s) else if i.kind = 4 then w.bits i.a i.k else if i.kind = 5 then w.raw (bl i.s) else w

theorem wF_len (w : Wr) (i : It) : (wF w i).b.length ≤ w.b.length + 18 + i.s.size := by
  have u1 := (uintG_len 9 i.n).2
  have u2 := (uintG_len 9 i.s.size).2
  unfold wF
  split
  · unfold Wr.uint uintL; split
    · simp only [List.length_append]; omega
    · omega
  split
  · unfold Wr.fixed; split
    · omega
    split
    · show w.b.length ≤ _; omega
    split
    · show w.b.length ≤ _; omega
    · simp only [List.length_append, beL_length]; omega
  split
  · unfold Wr.text uintL; split
    · simp only [List.length_append, bl_length]; omega
    · omega
  split
  · unfold Wr.bits; split
    · simp only [List.length_append]
      have : (bytesF i.a i.k).1.length ≤ 16 := by
        unfold bytesF
        split
        · simp
        · rename_i hw
          have hw : isW i.k = true := by simpa using hw
          have := isW_iff.1 hw
          split
          · simp
          · simp only [beL_length]; omega
      omega
    · omega
  split
  · unfold Wr.raw; split
    · simp only [List.length_append, bl_length]; omega
    · omega
  · omega

section
variable {h h1 h2 : Hp} {B C D E : Nat → Prop} {p q : Nat} {w w' : Wr}

theorem Duo.ext (U : Duo h D p q w) (x : Ext h h1) : Duo h1 D p q w := by
  obtain ⟨B, C, W, Q, a1, a2, a3, a4⟩ := U
  exact ⟨B, C, W.ext x, Q.ext x, a1, a2, a3, fun b hb => Nat.lt_of_lt_of_le (a4 b hb) x.size⟩
theorem Duo.other (U : Duo h D p q w) (y : Same E h h1) (hE : ∀ b, D b → ¬ E b) : Duo h1 D p q w := by
  obtain ⟨B, C, W, Q, a1, a2, a3, a4⟩ := U
  exact ⟨B, C, W.other y fun b hb => hE b (a2 b hb), Q.other y fun b hb => hE b (a3 b hb), a1, a2, a3, fun b hb => Nat.lt_of_lt_of_le (a4 b hb) y.size⟩
theorem Duo.lt (U : Duo h D p q w) : ∀ b, D b → b < h.size := by
  obtain ⟨B, C, W, Q, a1, a2, a3, a4⟩ := U
  exact a4
theorem Duo.more (U : Duo h D p q w) (hE : ∀ b, D b → E b) (hl : ∀ b, E b → b < h.size) : Duo h E p q w := by
  obtain ⟨B, C, W, Q, a1, a2, a3, a4⟩ := U
  exact ⟨B, C, W, Q, a1, fun b hb => hE b (a2 b hb), fun b hb => hE b (a3 b hb), hl⟩

theorem duo_step (hB : ∀ b, B b → b < h.size) (hBC : ∀ b, B b → ¬ C b) (hBD : ∀ b, B b → D b) (hCD : ∀ b, C b → D b) (hD : ∀ b, D b → b < h.size)
    (y1 : Same B h h1) (W1 : WrAt h1 (GrowB B h h1) p w') (y2 : Same C h1 h2) (Q2 : QrAt h2 (GrowB C h1 h2) q w') : Same D h h2 ∧ Duo h2 (GrowB D h h2) p q w' := by
  have z1 : Same D h h2 := (y1.more fun b hb _ => hBD b hb).trans y2 fun b hb _ => hCD b hb
  have s1 := y1.size
  have s2 := y2.size
  refine ⟨z1, GrowB B h h1, GrowB C h1 h2, W1.other y2 ?_, Q2, ?_, ?_, ?_, GrowB.lt hD z1.size⟩
  · rintro b (hb | hb) hc
    · exact hBC b hb hc
    · have := hD b (hCD b hc); omega
  · rintro b (hb | hb) (hc | hc)
    · exact hBC b hb hc
    · have := hB b hb; omega
    · have := hD b (hCD b hc); omega
    · omega
  · rintro b (hb | hb)
    · exact .inl (hBD b hb)
    · exact .inr ⟨hb.1, by omega⟩
  · rintro b (hb | hb)
    · exact .inl (hCD b hb)
    · exact .inr ⟨by omega, hb.2⟩

set_option maxHeartbeats 1000000 in
/-- turnoutlaw03.writes -/
theorem writes_c (U : Duo h D p q w) (i : It) (ok : i.Ok) (hl : w.b.length + i.s.size ≤ 140737488340000) :
    CallsH Try.prog 11 #[vP p, vP q, .agg (itV i).toArray] h fun e h' => Same D h h' ∧ Duo h' (GrowB D h h') p q (wF w i) ∧ e = .returned (.bool true) := by
  refine V11 _ _ _ _ _ _ _ _ _ h _ ?_
  intro b h1 hb e1
  have x1 : Ext h h1 := by rw [e1]; exact Ext.push _ _
  have c1 : h1[b]? = some (.cells (itV i).toArray 36) := by rw [e1, hb]; exact push_last
  clear e1
  have lb := (Array.getElem?_eq_some_iff.1 c1).1
  obtain ⟨B, C, W, Q, hBC, hBD, hCD, hD⟩ := U
  have nB : ¬ B b := fun hh => by have := hD _ (hBD _ hh); omega
  have W1 := W.ext x1
  have Q1 := Q.ext x1
  have hCB : ∀ x, C x → ¬ B x := fun x hc hb => hBC x hb hc
  have keep : ∀ {hz : Hp}, Same B h1 hz → hz[b]? = some (.cells (itV i).toArray 36) := fun y => (y.old b lb nB).trans c1
  have hD1 : ∀ b, D b → b < h1.size := fun b hb => Nat.lt_of_lt_of_le (hD b hb) x1.size
  have step : ∀ {hy hz : Hp} {w' : Wr}, Same B h1 hy → WrAt hy (GrowB B h1 hy) p w' → Same C hy hz → QrAt hz (GrowB C hy hz) q w' → w' = wF w i → Same D h1 hz ∧ Duo hz (GrowB D h1 hz) p q (wF w i) := by
    rintro hy hz w' y1 Wy y2 Qz rfl
    exact duo_step W1.lt hBC hBD hCD hD1 y1 Wy y2 Qz
  have fin : ∀ {hz : Hp}, Same D h1 hz ∧ Duo hz (GrowB D h1 hz) p q (wF w i) → Same D h hz ∧ Duo hz (GrowB D h hz) p q (wF w i) := by
    rintro hz ⟨y, Uz⟩
    have y' : Same D h hz := (x1.same D).trans y fun _ h _ => h
    refine ⟨y', Uz.more (fun x hx => ?_) (GrowB.lt hD y'.size)⟩
    have := x1.size
    rcases hx with hx | hx
    · exact .inl hx
    · exact .inr ⟨by omega, hx.2⟩
  have Dm1 : wF w i = w → Duo h1 (GrowB D h1 h1) p q (wF w i) := fun e => by
    rw [e]; exact Duo.more ⟨B, C, W1, Q1, hBC, hBD, hCD, hD1⟩ (fun _ h => .inl h) (GrowB.lt hD1 (Nat.le_refl _))
  refine ⟨fun l hr => l = [] ∧ Same D h1 hr ∧ Duo hr (GrowB D h1 hr) p q (wF w i), ⟨_, cellsAt_one (cellH_at c1), fun k1 => ?_, fun k1 => ?_⟩, ?_⟩
  · have k1 : i.kind = 1 := of_decide_eq_true k1
    refine ⟨_, cellsAt_one (cellH_at c1), (wuint_c W1 i.n ok.n (by omega)).mono ?_⟩
    rintro e h2 ⟨y2, W2, rfl⟩
    refine ⟨rfl, _, cellsAt_one (cellH_at (keep y2)), (ruint_w (Q1.other y2 hCB) i.n ok.n (by omega)).mono ?_⟩
    rintro e h3 ⟨rfl, y3, Q3⟩
    exact ⟨rfl, rfl, step y2 W2 y3 Q3 (by unfold wF; rw [if_pos k1])⟩
  have k1 : i.kind ≠ 1 := of_decide_eq_false k1
  refine ⟨fun k2 => ?_, fun k2 => ?_⟩
  · have k2 : i.kind = 2 := of_decide_eq_true k2
    refine ⟨_, cellsAt_one (cellH_at c1), _, cellsAt_one (cellH_at c1), (wfixed_c W1 i.n i.k ok.w0 (by omega)).mono ?_⟩
    rintro e h2 ⟨y2, W2, rfl⟩
    refine ⟨rfl, _, cellsAt_one (cellH_at (keep y2)), _, cellsAt_one (cellH_at (keep y2)), (rfixed_w (Q1.other y2 hCB) i.n ok.n i.k (by omega)).mono ?_⟩
    rintro e h3 ⟨rfl, y3, Q3⟩
    exact ⟨rfl, rfl, step y2 W2 y3 Q3 (by unfold wF; rw [if_neg k1, if_pos k2])⟩
  have k2 : i.kind ≠ 2 := of_decide_eq_false k2
  refine ⟨fun k3 => ?_, fun k3 => ?_⟩
  · have k3 : i.kind = 3 := of_decide_eq_true k3
    refine ⟨_, cellsAt_one (cellH_at c1), (wtext_c W1 i.s (by omega)).mono ?_⟩
    rintro e h2 ⟨y2, W2, rfl⟩
    refine ⟨rfl, _, cellsAt_one (cellH_at (keep y2)), (rtext_w (Q1.other y2 hCB) i.s (by omega)).mono ?_⟩
    rintro e h3 ⟨rfl, y3, Q3⟩
    exact ⟨rfl, rfl, step y2 W2 y3 Q3 (by unfold wF; rw [if_neg k1, if_neg k2, if_pos k3])⟩
  have k3 : i.kind ≠ 3 := of_decide_eq_false k3
  refine ⟨fun k4 => ?_, fun k4 => ?_⟩
  · have k4 : i.kind = 4 := of_decide_eq_true k4
    refine ⟨_, _, ⟨cellH_at c1, cellH_at c1, trivial⟩, _, cellsAt_one (cellH_at c1), (wbits_c W1 i.a ok.a i.k (by omega)).mono ?_⟩
    rintro e h2 ⟨y2, W2, rfl⟩
    refine ⟨rfl, _, _, ⟨cellH_at (keep y2), cellH_at (keep y2), trivial⟩, _, cellsAt_one (cellH_at (keep y2)), (rbits_w (Q1.other y2 hCB) i.a ok.a i.k (by omega)).mono ?_⟩
    rintro e h3 ⟨rfl, y3, Q3⟩
    exact ⟨rfl, rfl, step y2 W2 y3 Q3 (by unfold wF; rw [if_neg k1, if_neg k2, if_neg k3, if_pos k4])⟩
  have k4 : i.kind ≠ 4 := of_decide_eq_false k4
  refine ⟨fun k5 => ?_, fun k5 => ?_⟩
  · have k5 : i.kind = 5 := of_decide_eq_true k5
    refine ⟨_, cellsAt_one (cellH_at c1), (wraw_c W1 i.s (by omega)).mono ?_⟩
    rintro e h2 ⟨y2, W2, rfl⟩
    refine ⟨rfl, _, cellsAt_one (cellH_at (keep y2)), (rraw_w (Q1.other y2 hCB) i.s (by omega)).mono ?_⟩
    rintro e h3 ⟨rfl, y3, Q3⟩
    exact ⟨rfl, rfl, step y2 W2 y3 Q3 (by unfold wF; rw [if_neg k1, if_neg k2, if_neg k3, if_neg k4, if_pos k5])⟩
  have k5 : i.kind ≠ 5 := of_decide_eq_false k5
  have eF : wF w i = w := by unfold wF; rw [if_neg k1, if_neg k2, if_neg k3, if_neg k4, if_neg k5]
  refine ⟨fun k6 => ?_, fun k6 => ⟨rfl, Same.refl _ _, Dm1 eF⟩⟩
  · refine (wout_c W1).mono ?_
    rintro e h2 ⟨x2, rfl⟩
    refine ⟨_, _, rfl, (rout_w (Q1.ext x2)).mono ?_⟩
    rintro e h3 ⟨x3, rfl⟩
    refine ⟨_, _, rfl, true, ⟨fun _ => ⟨rfl, (decide_eq_true rfl).symm⟩, fun hf => absurd rfl (of_decide_eq_false hf)⟩, ?_⟩
    have x13 := x2.trans x3
    obtain ⟨f1, f2⟩ := fin ⟨x13.same D, ((Dm1 eF).ext x13).more (E := GrowB D h1 h3) (fun b hb => by
      rcases hb with hb | hb
      · exact .inl hb
      · omega) (GrowB.lt hD1 x13.size)⟩
    exact ⟨f1, f2, rfl⟩
  · rintro h2 ⟨_, y2, U2⟩
    obtain ⟨f1, f2⟩ := fin ⟨y2, U2⟩
    obtain ⟨B', C', W', Q', _⟩ := U2
    obtain ⟨q', c', Q'⟩ := Q'
    refine ⟨fun hr => hr = h2, rfl, (wlen_c W').mono ?_⟩
    rintro e h3 ⟨rfl, rfl⟩
    exact ⟨_, rfl, rfl, q, 0, rfl, _, _, _, fun hr hc => (by rw [hc]; exact cellsAt_one (cellH_at Q'.cell)), f1, f2, by rw [decide_eq_true rfl]⟩

end

theorem qnew {h h1 : Hp} (e : h1 = h.push (.cells #[.slice none 0 0, vZ 0] 31)) : QrAt h1 (fun x => x = h.size) h.size Wr.new := by
  have c : h1[h.size]? = some (.cells #[.slice none 0 0, vZ 0] 31) := by rw [e]; exact push_last
  exact ⟨none, 0, c, Own.nil _ _ _ _, rfl, fun b hb => (by cases hb), fun b hb => by rw [show b = h.size from hb, e]; simp⟩

def lastIt : It := ⟨false, 6, 0, 0, ⟨#[]⟩, 0⟩
theorem last_ok : lastIt.Ok := ⟨by decide, by decide, by decide, by decide, by decide, by decide, by decide⟩

set_option maxHeartbeats 1000000 in
/-- turnoutlaw03.PackWrites -/
theorem writes_law (l : List It) (hok : ∀ x ∈ l, x.Ok) (hl : l.length ≤ 2199023255488) (h : Hp) {P0 : Option Addr} {n c : Nat} (sg : SegS h P0 n 7 (l.map itV)) :
    CallsH Try.prog 3 #[.slice P0 n c] h (RetX (.bool true) h) := by
  have hn : l.length = n := by have := sg.1; simpa using this
  refine V3 _ _ _ h _ ((awake_c h).mono ?_)
  rintro e h1 ⟨rfl, x1⟩
  refine ⟨_, rfl, (light_c l hok h1 (sg.ext x1) hl).mono ?_⟩
  rintro e h2 ⟨x2, bv0, rfl, hb⟩
  have x02 := x1.trans x2
  refine ⟨_, rfl, fun _ => ⟨rfl, x02⟩, fun hbt => ?_⟩
  have hv : heavy l ≤ 1048576 := hb (by simpa using hbt)
  have hsz : ∀ i ∈ l, i.s.size ≤ 16777216 := by
    intro i hi
    have := heavy_mem hi
    omega
  refine (wnew_c h2).mono ?_
  rintro e h3 ⟨x3, W3, rfl⟩
  refine ⟨_, rfl, (wnew_c h3).mono ?_⟩
  rintro e h4 ⟨x4, W4, rfl⟩
  refine ⟨_, rfl, fun l hr => l = [] ∧ hr = h4, ⟨false, ⟨fun hf => (by cases hf), fun _ => ⟨false, eqv_ptr uPW _, fun hf => (by cases hf), fun _ => ⟨false, eqv_ptr uPW _, rfl, rfl⟩⟩⟩, fun hf => (by cases hf), fun _ => ⟨rfl, rfl⟩⟩, ?_⟩
  rintro h4' ⟨_, rfl⟩
  intro b1 h5 hb1 e5 b2 h6 hb2 e6
  have Q5 := qnew e5
  have Q6 := qnew e6
  have x5 : Ext h4' h5 := by rw [e5]; exact Ext.push _ _
  have x6 : Ext h5 h6 := by rw [e6]; exact Ext.push _ _
  have s5 : h5.size = h4'.size + 1 := by rw [e5]; simp
  have s6 : h6.size = h5.size + 1 := by rw [e6]; simp
  have z2 := x02.size
  have z3 := x3.size
  have z4 := x4.size
  have x06 : Ext h h6 := (((x02.trans x3).trans x4).trans x5).trans x6
  rw [← hb1] at Q5
  rw [← hb2] at Q6
  clear e5 e6
  have hb1 : b1 = h4'.size := hb1
  have hb2 : b2 = h5.size := hb2
  have nb3 : ∀ b, GrowB NoB h2 h3 b → h2.size ≤ b ∧ b < h3.size := fun b hb => by rcases hb with hb | hb; exact hb.elim; exact hb
  have nb4 : ∀ b, GrowB NoB h3 h4' b → h3.size ≤ b ∧ b < h4'.size := fun b hb => by rcases hb with hb | hb; exact hb.elim; exact hb
  have U1 : Duo h6 (fun b => GrowB NoB h2 h3 b ∨ b = b1) h2.size b1 Wr.new :=
    ⟨_, _, (W3.ext x4).ext (x5.trans x6), Q5.ext x6, fun b hb hc => (by have := nb3 b hb; have hc : b = b1 := hc; omega), fun _ hb => .inl hb, fun _ hb => .inr hb, fun b hb => by
      rcases hb with hb | hb
      · have := nb3 b hb; omega
      · omega⟩
  have U2 : Duo h6 (fun b => GrowB NoB h3 h4' b ∨ b = b2) h3.size b2 Wr.new :=
    ⟨_, _, W4.ext (x5.trans x6), Q6, fun b hb hc => (by have := nb4 b hb; have hc : b = b2 := hc; omega), fun _ hb => .inl hb, fun _ hb => .inr hb, fun b hb => by
      rcases hb with hb | hb
      · have := nb4 b hb; omega
      · omega⟩
  have hdis : ∀ b, (GrowB NoB h2 h3 b ∨ b = b1) → ¬ (GrowB NoB h3 h4' b ∨ b = b2) := by
    rintro b (hb | hb) (hc | hc)
    · have := nb3 b hb; have := nb4 b hc; omega
    · have := nb3 b hb; omega
    · have := nb4 b hc; omega
    · omega
  have cell : ∀ {hz : Hp} {i : Nat}, Ext h hz → (hc : i < l.length) → ∃ b o, P0 = some ⟨b, o, none⟩ ∧ 0 ≤ (i : Int) ∧ (i : Int) < n ∧ cellsAt hz b (o + Int.toNat (i : Int) * 7) (itV l[i]) := by
    intro hz i xz hc
    obtain ⟨b, o, hp', g1, g2, g3⟩ := (sg.ext xz).at (i := i) (by simpa using hc)
    rw [List.getElem_map] at g3
    exact ⟨b, o, hp', g1, g2, g3⟩
  refine ⟨fun lv hr => ∃ (i : Nat) (D1 D2 : Nat → Prop) (w1 w2 : Wr), lv = [vI i] ∧ i ≤ l.length ∧ Ext h hr ∧ Duo hr D1 h2.size b1 w1 ∧ Duo hr D2 h3.size b2 w2 ∧ (∀ b, D1 b → ¬ D2 b) ∧ (∀ b, D1 b → h.size ≤ b) ∧ (∀ b, D2 b → h.size ≤ b) ∧ w1.b.length + w2.b.length ≤ 34 * heavy (l.take i),
    fun lv _ => (l.length - numAt lv 0).toNat, ⟨0, _, _, _, _, rfl, Nat.zero_le _, x06, U1, U2, hdis, ?_, ?_, Nat.zero_le _⟩, ?_⟩
  · rintro b (hb | hb)
    · have := nb3 b hb; omega
    · omega
  · rintro b (hb | hb)
    · have := nb4 b hb; omega
    · omega
  clear U1 U2 hdis
  rintro iv h7 ⟨i, D1, D2, w1, w2, hlv, hi, x7, U1, U2, hdis, g1, g2, hlen⟩
  cases hlv
  have hh := heavy_le (l := l) i
  refine ⟨fun hc => ?_, fun hc => ?_⟩
  · have hc : i < l.length := by have := of_decide_eq_true hc; omega
    obtain ⟨b, o, hP, k1, k2, k3⟩ := cell x7 hc
    have hmem := List.getElem_mem hc
    have hs := hsz _ hmem
    have ht := heavy_take hc
    refine ⟨b, o, hP, k1, k2, _, ⟨k3.1, trivial⟩, fun ho => ⟨b, o, hP, k1, k2, _, _, _, _, _, _, _, k3, (writes_c U2 l[i] (hok _ hmem) (by omega)).mono ?_⟩, fun ho => ⟨b, o, hP, k1, k2, _, _, _, _, _, _, _, k3, (writes_c U1 l[i] (hok _ hmem) (by omega)).mono ?_⟩⟩
    · rintro e h8 ⟨y8, V8, rfl⟩
      have wl := wF_len w2 l[i]
      refine ⟨_, rfl, fun hf => (by cases hf), fun _ => ⟨_, incI (by omega), ⟨i + 1, D1, _, w1, _, rfl, hc, x7.over y8 g2, U1.other y8 hdis, V8, ?_, g1, GrowB.old g2 x7.size, by omega⟩, by simp only [numAt]; omega⟩⟩
      rintro b hb (hd | hd)
      · exact hdis b hb hd
      · have := U1.lt b hb; omega
    · rintro e h8 ⟨y8, V8, rfl⟩
      have wl := wF_len w1 l[i]
      refine ⟨_, rfl, fun hf => (by cases hf), fun _ => ⟨_, incI (by omega), ⟨i + 1, _, D2, _, w2, rfl, hc, x7.over y8 g1, V8, U2.other y8 fun b hb hd => hdis b hd hb, ?_, GrowB.old g1 x7.size, g2, by omega⟩, by simp only [numAt]; omega⟩⟩
      rintro b (hb | hb) hd
      · exact hdis b hb hd
      · have := U2.lt b hd; omega
  · have e0 : lastIt.s.size = 0 := rfl
    refine (writes_c U1 lastIt last_ok (by omega)).mono ?_
    rintro e h8 ⟨y8, _, rfl⟩
    refine ⟨_, rfl, (writes_c (U2.other y8 fun b hb hd => hdis b hd hb) lastIt last_ok (by omega)).mono ?_⟩
    rintro e h9 ⟨y9, _, rfl⟩
    exact ⟨_, rfl, true, ⟨fun _ => ⟨rfl, rfl⟩, fun hf => (by cases hf)⟩, rfl, (x7.over y8 g1).over y9 g2⟩

end Go.Vc
