/- PackForms: what is read, written again, is the bytes. -/
import Derived.Test.YtloieaoglpjffaaS3PkE
import Derived.Test.YtloieaoglpjffaaPkN
set_option maxRecDepth 10000
namespace Go.Vc
open Go Go.Proofs

theorem tx_take (s : ByteArray) (a : Nat) : tx ((bl s).take a) = s.extract 0 a := by
  apply bl_inj; rw [bl_tx, bl_extract, List.drop_zero, Nat.sub_zero]

set_option maxHeartbeats 4000000 in
/-- turnoutlaw03.PackForms -/
theorem forms_law (s : ByteArray) (hs : s.size ≤ 140737488351232) (l : List Wa) (hok : ∀ x ∈ l, x.Ok) (hl : l.length ≤ 4398046510976) (h : Hp) {P0 : Option Addr} {n c : Nat} (sg : SegS h P0 n 4 (l.map waV)) :
    CallsH Try.prog 6 #[.string s, .slice P0 n c] h (RetX (.bool true) h) := by
  have hn : l.length = n := by have := sg.1; simpa using this
  have hbl : (bl s).length = s.size := bl_length s
  refine V6 _ _ _ _ h _ ((awake_c h).mono ?_)
  rintro e h1 ⟨rfl, x1⟩
  refine ⟨_, rfl, (wnew_c h1).mono ?_⟩
  rintro e h2 ⟨x2, W2, rfl⟩
  obtain ⟨q, hq⟩ : ∃ q, q = h1.size := ⟨_, rfl⟩
  rw [← hq] at W2 ⊢
  have b2 : ∀ b, GrowB NoB h1 h2 b → h.size ≤ b := fun b hb => by have := x1.size; rcases hb with hb | hb; exact hb.elim; omega
  refine ⟨_, rfl, (ropen_c s (by omega) h2).mono ?_⟩
  rintro e h3 ⟨x3, R3, rfl⟩
  obtain ⟨p, hp⟩ : ∃ p, p = h2.size := ⟨_, rfl⟩
  rw [← hp] at R3 ⊢
  have x03 := (x1.trans x2).trans x3
  have hpge : h.size ≤ p := by have := (x1.trans x2).size; omega
  have nB2 : ¬ GrowB NoB h1 h2 p := fun hb => by have := W2.lt _ hb; omega
  have sz2 := x2.size
  have W3 := W2.ext x3
  generalize GrowB NoB h1 h2 = B0 at W3 b2 nB2
  refine ⟨_, rfl, fun _ hr => hr = h3, ⟨false, ⟨fun hf => (by cases hf), fun _ => ⟨false, eqv_ptr uPW _, fun hf => (by cases hf), fun _ => ⟨false, eqv_ptr uPR _, rfl, rfl⟩⟩⟩, fun hf => (by cases hf), fun _ => rfl⟩, ?_⟩
  rintro h3' rfl
  -- between two steps
  refine ⟨fun lv hr => ∃ (i a : Nat) (B : Nat → Prop), lv = [vI i] ∧ i ≤ l.length ∧ Ext h hr ∧ RdAt hr p ⟨bl s, a, 0, 0⟩ ∧ WrAt hr B q ⟨(bl s).take a, 0⟩ ∧ ¬ B p ∧ (∀ y, B y → h.size ≤ y), fun lv _ => (l.length - numAt lv 0).toNat,
    ⟨0, 0, B0, rfl, Nat.zero_le _, x03, R3, by simpa [Wr.new] using W3, nB2, b2⟩, ?_⟩
  rintro iv h4 ⟨i, a, B, hlv, hi, x4, R4, W4, nB, bB⟩
  cases hlv
  have aok := R4.ok.at_
  have ha : a ≤ s.size := by rw [← hbl]; exact aok
  have hout : (⟨(bl s).take a, 0⟩ : Wr).out = ((bl s).take a, 0) := by unfold Wr.out; rw [if_neg (by simp)]
  refine ⟨fun hc => ?_, fun hc => ?_⟩
  · have hc : i < l.length := by have := of_decide_eq_true hc; omega
    obtain ⟨w, hw⟩ : ∃ w, w = l[i] := ⟨_, rfl⟩
    have wok : w.Ok := by rw [hw]; exact hok _ (List.getElem_mem hc)
    have w1 := wok.w1
    refine (rat_c R4).mono ?_
    rintro e h5 ⟨rfl, rfl⟩
    refine ⟨_, rfl, ?_⟩
    intro b1 h6 hb1 e6
    have x6 : Ext h5 h6 := by rw [e6]; exact Ext.push _ _
    have c6 : h6[b1]? = some (.cells #[vU 0, vU 0] 34) := by rw [e6, hb1, zerosBits]; exact push_last
    clear e6
    obtain ⟨p1, p2, p3, p4⟩ := two_put c6 0 0
    refine ⟨infoBits, p1, p2, p3, ?_⟩
    intro h7 e7
    have c7 : h7[b1]? = some (.cells #[vU 0, vU 0] 34) := by rw [e7]; exact p4
    have x57 : Ext h5 h7 := by rw [e7]; exact x6.over (setsH_same (B := fun x => x = b1) rfl) fun x hx => by omega
    clear e7
    have x7 := x4.trans x57
    have R7 := R4.ext x57
    have W7 := W4.ext x57
    have lp7 := R4.lt
    have nb1p : b1 ≠ p := by omega
    have nBb1 : ¬ B b1 := fun hb => by have := W4.lt _ hb; omega
    have sg7 := sg.ext x7
    have hrow : (l.map waV)[i]'(by simpa using hc) = waV w := by rw [List.getElem_map, ← hw]
    have cell7 : ∀ {hz : Hp}, Ext h hz → ∃ b o, P0 = some ⟨b, o, none⟩ ∧ 0 ≤ (i : Int) ∧ (i : Int) < n ∧ ∀ j v, (waV w)[j]? = some v → cellsAt hz b ((o + Int.toNat (i : Int) * 4) + j) [v] := by
      intro hz xz
      obtain ⟨b, o, hp', g1, g2, g3⟩ := (sg.ext xz).get (i := i) (by simpa using hc)
      rw [hrow] at g3
      exact ⟨b, o, hp', g1, g2, g3⟩
    -- what was read
    obtain ⟨r, hr⟩ : ∃ r : Rd, r = ⟨bl s, a, 0, 0⟩ := ⟨_, rfl⟩
    rw [← hr] at R7
    have hr0 : r.e = 0 := by rw [hr]
    have step : ∀ (hz : Hp) (g : Got) (r' : Rd), Same (P1 p) h7 hz → RdAt hz p r' → rdStep w.kind w.most w.k r = (g, r') → hz[b1]? = some (.cells #[vU (g.a / 2 ^ 64), vU (g.a % 2 ^ 64)] 34) →
        ∃ g r', rdStep w.kind w.most w.k r = (g, r') ∧ Ext h hz ∧ RdAt hz p r' ∧ WrAt hz B q ⟨(bl s).take a, 0⟩ ∧ hz[b1]? = some (.cells #[vU (g.a / 2 ^ 64), vU (g.a % 2 ^ 64)] 34) ∧ [Value.int .u64 (g.n : Int), Value.string (tx g.s)] = [Value.int .u64 (g.n : Int), Value.string (tx g.s)] := by
      intro hz g r' y Rz eg cz
      exact ⟨g, r', eg, x7.over y fun b hb => by rw [show b = p from hb]; exact hpge, Rz, W7.other y fun b hb e => nB (by rw [← show b = p from e]; exact hb), cz, rfl⟩
    refine ⟨fun lv hz => ∃ g r', lv = [Value.int .u64 (g.n : Int), Value.string (tx g.s)] ∧ rdStep w.kind w.most w.k r = (g, r') ∧ Ext h hz ∧ RdAt hz p r' ∧ WrAt hz B q ⟨(bl s).take a, 0⟩ ∧ hz[b1]? = some (.cells #[vU (g.a / 2 ^ 64), vU (g.a % 2 ^ 64)] 34), ?_, ?_⟩
    · have put : ∀ (hz : Hp) (g : Got) (r' : Rd) (lv : List Value), lv = [Value.int .u64 (g.n : Int), Value.string (tx g.s)] → Same (P1 p) h7 hz → RdAt hz p r' → rdStep w.kind w.most w.k r = (g, r') → hz[b1]? = some (.cells #[vU (g.a / 2 ^ 64), vU (g.a % 2 ^ 64)] 34) →
          ∃ g r', lv = [Value.int .u64 (g.n : Int), Value.string (tx g.s)] ∧ rdStep w.kind w.most w.k r = (g, r') ∧ Ext h hz ∧ RdAt hz p r' ∧ WrAt hz B q ⟨(bl s).take a, 0⟩ ∧ hz[b1]? = some (.cells #[vU (g.a / 2 ^ 64), vU (g.a % 2 ^ 64)] 34) := by
        intro hz g r' lv el y Rz eg cz
        exact ⟨g, r', el, eg, x7.over y fun b hb => by rw [show b = p from hb]; exact hpge, Rz, W7.other y fun b hb e => nB (by rw [← show b = p from e]; exact hb), cz⟩
      have lb7 := (Array.getElem?_eq_some_iff.1 c7).1
      have kc : ∀ {hz : Hp}, Same (P1 p) h7 hz → hz[b1]? = some (.cells #[vU (0 / 2 ^ 64), vU (0 % 2 ^ 64)] 34) := fun y => (y.old b1 lb7 (by show ¬ b1 = p; exact nb1p)).trans c7
      obtain ⟨b, o, hP, g1, g2, g3⟩ := cell7 x7
      refine ⟨b, o, hP, g1, g2, w.kind, g3 1 _ rfl, fun k1 => ?_, fun k1 => ?_⟩
      · have k1 : w.kind = 1 := of_decide_eq_true k1
        refine ⟨b, o, hP, g1, g2, _, g3 2 _ rfl, (ruint_c R7 w.most).mono ?_⟩
        rintro e h8 ⟨y8, R8, rfl⟩
        exact ⟨_, rfl, put h8 ⟨(r.uint w.most).1, [], 0⟩ _ _ rfl y8 R8 (by unfold rdStep; rw [if_pos k1]) (kc y8)⟩
      have k1 : w.kind ≠ 1 := of_decide_eq_false k1
      refine ⟨fun k2 => ?_, fun k2 => ?_⟩
      · have k2 : w.kind = 2 := of_decide_eq_true k2
        refine ⟨b, o, hP, g1, g2, _, g3 3 _ rfl, (rfixed_c R7 w.k w1).mono ?_⟩
        rintro e h8 ⟨y8, R8, rfl⟩
        exact ⟨_, rfl, put h8 ⟨(r.fixed w.k).1, [], 0⟩ _ _ rfl y8 R8 (by unfold rdStep; rw [if_neg k1, if_pos k2]) (kc y8)⟩
      have k2 : w.kind ≠ 2 := of_decide_eq_false k2
      refine ⟨fun k3 => ?_, fun k3 => ?_⟩
      · have k3 : w.kind = 3 := of_decide_eq_true k3
        refine ⟨b, o, hP, g1, g2, _, g3 3 _ rfl, (rtext_c R7 w.k w1).mono ?_⟩
        rintro e h8 ⟨y8, R8, rfl⟩
        exact ⟨_, rfl, put h8 ⟨0, (r.text w.k).1, 0⟩ _ _ rfl y8 R8 (by unfold rdStep; rw [if_neg k1, if_neg k2, if_pos k3]) (kc y8)⟩
      have k3 : w.kind ≠ 3 := of_decide_eq_false k3
      refine ⟨fun k4 => ?_, fun k4 => ?_⟩
      · have k4 : w.kind = 4 := of_decide_eq_true k4
        refine ⟨b, o, hP, g1, g2, _, g3 3 _ rfl, (rbits_c R7 w.k).mono ?_⟩
        rintro e h8 ⟨y8, R8, rfl⟩
        obtain ⟨p1, p2, p3, p4⟩ := two_put (kc y8) (((r.bits w.k).1 / 2 ^ 64 : Nat) : Int) (((r.bits w.k).1 % 2 ^ 64 : Nat) : Int)
        refine ⟨_, _, rfl, p1, p2, p3, ?_⟩
        intro h9 e9
        have yz : Same (fun x => x = b1) h8 h9 := by rw [e9]; exact setsH_same rfl
        refine ⟨⟨0, [], (r.bits w.k).1⟩, (r.bits w.k).2, rfl, by unfold rdStep; rw [if_neg k1, if_neg k2, if_neg k3, if_pos k4], ?_, R8.other yz (by omega), ?_, by rw [e9]; exact p4⟩
        · exact (x7.over y8 fun b hb => by rw [show b = p from hb]; exact hpge).over yz fun x hx => by have := x4.size; omega
        · exact (W7.other y8 fun b hb e => nB (by rw [← show b = p from e]; exact hb)).other yz fun b hb e => nBb1 (by rw [← show b = b1 from e]; exact hb)
      have k4 : w.kind ≠ 4 := of_decide_eq_false k4
      refine ⟨fun k5 => ?_, fun k5 => ?_⟩
      · have k5 : w.kind = 5 := of_decide_eq_true k5
        refine ⟨b, o, hP, g1, g2, _, g3 3 _ rfl, (rraw_c R7 w.k w1).mono ?_⟩
        rintro e h8 ⟨y8, R8, rfl⟩
        exact ⟨_, rfl, put h8 ⟨0, (r.raw w.k).1, 0⟩ _ _ rfl y8 R8 (by unfold rdStep; rw [if_neg k1, if_neg k2, if_neg k3, if_neg k4, if_pos k5]) (kc y8)⟩
      have k5 : w.kind ≠ 5 := of_decide_eq_false k5
      exact put h7 Got.no r _ rfl (Same.refl _ _) R7 (by unfold rdStep; rw [if_neg k1, if_neg k2, if_neg k3, if_neg k4, if_neg k5]) c7
    -- what came of it
    clear step
    rintro gn gs h8 ⟨g, r', hgl, eg, x8, R8, W8, c8⟩
    cases hgl
    refine (rfault_c R8).mono ?_
    rintro e h8' ⟨rfl, rfl⟩
    refine ⟨_, _, rfl, ?_⟩
    have hll : r.left.length = s.size - a := by rw [r.left_length, hr, hbl]
    rcases forms_law_step w.kind w.most w.k hr0 with ⟨c, hc0, eg'⟩ | ⟨j, g', hj, eg', hwr, hgn, hgs, hga⟩
    · -- an error
      rw [eg] at eg'
      obtain ⟨rfl, rfl⟩ := Prod.mk.inj eg'
      have ebad : r.bad c = ⟨bl s, a, c, a⟩ := by rw [hr]; rfl
      rw [ebad] at R8 ⊢
      refine ⟨fun _ => (wout_c W8).mono ?_, fun hf => absurd hc0 (by simpa using hf)⟩
      rintro e h9 ⟨x9, rfl⟩
      rw [hout]
      refine ⟨_, _, rfl, fun _ => ⟨a, rfl, Nat.zero_le _, ha, _, rfl, fun _ => ⟨fun _ => (rat_c (R8.ext x9)).mono ?_, fun hf => by simp at hf⟩, fun hf => absurd (tx_take s a) (of_decide_eq_false hf)⟩, fun hf => by simp at hf⟩
      rintro e h10 ⟨rfl, rfl⟩
      have c9 := (x9.old b1 (Array.getElem?_eq_some_iff.1 c8).1).trans c8
      refine ⟨_, rfl, fun _ => ⟨fun _ => ⟨fun _ => ⟨0, 0, cellsAt_all (vs := [vU 0, vU 0]) c9, true, eqv_ints (n := 2) (k := .u64) (by kernel_rfl) [0, 0] [0, 0] rfl rfl, fun _ => (rend_c (R8.ext x9)).mono ?_, fun hf => by cases hf⟩, fun hf => ?_⟩, fun hf => by simp [Got.no] at hf⟩, fun hf => by simp at hf⟩
      · rintro e h11 ⟨rfl, rfl⟩
        have ef : (⟨bl s, a, c, a⟩ : Rd).fin = c := by unfold Rd.fin; rw [if_neg (by intro hh; exact hc0 hh.1)]
        rw [ef]
        exact ⟨_, rfl, by simp, x8.trans x9⟩
      · exact absurd (show tx Got.no.s = (⟨#[]⟩ : ByteArray) from rfl) (of_decide_eq_false hf)
    · rw [eg] at eg'
      obtain ⟨rfl, rfl⟩ := Prod.mk.inj eg'
      have eto : r.to j = ⟨bl s, a + j, 0, 0⟩ := by rw [hr]; rfl
      rw [eto] at R8 ⊢
      have htake : (bl s).take a ++ r.left.take j = (bl s).take (a + j) := by rw [hr, List.take_add]; rfl
      have haj : a + j ≤ s.size := by omega
      have hlen : ((bl s).take a).length = a := by rw [List.length_take]; omega
      have hwr := hwr ((bl s).take a)
      rw [htake] at hwr
      refine ⟨fun hf => by simp at hf, fun _ => ⟨fun _ hz => ∃ B', Ext h hz ∧ RdAt hz p ⟨bl s, a + j, 0, 0⟩ ∧ WrAt hz B' q ⟨(bl s).take (a + j), 0⟩ ∧ ¬ B' p ∧ (∀ y, B' y → h.size ≤ y), ?_, ?_⟩⟩
      · have put : ∀ (hz : Hp) (W' : Wr), Same B h8' hz → WrAt hz (GrowB B h8' hz) q W' → wrStep w.kind w.k g ⟨(bl s).take a, 0⟩ = W' →
            ∃ B', Ext h hz ∧ RdAt hz p ⟨bl s, a + j, 0, 0⟩ ∧ WrAt hz B' q ⟨(bl s).take (a + j), 0⟩ ∧ ¬ B' p ∧ (∀ y, B' y → h.size ≤ y) := by
          intro hz W' y Wz e
          rw [hwr] at e
          rw [← e] at Wz
          have lp8 := R8.lt
          refine ⟨_, x8.over y bB, R8.other y nB, Wz, ?_, GrowB.old bB x8.size⟩
          rintro (hb | hb)
          · exact nB hb
          · omega
        obtain ⟨b, o, hP, g1, g2, g3⟩ := cell7 x8
        have hb15 : (⟨(bl s).take a, 0⟩ : Wr).b.length ≤ 140737488355000 := by show ((bl s).take a).length ≤ _; rw [hlen]; omega
        have hts : (tx g.s).size ≤ s.size - a := by rw [tx_size]; omega
        have hbs : (⟨(bl s).take a, 0⟩ : Wr).b.length + (tx g.s).size ≤ 140737488355000 := by show ((bl s).take a).length + _ ≤ _; rw [hlen]; omega
        have hbt : bl (tx g.s) = g.s := bl_tx _
        refine ⟨b, o, hP, g1, g2, w.kind, g3 1 _ rfl, fun k1 => ?_, fun k1 => ?_⟩
        · have k1 : w.kind = 1 := of_decide_eq_true k1
          refine (wuint_c W8 g.n hgn hb15).mono ?_
          rintro e h9 ⟨y9, W9, rfl⟩
          exact ⟨rfl, put h9 _ y9 W9 (by unfold wrStep; rw [if_pos k1])⟩
        have k1 : w.kind ≠ 1 := of_decide_eq_false k1
        refine ⟨fun k2 => ?_, fun k2 => ?_⟩
        · have k2 : w.kind = 2 := of_decide_eq_true k2
          refine ⟨b, o, hP, g1, g2, _, g3 3 _ rfl, (wfixed_c W8 g.n w.k wok.w0 hb15).mono ?_⟩
          rintro e h9 ⟨y9, W9, rfl⟩
          exact ⟨rfl, put h9 _ y9 W9 (by unfold wrStep; rw [if_neg k1, if_pos k2])⟩
        have k2 : w.kind ≠ 2 := of_decide_eq_false k2
        refine ⟨fun k3 => ?_, fun k3 => ?_⟩
        · have k3 : w.kind = 3 := of_decide_eq_true k3
          refine (wtext_c W8 (tx g.s) hbs).mono ?_
          rintro e h9 ⟨y9, W9, rfl⟩
          rw [hbt] at W9
          exact ⟨rfl, put h9 _ y9 W9 (by unfold wrStep; rw [if_neg k1, if_neg k2, if_pos k3])⟩
        have k3 : w.kind ≠ 3 := of_decide_eq_false k3
        refine ⟨fun k4 => ?_, fun k4 => ?_⟩
        · have k4 : w.kind = 4 := of_decide_eq_true k4
          refine ⟨_, _, cellsAt_all (vs := [vU (g.a / 2 ^ 64), vU (g.a % 2 ^ 64)]) c8, b, o, hP, g1, g2, _, g3 3 _ rfl, (wbits_c W8 g.a hga w.k hb15).mono ?_⟩
          rintro e h9 ⟨y9, W9, rfl⟩
          exact ⟨rfl, put h9 _ y9 W9 (by unfold wrStep; rw [if_neg k1, if_neg k2, if_neg k3, if_pos k4])⟩
        have k4 : w.kind ≠ 4 := of_decide_eq_false k4
        refine ⟨fun k5 => ?_, fun k5 => ?_⟩
        · have k5 : w.kind = 5 := of_decide_eq_true k5
          refine (wraw_c W8 (tx g.s) hbs).mono ?_
          rintro e h9 ⟨y9, W9, rfl⟩
          rw [hbt] at W9
          exact ⟨rfl, put h9 _ y9 W9 (by unfold wrStep; rw [if_neg k1, if_neg k2, if_neg k3, if_neg k4, if_pos k5])⟩
        have k5 : w.kind ≠ 5 := of_decide_eq_false k5
        exact put h8' _ (Same.refl _ _) W8.grow (by unfold wrStep; rw [if_neg k1, if_neg k2, if_neg k3, if_neg k4, if_neg k5])
      rintro h9 ⟨B', x9, R9, W9, nB', bB'⟩
      refine (rat_c R9).mono ?_
      rintro e h10 ⟨rfl, rfl⟩
      refine ⟨_, rfl, fun hf => by have hf := of_decide_eq_true hf; simp only at hf; omega, fun _ => (rat_c R9).mono ?_⟩
      rintro e h11 ⟨rfl, rfl⟩
      refine ⟨_, rfl, fun hf => by have hf := of_decide_eq_true hf; simp only at hf; omega, fun _ => (wlen_c W9).mono ?_⟩
      rintro e h12 ⟨rfl, rfl⟩
      refine ⟨_, rfl, (rat_c R9).mono ?_⟩
      rintro e h13 ⟨rfl, rfl⟩
      have hl2 : ((bl s).take (a + j)).length = a + j := by rw [List.length_take]; omega
      refine ⟨_, rfl, fun hf => ?_, fun _ => ⟨_, incI (by omega), ⟨i + 1, a + j, B', rfl, hc, x9, R9, W9, nB', bB'⟩, by simp only [numAt]; omega⟩⟩
      have := of_decide_eq_true hf
      exact absurd (congrArg Int.ofNat hl2) this
  · refine (wout_c W4).mono ?_
    rintro e h5 ⟨x5, rfl⟩
    rw [hout]
    refine ⟨_, _, rfl, fun _ => (rat_c (R4.ext x5)).mono ?_, fun hf => by simp at hf⟩
    rintro e h6 ⟨rfl, rfl⟩
    refine ⟨_, rfl, a, rfl, Nat.zero_le _, ha, _, rfl, fun _ => (rend_c (R4.ext x5)).mono ?_, fun hf => absurd (tx_take s a) (of_decide_eq_false hf)⟩
    rintro e h7 ⟨rfl, rfl⟩
    refine ⟨_, rfl, (rat_c (R4.ext x5)).mono ?_⟩
    rintro e h8 ⟨rfl, rfl⟩
    refine ⟨_, rfl, _, eqv_bool (by kernel_rfl) _ _, ?_, x4.trans x5⟩
    congr 2
    by_cases hae : a = s.size
    · have : (⟨bl s, a, 0, 0⟩ : Rd).fin = 0 := by unfold Rd.fin; rw [if_neg (by rintro ⟨_, hh⟩; simp only at hh; omega)]
      rw [this]
      simp [hae]
    · have : (⟨bl s, a, 0, 0⟩ : Rd).fin = 31 := by unfold Rd.fin; rw [if_pos ⟨rfl, by simp only; omega⟩]
      rw [this]
      have e1 : decide ((a : Int) = (s.size : Int)) = false := decide_eq_false (by omega)
      rw [e1]; rfl

end Go.Vc
