/- The packer: awake; nil writers and readers. -/
import Derived.Test.YtloieaoglpjffaaS3PkW
import Derived.Test.YtloieaoglpjffaaS3PkU
set_option maxRecDepth 10000
namespace Go.Vc
open Go Go.Proofs

/-- A thing that is written. -/
structure It where
  other : Bool
  kind : Int
  n : Nat
  k : Int
  s : ByteArray
  a : Nat

structure It.Ok (i : It) : Prop where
  k0 : -9223372036854775808 ≤ i.kind
  k1 : i.kind ≤ 9223372036854775807
  n : i.n < 18446744073709551616
  w0 : -9223372036854775808 ≤ i.k
  w1 : i.k ≤ 9223372036854775807
  s : i.s.size ≤ 140737488351232
  a : i.a < 2 ^ 128

def itV (i : It) : List Value := [.bool i.other, vZ i.kind, vU i.n, vZ i.k, .string i.s, vU (i.a / 2 ^ 64), vU (i.a % 2 ^ 64)]

/-- A thing that is read. -/
structure Wa where
  other : Bool
  kind : Int
  most : Nat
  k : Int

structure Wa.Ok (i : Wa) : Prop where
  k0 : -9223372036854775808 ≤ i.kind
  k1 : i.kind ≤ 9223372036854775807
  n : i.most < 18446744073709551616
  w0 : -9223372036854775808 ≤ i.k
  w1 : i.k ≤ 9223372036854775807

def waV (i : Wa) : List Value := [.bool i.other, vZ i.kind, vU i.most, vZ i.k]

/-- turnoutlaw03.awake -/
theorem awake_c (h : Hp) : CallsH Try.prog 8 #[] h (RetX (.bool true) h) := by
  refine V8 h _ ((wnew_c h).mono ?_)
  rintro e h1 ⟨x1, W1, rfl⟩
  have bw : ∀ (hx : Hp) (b : Nat), GrowB NoB h hx b → h.size ≤ b := fun hx b hb => by rcases hb with hb | hb; exact hb.elim; exact hb.1
  refine ⟨_, rfl, false, eqv_ptr uPW _, fun hf => (by cases hf), fun _ => (wuint_c W1 300 (by decide) (by decide)).mono ?_⟩
  rintro e h2 ⟨y2, W2, rfl⟩
  have x2 : Ext h h2 := x1.over y2 fun b hb => bw _ b hb
  have b2 : ∀ b, GrowB (GrowB NoB h h1) h1 h2 b → h.size ≤ b := GrowB.old (bw h1) x1.size
  refine ⟨rfl, (wfixed_c W2 258 2 (by decide) (by decide)).mono ?_⟩
  rintro e h3 ⟨y3, W3, rfl⟩
  have x3 : Ext h h3 := x2.over y3 b2
  have b3 := GrowB.old (b := h3) b2 x2.size
  refine ⟨rfl, (wtext_c W3 ⟨#[97, 98]⟩ (by decide)).mono ?_⟩
  rintro e h4 ⟨y4, W4, rfl⟩
  have x4 : Ext h h4 := x3.over y4 b3
  have b4 := GrowB.old (b := h4) b3 x3.size
  refine ⟨rfl, (wbits_c W4 258 (by decide) 12 (by decide)).mono ?_⟩
  rintro e h5 ⟨y5, W5, rfl⟩
  have x5 : Ext h h5 := x4.over y5 b4
  refine ⟨rfl, (wout_c W5).mono ?_⟩
  rintro e h6 ⟨x6, rfl⟩
  have eo : (Wr.bits (Wr.text (Wr.fixed (Wr.uint Wr.new 300) 258 2) (bl ⟨#[97, 98]⟩)) 258 12).out = ([172, 2, 1, 2, 2, 97, 98, 1, 2], 0) := by decide +kernel
  rw [eo]
  refine ⟨_, _, rfl, (ropen_c ⟨#[172, 2, 7]⟩ (by decide) h6).mono ?_⟩
  rintro e h7 ⟨x7, R7, rfl⟩
  have x07 := (x5.trans x6).trans x7
  refine ⟨_, rfl, false, eqv_ptr uPR _, fun hf => (by cases hf), fun _ => (ruint_c R7 300).mono ?_⟩
  rintro e h8 ⟨y8, R8, rfl⟩
  have x08 : Ext h h8 := x07.over y8 fun b hb => by have := (x5.trans x6).size; show h.size ≤ b; rw [show b = h6.size from hb]; exact this
  refine ⟨_, rfl, (rend_c R8).mono ?_⟩
  rintro e h9 ⟨rfl, rfl⟩
  have e1 : ((Rd.open (bl ⟨#[172, 2, 7]⟩)).uint 300).1 = 300 := by decide +kernel
  have e2 : ((Rd.open (bl ⟨#[172, 2, 7]⟩)).uint 300).2.fin = 31 := by decide +kernel
  rw [e1, e2]
  refine ⟨_, rfl, true, ⟨fun _ => ⟨fun _ => ⟨fun _ => ⟨rfl, rfl⟩, fun hf => by simp at hf⟩, fun hf => by simp at hf⟩, fun hf => ?_⟩, rfl, x08⟩
  have := of_decide_eq_false hf
  exact (this rfl).elim

/-- turnoutlaw03.PackNil -/
theorem nil_law (i : It) (x : Wa) (h : Hp) : CallsH Try.prog 7 #[.agg (itV i).toArray, .agg (waV x).toArray] h (RetX (.bool true) h) := by
  refine V7 _ _ _ _ _ _ _ _ _ _ _ h _ ?_
  intro b h1 hb e1
  have x1 : Ext h h1 := by rw [e1]; exact Ext.push _ _
  have c1 : h1[b]? = some (.cells (itV i).toArray 36) := by rw [e1, hb]; exact push_last
  clear e1
  intro d h2 hd e2
  have x2 : Ext h1 h2 := by rw [e2]; exact Ext.push _ _
  have d2 : h2[d]? = some (.cells (waV x).toArray 45) := by rw [e2, hd]; exact push_last
  clear e2
  have lb := (Array.getElem?_eq_some_iff.1 c1).1
  have c2 := (x2.old b lb).trans c1
  have lb2 := (Array.getElem?_eq_some_iff.1 c2).1
  have ld2 := (Array.getElem?_eq_some_iff.1 d2).1
  have x02 := x1.trans x2
  refine (awake_c h2).mono ?_
  rintro e h3 ⟨rfl, x3⟩
  have c3 := (x3.old b lb2).trans c2
  have d3 := (x3.old d ld2).trans d2
  have x03 := x02.trans x3
  refine ⟨_, rfl, _, cellsAt_one (cellH_at c3), (wuint_nil _).mono ?_⟩
  rintro e h4 ⟨rfl, rfl⟩
  refine ⟨rfl, _, cellsAt_one (cellH_at c3), _, cellsAt_one (cellH_at c3), (wfixed_nil _ _).mono ?_⟩
  rintro e h5 ⟨rfl, rfl⟩
  refine ⟨rfl, _, cellsAt_one (cellH_at c3), (wtext_nil _).mono ?_⟩
  rintro e h6 ⟨rfl, rfl⟩
  refine ⟨rfl, _, _, ⟨cellH_at c3, cellH_at c3, trivial⟩, _, cellsAt_one (cellH_at c3), (wbits_nil i.a i.k).mono ?_⟩
  rintro e h7 ⟨x7, rfl⟩
  have c7 := (x7.old b (Array.getElem?_eq_some_iff.1 c3).1).trans c3
  have d7 := (x7.old d (Array.getElem?_eq_some_iff.1 d3).1).trans d3
  have x07 := x03.trans x7
  refine ⟨rfl, _, cellsAt_one (cellH_at c7), (wraw_nil _).mono ?_⟩
  rintro e h8 ⟨rfl, rfl⟩
  refine ⟨rfl, wout_nil.mono ?_⟩
  rintro e h9 ⟨rfl, rfl⟩
  refine ⟨_, _, rfl, _, cellsAt_one (cellH_at d7), (ruint_nil _).mono ?_⟩
  rintro e h10 ⟨x10, rfl⟩
  have d10 := (x10.old d (Array.getElem?_eq_some_iff.1 d7).1).trans d7
  refine ⟨_, rfl, _, cellsAt_one (cellH_at d10), (rfixed_nil _).mono ?_⟩
  rintro e h11 ⟨x11, rfl⟩
  have d11 := (x11.old d (Array.getElem?_eq_some_iff.1 d10).1).trans d10
  refine ⟨_, rfl, _, cellsAt_one (cellH_at d11), (rtext_nil _).mono ?_⟩
  rintro e h12 ⟨x12, rfl⟩
  have d12 := (x12.old d (Array.getElem?_eq_some_iff.1 d11).1).trans d11
  refine ⟨_, rfl, _, cellsAt_one (cellH_at d12), (rbits_nil _).mono ?_⟩
  rintro e h13 ⟨x13, rfl⟩
  have d13 := (x13.old d (Array.getElem?_eq_some_iff.1 d12).1).trans d12
  refine ⟨_, _, rfl, ?_⟩
  intro z h14 hz e14
  have x14 : Ext h13 h14 := by rw [e14]; exact Ext.push _ _
  have cz : h14[z]? = some (.cells #[vU 0, vU 0] 34) := by rw [e14, hz, zerosBits]; exact push_last
  clear e14
  have d14 := (x14.old d (Array.getElem?_eq_some_iff.1 d13).1).trans d13
  obtain ⟨p1, p2, p3, p4⟩ := two_put cz 0 0
  refine ⟨infoBits, p1, p2, p3, ?_⟩
  intro h15 e15
  have cz15 : h15[z]? = some (.cells #[vU 0, vU 0] 34) := by rw [e15]; exact p4
  have ldd := (Array.getElem?_eq_some_iff.1 d13).1
  have d15 : h15[d]? = some (.cells (waV x).toArray 45) := by rw [e15]; exact (setsH_ne (by omega)).trans d14
  have x1314 := ((((x07.trans x10).trans x11).trans x12).trans x13).trans x14
  have x015 : Ext h h15 := by
    rw [e15]
    have := ((((x07.trans x10).trans x11).trans x12).trans x13).size
    exact x1314.over (setsH_same (B := fun x => x = z) rfl) fun x hx => by omega
  clear e15
  refine ⟨_, cellsAt_one (cellH_at d15), (rraw_nil _).mono ?_⟩
  rintro e h16 ⟨x16, rfl⟩
  have cz16 := (x16.old z (Array.getElem?_eq_some_iff.1 cz15).1).trans cz15
  refine ⟨_, rfl, rfault_nil.mono ?_⟩
  rintro e h17 ⟨rfl, rfl⟩
  refine ⟨_, _, rfl, rend_nil.mono ?_⟩
  rintro e h18 ⟨rfl, rfl⟩
  refine ⟨_, rfl, fun l hr => l = [.bool true] ∧ hr = h18, wlen_nil.mono ?_, ?_⟩
  · rintro e h19 ⟨rfl, rfl⟩
    exact ⟨_, rfl, fun _ => ⟨fun _ => ⟨rfl, rfl⟩, fun hf => by simp at hf⟩, fun hf => by simp at hf⟩
  rintro one h19 ⟨hl, rfl⟩
  cases hl
  refine ⟨fun _ => ⟨fun _ => ⟨fun _ => ⟨fun _ => ⟨fun _ => ⟨0, 0, cellsAt_all (vs := [vU 0, vU 0]) cz16, true, eqv_ints (n := 2) (k := .u64) (by kernel_rfl) [0, 0] [0, 0] rfl rfl, fun _ => ⟨fun _ => rat_nil.mono ?_, fun hf => by simp at hf⟩, fun hf => by cases hf⟩, fun hf => by simp at hf⟩, fun hf => by simp at hf⟩, fun hf => by simp at hf⟩, fun hf => by cases hf⟩, fun hf => by cases hf⟩
  rintro e h20 ⟨rfl, rfl⟩
  exact ⟨_, rfl, fun _ => ⟨fun _ => ⟨fun _ => ⟨rfl, x015.trans x16⟩, fun hf => by simp at hf⟩, fun hf => by simp at hf⟩, fun hf => by simp at hf⟩

end Go.Vc
