/- FrameTurned: the walk. -/
import Derived.Test.YtomdlmjibojcoaaDoorS5FrU
import Derived.Test.YtomdlmjibojcoaaDoorS5FrN
import Derived.Test.YtomdlmjibojcoaaDoorBuN
set_option maxRecDepth 10000
namespace Go.Vc
open Go Go.Proofs

/-- A text's bytes in a block of their own. -/
def TextAt (h : Hp) (b : Nat) (L : List UInt8) : Prop := ∃ (c : Nat) (cur : Array Value), h[b]? = some (.cells cur 5 (c, c + 1)) ∧ cur.size = c ∧ L.length ≤ c ∧ cur.toList.take L.length = byteVs L

theorem TextAt.cell {h : Hp} {b : Nat} {L : List UInt8} (t : TextAt h b L) {i : Nat} (hi : i < L.length) : cellsAt h b (0 + Int.toNat (i : Int) * 1) [vB L[i]] := by
  obtain ⟨c, cur, e, hs, hl, ht⟩ := t
  rw [Int.toNat_natCast, Nat.mul_one]
  refine cellsAt_of e fun j hj => ?_
  obtain rfl : j = 0 := by simpa using hj
  have : (cur.toList.take L.length)[i]? = cur[0 + i + 0]? := by rw [List.getElem?_take_of_lt hi, Array.getElem?_toList, Nat.zero_add, Nat.add_zero]
  rw [← this, ht]
  simp only [byteVs, List.getElem?_map, List.getElem?_eq_getElem hi]
  rfl

theorem TextAt.put {h : Hp} {b : Nat} {L : List UInt8} (t : TextAt h b L) {i : Nat} (hi : i < L.length) (x : UInt8) : wrAt h b (0 + Int.toNat (i : Int) * 1) 1 ∧ TextAt (setsH h b (0 + Int.toNat (i : Int) * 1) [vB x]) b (L.set i x) := by
  obtain ⟨c, cur, e, hs, hl, ht⟩ := t
  rw [Int.toNat_natCast, Nat.mul_one, Nat.zero_add]
  refine ⟨wrAt_of e (by omega) (.inr (.inl (by omega))), c, _, setsH_at e, by rw [layC_size]; exact hs, by rw [List.length_set]; exact hl, ?_⟩
  rw [List.length_set]
  apply List.ext_getElem?
  intro k
  rcases Nat.lt_or_ge k L.length with hk | hk
  · rw [List.getElem?_take_of_lt hk, Array.getElem?_toList, layC_get (by omega)]
    have h0 : cur[k]? = (byteVs L)[k]? := by rw [← ht, List.getElem?_take_of_lt hk, Array.getElem?_toList]
    by_cases hki : k = i
    · subst hki
      rw [if_pos ⟨by omega, by simp⟩]
      simp only [byteVs, List.getElem?_map, List.getElem?_set_self hi, Nat.sub_self]
      rfl
    · rw [if_neg (by intro hc; have := hc.1; have := hc.2; simp at this; omega), h0]
      simp only [byteVs, List.getElem?_map, List.getElem?_set_ne (Ne.symm hki)]
  · rw [List.getElem?_eq_none (by rw [List.length_take]; omega), List.getElem?_eq_none (by rw [byteVs_length, List.length_set]; exact hk)]

theorem TextAt.seg {h : Hp} {b : Nat} {L : List UInt8} (t : TextAt h b L) {n : Nat} (hn : L.length = n) : Seg h (some ⟨b, 0, none⟩) n (byteVs L) := by
  obtain ⟨c, cur, e, hs, hl, ht⟩ := t
  refine ⟨by rw [byteVs_length]; exact hn, .inr ⟨b, 0, rfl, cellsAt_of e fun j hj => ?_⟩⟩
  have hj' : j < L.length := by rw [byteVs_length] at hj; exact hj
  rw [← List.getElem?_eq_getElem hj, ← ht, List.getElem?_take_of_lt hj', Array.getElem?_toList, Nat.zero_add]

theorem toBytes_at {h : Hp} {t : ByteArray} {R : Value → Hp → Prop} (hR : ∀ c h', Ext h h' → TextAt h' h.size (bl t) → R (.slice (some ⟨h.size, 0, none⟩) t.size c) h') {s d : TypeId} (hs : Tryd.prog.underlying s = some .string) (hd : Tryd.prog.underlying d = some (.slice 5)) (he : Tryd.prog.underlying 5 = some (.int .u8)) :
    SemH Tryd.prog (convert s d (.string t)) h R := by
  refine semH_toBytes hs hd he fun c cur hcs hbc htk => hR c _ (Ext.push _ _) ⟨c, cur, push_last, hcs, by rw [bl_length]; exact hbc, by rw [bl_length]; exact htk⟩

theorem xorL_zeros_right' : ∀ l : List UInt8, xorL l (List.replicate l.length 0) = l
  | [] => rfl
  | a :: r => by rw [List.length_cons, List.replicate_succ, xorL, xorL_zeros_right' r, UInt8.xor_zero]

theorem xorL_append : ∀ (a b c d : List UInt8), a.length = c.length → xorL (a ++ b) (c ++ d) = xorL a c ++ xorL b d
  | [], _, [], _, _ => rfl
  | x :: a, b, y :: c, d, h => by rw [List.cons_append, List.cons_append, xorL, xorL, xorL_append a b c d (by simpa using h)]; rfl

theorem xorL_set {x y : List UInt8} {i : Nat} (hx : i < x.length) (hy : i < y.length) (c : UInt8) : (xorL x y).set i (x[i] ^^^ c) = xorL x (y.set i c) := by
  induction x generalizing y i with
  | nil => cases hx
  | cons a r ih =>
    cases y with
    | nil => cases hy
    | cons d s =>
      cases i with
      | zero => rfl
      | succ i =>
        simp only [xorL, List.set_cons_succ, List.getElem_cons_succ]
        rw [ih (by simpa using hx) (by simpa using hy)]

theorem xorL_get {x y : List UInt8} {i : Nat} (hx : i < x.length) (hy : i < y.length) (h : i < (xorL x y).length) : (xorL x y)[i] = x[i] ^^^ y[i] := by
  induction x generalizing y i with
  | nil => cases hx
  | cons a r ih =>
    cases y with
    | nil => cases hy
    | cons d s =>
      cases i with
      | zero => rfl
      | succ i =>
        simp only [xorL, List.getElem_cons_succ]
        exact ih _ _ _

theorem shr32x (n k : Nat) (hk : k ≤ 32) : shrI .u32 (n : Int) (k : Int) = ((n / 2 ^ k : Nat) : Int) := by
  unfold shrI
  rw [show IntKind.u32.bits = 32 from rfl, Int.toNat_natCast, Nat.min_eq_left hk, show (2 : Int) ^ k = ((2 ^ k : Nat) : Int) by simp]
  exact (Int.ofNat_fdiv _ _).symm

theorem open_marks {s : ByteArray} (h : s.size = 512) (hne : (bl s).getD 0 0 ≠ (bl s).getD 511 0) : openF s = (Frm.no, 0, 50) := by
  unfold openF; rw [if_neg (by omega), if_pos hne]

theorem add_other (m : UInt8) {k : Nat} (h : k < 255) : m + UInt8.ofNat (1 + k) ≠ m := by
  intro e
  have := congrArg UInt8.toNat e
  rw [UInt8.toNat_add, u8_nat] at this
  have := m.toNat_lt
  omega

set_option maxHeartbeats 2000000 in
/-- turnoutlaw05.FrameTurned -/
theorem turned_law (raw : Frm) (ok : raw.Ok) (mark at_ : Int) (bits : W32) (hm0 : -9223372036854775808 ≤ mark) (hm1 : mark ≤ 9223372036854775807) (ha0 : -9223372036854775808 ≤ at_) (ha1 : at_ ≤ 9223372036854775807) (h : Hp) (hh : Halves h) :
    CallsH Tryd.prog 7 #[.agg (frmV raw).toArray, vZ mark, vZ at_, vW bits] h (RetX (.bool true) h) := by
  refine V7 _ _ _ _ _ _ _ h _ ?_
  intro b h1 hb e1
  have x1 : Ext h h1 := by rw [e1]; exact Ext.push _ _
  have c1 : h1[h.size]? = some (.cells (frmV raw).toArray 24) := by rw [e1]; exact push_last
  clear e1
  subst hb
  refine (awake_c h1 (hh.ext x1)).mono ?_
  rintro e h2 ⟨x2, rfl⟩
  refine ⟨_, rfl, _, _, _, _, cellsAt_all (vs := frmV raw) (x2.frm c1), (right_c raw ok h2).mono ?_⟩
  rintro e h3 ⟨x3, rfl⟩
  have R := rightF_right ok.n (f := raw)
  have x03 := (x1.trans x2).trans x3
  refine ⟨_, _, _, _, rfl, frm_new (rightF raw) fun b1 h4 hb1 x4 c4 => ?_⟩
  generalize rightF raw = f at R c4
  refine ⟨fun hz => hz[b1]? = some (.cells (frmV f).toArray 24), c4, _, _, _, _, fun hz hc => cellsAt_all (vs := frmV f) hc, (pick_c mark 256 (by decide) hm0 hm1 h4).mono ?_⟩
  rintro e h5 ⟨rfl, rfl⟩
  have hp := pickN_lt mark (show 0 < 256 by decide)
  have x05 := x03.trans x4
  refine ⟨_, rfl, c4, (seal_c f R.ok _ h5 (hh.ext x05)).mono ?_⟩
  rintro e h6 ⟨x6, rfl⟩
  have hse : sealF f (pickN mark 256 : Int) = (tx (sealL f (UInt8.ofNat (pickN mark 256))), 0) := by
    unfold sealF
    rw [if_neg (by omega), if_neg (by rw [R.wrong]; simp), Int.toNat_natCast]
  rw [hse]
  generalize UInt8.ofNat (pickN mark 256) = m
  have x06 := x05.trans x6
  have sz : (tx (sealL f m)).size = 512 := by rw [tx_size, sealL_length R.b]
  have hL : (sealL f m).length = 512 := sealL_length R.b m
  obtain ⟨mk0, mk1⟩ := seal_mark (f := f) (m := m) R.b
  refine ⟨_, _, rfl, x6.frm c4, fun l hr => l = [] ∧ hr = h6, ⟨false, ⟨fun hf => (by cases hf), fun _ => ⟨fun hf => (by simp at hf), fun _ => ⟨rfl, by rw [sz]; simp⟩⟩⟩, fun hB => (by cases hB), fun _ => ⟨rfl, rfl⟩⟩, ?_⟩
  rintro h6' ⟨_, rfl⟩
  have hbl : bl (tx (sealL f m)) = sealL f m := bl_tx _
  have hk := pickN_lt at_ (show 0 < 255 by decide)
  have wrapK : ∀ x : UInt8, IntKind.u8.wrap ((x.toNat : Int) + IntKind.u8.wrap ((1 + pickN at_ 255 : Nat) : Int)) = ((x + UInt8.ofNat (1 + pickN at_ 255)).toNat : Int) := by
    intro x
    rw [wrapU8, wrapU8, UInt8.toNat_add, u8_nat]; omega
  refine toBytes_at (fun c h7 x7 t7 => ?_) uStr uBs uB
  rw [hbl] at t7
  refine ⟨_, _, _, rfl, fun hz => TextAt hz h6'.size (sealL f m), t7, _, _, rfl, by decide, by rw [sz]; decide, (((sealL f m)[0]'(by omega)).toNat : Int), fun hz hc => hc.cell (i := 0) (by omega), (pick_c at_ 255 (by decide) ha0 ha1 h7).mono ?_⟩
  rintro e h8 ⟨rfl, rfl⟩
  obtain ⟨w8, t8⟩ := t7.put (i := 0) (by omega) ((sealL f m)[0]'(by omega) + UInt8.ofNat (1 + pickN at_ 255))
  refine ⟨_, rfl, t7, ((1 + pickN at_ 255 : Nat) : Int), by rw [wrapI64] <;> omega, _, rfl, _, wrapK _, _, _, rfl, by decide, by rw [sz]; decide, rfl, w8, ?_⟩
  rintro h9 rfl
  have x79 : Ext h6' (setsH h8 h6'.size (0 + Int.toNat ((0 : Nat) : Int) * 1) [vB ((sealL f m)[0]'(by omega) + UInt8.ofNat (1 + pickN at_ 255))]) := x7.over (setsH_same (B := fun x => x = h6'.size) rfl) fun x hx => by omega
  have hm0' : (sealL f m)[0]'(by omega) = m := by
    have := mk0; rw [List.getD_eq_getElem?_getD, List.getElem?_eq_getElem (by omega)] at this; exact this
  have hl0 : ((sealL f m).set 0 ((sealL f m)[0]'(by omega) + UInt8.ofNat (1 + pickN at_ 255))).length = 512 := by rw [List.length_set]; exact hL
  have x09 := x06.trans x79
  have sg := t8.seg (n := (tx (sealL f m)).size) (by rw [hl0, sz])
  refine semH_toText uBs uB uStr (t := tx ((sealL f m).set 0 ((sealL f m)[0]'(by omega) + UInt8.ofNat (1 + pickN at_ 255)))) (by rw [show (tx ((sealL f m).set 0 ((sealL f m)[0]'(by omega) + UInt8.ofNat (1 + pickN at_ 255)))).data.toList = _ from bl_tx _]; exact sg) ⟨_, rfl, ?_⟩
  refine (open_c _ _ (hh.ext x09)).mono ?_
  rintro e h10 ⟨x10, rfl⟩
  rw [open_marks (by rw [tx_size]; exact hl0) (by
    rw [bl_tx, List.getD_eq_getElem?_getD, List.getElem?_set_self (by omega), List.getD_eq_getElem?_getD, List.getElem?_set_ne (by decide), ← List.getD_eq_getElem?_getD, mk1, hm0']
    exact add_other m hk)]
  refine ⟨_, _, _, _, _, _, rfl, frm_new Frm.no fun b4 h11 hb4 x11 c11 => ?_⟩
  have x011 := (x09.trans x10).trans x11
  refine toBytes_at (fun c' h12 x12 t12 => ?_) uStr uBs uB
  rw [hbl] at t12
  refine ⟨_, _, _, rfl, fun hz => TextAt hz h11.size (sealL f m), t12, _, _, rfl, by decide, by rw [sz]; decide, (((sealL f m)[511]'(by omega)).toNat : Int), fun hz hc => hc.cell (i := 511) (by omega), (pick_c at_ 255 (by decide) ha0 ha1 h12).mono ?_⟩
  rintro e h13 ⟨rfl, rfl⟩
  obtain ⟨w13, t13⟩ := t12.put (i := 511) (by omega) ((sealL f m)[511]'(by omega) + UInt8.ofNat (1 + pickN at_ 255))
  refine ⟨_, rfl, t12, ((1 + pickN at_ 255 : Nat) : Int), by rw [wrapI64] <;> omega, _, rfl, _, wrapK _, _, _, rfl, by decide, by rw [sz]; decide, rfl, w13, ?_⟩
  rintro h14 rfl
  have x1214 : Ext h11 (setsH h13 h11.size (0 + Int.toNat ((511 : Nat) : Int) * 1) [vB ((sealL f m)[511]'(by omega) + UInt8.ofNat (1 + pickN at_ 255))]) := x12.over (setsH_same (B := fun x => x = h11.size) rfl) fun x hx => by omega
  have hm511 : (sealL f m)[511]'(by omega) = m := by
    have := mk1; rw [List.getD_eq_getElem?_getD, List.getElem?_eq_getElem (by omega)] at this; exact this
  have hl511 : ((sealL f m).set 511 ((sealL f m)[511]'(by omega) + UInt8.ofNat (1 + pickN at_ 255))).length = 512 := by rw [List.length_set]; exact hL
  have x014 := x011.trans x1214
  have sg2 := t13.seg (n := (tx (sealL f m)).size) (by rw [hl511, sz])
  refine semH_toText uBs uB uStr (t := tx ((sealL f m).set 511 ((sealL f m)[511]'(by omega) + UInt8.ofNat (1 + pickN at_ 255)))) (by rw [show (tx ((sealL f m).set 511 ((sealL f m)[511]'(by omega) + UInt8.ofNat (1 + pickN at_ 255)))).data.toList = _ from bl_tx _]; exact sg2) ⟨_, rfl, ?_⟩
  refine (open_c _ _ (hh.ext x014)).mono ?_
  rintro e h15 ⟨x15, rfl⟩
  rw [open_marks (by rw [tx_size]; exact hl511) (by
    rw [bl_tx, List.getD_eq_getElem?_getD (i := 511), List.getElem?_set_self (by omega), List.getD_eq_getElem?_getD, List.getElem?_set_ne (by decide), ← List.getD_eq_getElem?_getD, mk0, hm511]
    exact fun e => add_other m hk e.symm)]
  refine ⟨_, _, _, _, _, _, rfl, frm_new Frm.no fun b7 h16 hb7 x16 c16 => ?_⟩
  have x016 := (x014.trans x15).trans x16
  refine ⟨fun l hr => l = [] ∧ hr = h16, ⟨false, ⟨fun hf => (by simp at hf), fun _ => ⟨rfl, by simp⟩⟩, fun hB => (by cases hB), fun _ => ⟨rfl, rfl⟩⟩, ?_⟩
  rintro h16' ⟨_, rfl⟩
  refine ⟨fun l hr => ∃ w : Nat, l = [.int .u32 (w : Int)] ∧ hr = h16' ∧ w ≠ 0 ∧ w < 2 ^ 32, ⟨fun hz => ⟨1, rfl, rfl, by decide, by decide⟩, fun hz => ⟨bits.toNat, rfl, rfl, by simpa using hz, bits.isLt⟩⟩, ?_⟩
  rintro bb h17 ⟨w, hl, rfl, hw0, hw⟩
  cases hl
  refine toBytes_at (fun c3 h18 x18 t18 => ?_) uStr uBs uB
  rw [hbl] at t18
  refine ⟨_, _, _, rfl, (pick_c at_ 4049 (by decide) ha0 ha1 h18).mono ?_⟩
  rintro e h19 ⟨rfl, rfl⟩
  have hpl := pickN_lt at_ (show 0 < 4049 by decide)
  refine ⟨_, rfl, ((8 + pickN at_ 4049 : Nat) : Int), by rw [wrapI64] <;> omega, ?_⟩
  obtain ⟨P, hP⟩ : ∃ P, P = 8 + pickN at_ 4049 := ⟨_, rfl⟩
  rw [← hP]
  have hP8 : 8 ≤ P := by omega
  have hPt : P ≤ 4056 := by omega
  have xz : xorL (sealL f m) (turnD w P 0) = sealL f m := by rw [turnD_zero hPt, ← hL, xorL_zeros_right']
  refine ⟨fun l hr => ∃ i : Nat, i ≤ 32 ∧ l = [vI i] ∧ Ext h17 hr ∧ TextAt hr h17.size (xorL (sealL f m) (turnD w P i)), fun l _ => (32 - numAt l 0).toNat, ⟨0, by decide, rfl, x18, by rw [xz]; exact t18⟩, ?_⟩
  rintro iv h20 ⟨i, hi, hl, x20, t20⟩
  cases hl
  have hXl : (xorL (sealL f m) (turnD w P i)).length = 512 := by rw [xorL_len _ _ (by rw [hL, turnD_length hPt]), hL]
  refine ⟨fun hlt => ?_, fun hge => ?_⟩
  · have hlt : i < 32 := by simp at hlt; omega
    refine ⟨((31 - i : Nat) : Int), by rw [wrapI64] <;> omega, by omega, ((w / 2 ^ (31 - i) : Nat) : Int), shr32x w (31 - i) (by omega), by decide, ((w / 2 ^ (31 - i) % 2 : Nat) : Int), (Int.ofNat_tmod _ 2).symm, fun hc => ?_, fun hc => ?_⟩
    · have hc : w / 2 ^ (31 - i) % 2 = 1 := by have := of_decide_eq_true hc; omega
      obtain ⟨q, hq⟩ : ∃ q, q = (P + i) / 8 := ⟨_, rfl⟩
      have hq512 : q < 512 := by omega
      have e1 : IntKind.i64.wrap ((P : Int) + (i : Int)) = ((P + i : Nat) : Int) := by rw [wrapI64] <;> omega
      have e2 : IntKind.i64.wrap (Int.tdiv ((P + i : Nat) : Int) 8) = (q : Int) := by
        have : Int.tdiv ((P + i : Nat) : Int) 8 = (((P + i) / 8 : Nat) : Int) := (Int.ofNat_tdiv (P + i) 8).symm
        rw [this, ← hq, wrapI64] <;> omega
      have hx := turnD_yes (bits := w) hPt hlt hc
      rw [← hq] at hx
      have hq1 : q < (sealL f m).length := by omega
      have hq2 : q < (turnD w P i).length := by rw [turnD_length hPt]; exact hq512
      obtain ⟨z, hz⟩ : ∃ z, z = UInt8.ofNat (2 ^ ((P + i) % 8)) := ⟨_, rfl⟩
      obtain ⟨y, hy⟩ : ∃ y, y = (xorL (sealL f m) (turnD w P i))[q]'(by omega) := ⟨_, rfl⟩
      obtain ⟨w20, t21⟩ := t20.put (i := q) (by omega) (y ^^^ z)
      refine ⟨_, e1, by decide, _, e2, _, e1, by decide, _, e2, _, _, rfl, by omega, by rw [sz]; omega, (y.toNat : Int), by rw [hy]; exact t20.cell (i := q) (by omega), _, e1, by decide, (((P + i) % 8 : Nat) : Int), (Int.ofNat_tmod _ 8).symm, by omega, (z.toNat : Int), ?_, ((y ^^^ z).toNat : Int), ?_, _, _, rfl, by omega, by rw [sz]; omega, rfl, w20, ?_⟩
      · have key : ∀ r : Fin 8, shlI .u8 (1 : Int) ((r.val : Nat) : Int) = ((UInt8.ofNat (2 ^ r.val)).toNat : Int) := by decide +kernel
        rw [hz]
        exact key ⟨(P + i) % 8, Nat.mod_lt _ (by decide)⟩
      · exact xor8 y.toBitVec z.toBitVec
      · rintro h21 rfl
        refine ⟨_, incI (by omega), ⟨i + 1, by omega, rfl, x20.over (setsH_same (B := fun x => x = h17.size) rfl) fun x hx => by omega, ?_⟩, by simp only [numAt]; omega⟩
        rw [hx, ← hz, List.getD_eq_getElem?_getD, List.getElem?_eq_getElem hq2, Option.getD_some, ← xorL_set hq1 hq2, ← UInt8.xor_assoc, ← xorL_get hq1 hq2 (by rw [hXl]; exact hq512), ← hy]
        exact t21
    · have hc : ¬ w / 2 ^ (31 - i) % 2 = 1 := by have := of_decide_eq_false hc; omega
      exact ⟨_, incI (by omega), ⟨i + 1, by omega, rfl, x20, by rw [turnD_no hc]; exact t20⟩, by simp only [numAt]; omega⟩
  · have hi32 : i = 32 := by simp at hge; omega
    subst hi32
    obtain ⟨D, e, hDe, hD, he, hne⟩ := turnD_end hw0 hw hP8 hPt
    have hin : xorL (sealL f m) (turnD w P 32) = m :: (xorL (midL f) D ++ (xorL (leL (sumL (midL f))) e ++ [m])) := by
      rw [hDe]
      unfold sealL
      rw [xorL, UInt8.xor_zero, xorL_append _ _ _ _ (by rw [midL_length R.b, hD]), xorL_append _ _ _ _ (by rw [leL_length, he])]
      simp [xorL]
    have sg3 := t20.seg (n := (tx (sealL f m)).size) (by rw [hXl, sz])
    have x020 := x016.trans x20
    refine semH_toText uBs uB uStr (t := tx (xorL (sealL f m) (turnD w P 32))) (by rw [show (tx (xorL (sealL f m) (turnD w P 32))).data.toList = _ from bl_tx _]; exact sg3) ⟨_, rfl, ?_⟩
    refine (open_c _ _ (hh.ext x020)).mono ?_
    rintro e h21 ⟨x21, rfl⟩
    rw [hin, turned_told (midL_length R.b) hD he hne m]
    refine ⟨_, _, _, _, _, _, rfl, frm_new Frm.no fun b10 h22 hb10 x22 c22 => ?_⟩
    exact ⟨true, ⟨fun _ => ⟨_, _, _, _, cellsAt_all (vs := frmV Frm.no) c22, _, eqv_frm Frm.no Frm.no, fun _ => ⟨rfl, rfl⟩, fun hf => (by simp at hf)⟩, fun hf => (by simp at hf)⟩, rfl, (x020.trans x21).trans x22⟩

end Go.Vc
