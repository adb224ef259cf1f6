/- TopLongest: widths, kinds, tables, calls of the schema. -/
import Derived.Test.YtamhpfdcnfgngaaGreatTmC
set_option maxRecDepth 10000
namespace Go.Vc
open Go Go.Proofs Go.MapKept

theorem row76 : RowT Tryz.prog 76 3 1 8 := RowT.of (by kernel_rfl)
noncomputable abbrev zK : Array Value := zeros Tryz.prog 94
theorem info94 : ∃ i z, Tryz.prog.info? 94 = some i ∧ i.zero = some z := by
  have h : (Tryz.prog.info? 94).bind (·.zero) = some (.agg #[.string ⟨#[]⟩, .string ⟨#[]⟩, .int .i64 0]) := by kernel_rfl
  obtain ⟨i, h1, h2⟩ := Option.bind_eq_some_iff.1 h
  exact ⟨i, _, h1, h2⟩
theorem zK_size : zK.size = 3 := by kernel_rfl
noncomputable abbrev zT : Array Value := zeros Tryz.prog 73
theorem info73 : ∃ i z, Tryz.prog.info? 73 = some i ∧ i.zero = some z := by
  have h : (Tryz.prog.info? 73).bind (·.zero) = some (.agg #[.string ⟨#[]⟩, nilS, nilS, .int .i64 0, .string ⟨#[]⟩, nilS, .bool false]) := by kernel_rfl
  obtain ⟨i, h1, h2⟩ := Option.bind_eq_some_iff.1 h
  exact ⟨i, _, h1, h2⟩
theorem zT_size : zT.size = 7 := by kernel_rfl

section
variable {h : Hp} {w : Nat} {s : SB}

theorem Sch.tab_at (S : Sch h w s) (k : Bool) : ∃ b o, (some ⟨s.bt, 0, none⟩ : Option Addr) = some ⟨b, o, none⟩ ∧ 0 ≤ ((k.toNat : Nat) : Int) ∧ ((k.toNat : Nat) : Int) < ((2 : Nat) : Int) ∧ cellsAt h b (o + Int.toNat ((k.toNat : Nat) : Int) * 7) (s.tab k) := by
  obtain ⟨b, o, hp, g0, gn, hc⟩ := S.segT.at (i := k.toNat) (by cases k <;> simp [SB.tabs])
  refine ⟨b, o, hp, g0, gn, ?_⟩
  cases k <;> exact hc
theorem cellsAt_sub {h : Hp} {b o : Nat} {vs : List Value} (hc : cellsAt h b o vs) {j : Nat} {v : Value} (hj : vs[j]? = some v) : cellsAt h b (o + j) [v] := by
  obtain ⟨hl, he⟩ := List.getElem?_eq_some_iff.1 hj
  have := cellsAt_iff.1 hc j hl
  rw [he] at this
  exact cellsAt_one this

theorem widths_c (S : Sch h w s) (k : Bool) : CallsH Tryz.prog 16 #[s.val, .string (nm k)] h fun e h' => ∃ b c, h.size ≤ b ∧ Ext h h' ∧ Own h' h.size 3 1 (sl b 1 c) 1 [vI w] ∧ e = .returned (.tuple #[sl b 1 c, vZ 0]) := by
  refine V16 _ _ _ _ _ _ _ _ _ _ _ _ _ _ _ _ _ _ _ h _ ?_
  rintro b0 h0 rfl rfl
  have x0 : Ext h (h.push (.cells s.cells.toArray 36)) := Ext.push _ _
  have c0 := push_last (h := h) (o := .cells s.cells.toArray 36)
  refine ⟨_, _, _, _, _, _, _, _, _, _, _, _, _, _, _, _, _, _, cellsAt_all c0, (tableAt_c (S.ext x0) k).mono ?_⟩
  rintro en h1 ⟨rfl, x1⟩
  refine ⟨_, rfl, fun hf => ?_, fun _ => ?_⟩
  · have := of_decide_eq_true hf; omega
  have S1 := (S.ext x0).ext x1
  obtain ⟨b, o, hp, g0, gn, hc⟩ := S1.tab_at k
  refine ⟨_, _, _, cellsAt_one (cellH_at (x1.at c0)), b, o, hp, g0, gn, _, _, _, cellsAt_sub hc (j := 1) rfl, ?_⟩
  have xx := x0.trans x1
  refine ⟨fun vs hp => (vs = [nilS, vI 0] ∧ hp = h1) ∨ (∃ b c, vs = [sl b 1 c, vI 1] ∧ h.size ≤ b ∧ Ext h hp ∧ Own hp h.size 3 1 (sl b 1 c) 1 [vI w]), fun vs _ => 1 - (numAt (vs.drop 1) 0).toNat, .inl ⟨rfl, rfl⟩, ?_⟩
  rintro p n c x hp1 (⟨hv, rfl⟩ | ⟨b', c', hv, g1, g2, g3⟩)
  · cases hv
    refine ⟨fun _ => ?_, fun hf => absurd hf (by decide)⟩
    obtain ⟨b1, o1, e1, e2, e3, e4⟩ := (S1.segK k).at (i := 0) (by simp)
    refine ⟨b1, o1, e1, e2, e3, _, _, _, e4, ?_⟩
    rintro b3 h3 rfl rfl
    have x3 := Ext.push hp1 (.cells zK 94)
    refine ⟨info94, stoT (n := 3) (xx.trans x3) xx.size push_last rfl zK_size (by simp [Value.oneCell']) fun h5 x5 z5 c5 k5 => ?_⟩
    have x35 : Ext hp1 h5 := by
      refine ⟨by rw [z5]; exact x3.size, fun i hi => (k5 i (by omega)).trans (x3.old i hi)⟩
    refine ⟨_, _, _, _, _, _, _, _, _, _, _, _, _, _, _, _, _, _, cellsAt_all (x35.at (x1.at c0)), _, _, cellsAt_of c5 (vs := [.string sMeta, .string sTo]) (fun j hj => by
      match j, hj with
      | 0, _ => rfl
      | 1, _ => rfl), (width_c (S1.ext x35)).mono ?_⟩
    rintro en h6 ⟨rfl, x6⟩
    refine ⟨_, rfl, semH_push row76 (Own.nil h6 h.size 3 1) (vs := [vI w]) rfl rfl (by simp) (by simp) (by simp [Value.oneCell']) (by simp) (by simp [maxLen]) (((xx.trans x35).trans x6).size) fun p' c' h' ho hg _ _ => ?_⟩
    have xg : Ext h h' := ((xx.trans x35).trans x6).trans ⟨hg.size, fun b hb => hg.block b hb (by simp [Value.ownBlock])⟩
    refine ⟨1, rfl, .inr ?_, show 0 < 1 by decide⟩
    rcases ho.2 with ⟨_, hh⟩ | ⟨g, cap, cur, hv, hb, _⟩
    · cases hh
    · cases hv
      exact ⟨g, _, rfl, hb, xg, ho⟩
  · cases hv
    exact ⟨fun hf => absurd hf (by decide), fun _ => ⟨_, _, g1, g2, g3, rfl⟩⟩

/-! ### A table's kind -/

theorem clo89 {b : Nat} {q : Int} (hb : cellsAt h b 0 [vZ q]) (y0 y1 : ByteArray) (y2 : Int) : CallsH Tryz.prog 89 #[.agg #[.string y0, .string y1, .int .i64 y2], vP b] h (RetX (.bool (decide (numAt [.string y0, .string y1, .int .i64 y2] 2 = q))) h) := by
  refine V89 _ _ _ _ h _ ?_
  rintro b0 h0 rfl rfl
  have c0 : (h.push (.cells #[.string y0, .string y1, .int .i64 y2] 94))[h.size]? = some (.cells #[.string y0, .string y1, .int .i64 y2] 94) := push_last
  exact ⟨_, cellsAt_one (cellH_at c0), _, _, rfl, _, (Ext.push _ _).cells hb, rfl, Ext.push _ _⟩

theorem has_c {b bt c : Nat} {k : Bool} (hk : cellsAt h b 0 [.string sMeta, .string sTo, vI (kd k)]) (ht : cellsAt h bt 1 [sl b 1 c]) (q : Int) : CallsH Tryz.prog 87 #[vZ q, vP bt] h (RetX (.bool (decide ((kd k : Int) = q))) h) := by
  refine V87 _ _ h _ ?_
  rintro b0 h0 rfl rfl
  have x0 : Ext h (h.push (.cells #[.int .i64 q] 3)) := Ext.push _ _
  have c0 := push_last (h := h) (o := .cells #[.int .i64 q] 3)
  have sg : SegS (h.push (.cells #[.int .i64 q] 3)) (some ⟨b, 0, none⟩) 1 3 [[.string sMeta, .string sTo, vI (kd k)]] := seg_of rfl (by simp) (by simpa using x0.cells hk)
  have hs : ∀ r ∈ [[Value.string sMeta, .string sTo, vI (kd k)]], ∃ (y0 : ByteArray) (y1 : ByteArray) (y2 : Int), r = [.string y0, .string y1, .int .i64 y2] := by
    intro r hr
    simp only [List.mem_cons, List.not_mem_nil, or_false] at hr
    subst hr; exact ⟨_, _, _, rfl⟩
  have hp : ∀ r ∈ [[Value.string sMeta, .string sTo, vI (kd k)]], ∀ h', Ext (h.push (.cells #[.int .i64 q] 3)) h' → CallsH Tryz.prog 89 ((.agg r.toArray) :: (#[vP h.size] : Array Value).toList).toArray h' (RetX (.bool ((fun r => decide (numAt r 2 = q)) r)) h') := by
    intro r hr h' x'
    have hb := x'.cells (cellsAt_all (vs := [.int .i64 q]) c0)
    simp only [List.mem_cons, List.not_mem_nil, or_false] at hr
    subst hr; exact clo89 hb _ _ _
  refine ⟨bt, 0, rfl, _, _, _, x0.cells (by simpa using ht), V88 _ _ _ _ _ _ ?_⟩
  by_cases hq : (kd k : Int) = q
  · refine CallsH.mono (idx103_at sg (by omega) hs (by kernel_rfl) hp (k := 0) (by simp) (by exact decide_eq_true hq) (fun j hj => by cases hj)) ?_
    rintro en h2 ⟨rfl, x2⟩
    exact ⟨_, rfl, _, rfl, by rw [decide_eq_true hq]; rfl, x0.trans x2⟩
  · refine CallsH.mono (idx103_no sg (by omega) hs (by kernel_rfl) hp (fun r hr => ?_)) ?_
    · simp only [List.mem_cons, List.not_mem_nil, or_false] at hr
      subst hr; exact decide_eq_false hq
    rintro en h2 ⟨rfl, x2⟩
    exact ⟨_, rfl, _, rfl, by rw [decide_eq_false hq]; rfl, x0.trans x2⟩

theorem kind_c {b c : Nat} {k : Bool} (hk : cellsAt h b 0 [.string sMeta, .string sTo, vI (kd k)]) (n0 : ByteArray) (p1 : Option Addr) (n1 c1 : Nat) (z : Int) (s4 : ByteArray) (p5 : Option Addr) (n5 c5 : Nat) (f : Bool) :
    CallsH Tryz.prog 61 #[.agg #[.string n0, sl b 1 c, .slice p1 n1 c1, vZ z, .string s4, .slice p5 n5 c5, .bool f]] h (RetX (vI (kd k)) h) := by
  refine V61 _ _ _ _ _ _ _ _ _ _ _ _ _ h _ ?_
  rintro b0 h0 rfl rfl
  have x0 : Ext h (h.push (.cells #[.string n0, sl b 1 c, .slice p1 n1 c1, vZ z, .string s4, .slice p5 n5 c5, .bool f] 73)) := Ext.push _ _
  have c0 := push_last (h := h) (o := .cells #[.string n0, sl b 1 c, .slice p1 n1 c1, vZ z, .string s4, .slice p5 n5 c5, .bool f] 73)
  have ht := cellsAt_one (cellH_at c0 (o := 1))
  refine ⟨87, #[], #[vP h.size], rfl, by kernel_rfl, (has_c (x0.cells hk) (cellsAt_one (cellH_at c0)) 3).mono ?_⟩
  rintro en h1 ⟨rfl, x1⟩
  refine ⟨_, rfl, fun h3 => ?_, fun h3 => ?_⟩
  · cases k
    · exact absurd h3 (by decide)
    · exact ⟨rfl, x0.trans x1⟩
  refine ⟨87, #[], #[vP h.size], rfl, by kernel_rfl, (has_c ((x0.trans x1).cells hk) (cellsAt_one (cellH_at (x1.at c0))) 4).mono ?_⟩
  rintro en h2 ⟨rfl, x2⟩
  refine ⟨_, rfl, fun h4 => ?_, fun h4 => ?_⟩
  · cases k <;> (exact absurd h4 (by decide))
  refine ⟨87, #[], #[vP h.size], rfl, by kernel_rfl, (has_c (((x0.trans x1).trans x2).cells hk) (cellsAt_one (cellH_at ((x1.trans x2).at c0))) 2).mono ?_⟩
  rintro en h5 ⟨rfl, x5⟩
  refine ⟨_, rfl, fun h6 => ?_, fun h6 => ?_⟩
  · cases k
    · exact ⟨rfl, ((x0.trans x1).trans x2).trans x5⟩
    · exact absurd h3 (by decide)
  · cases k
    · exact absurd h6 (by decide)
    · exact absurd h3 (by decide)

/-! ### Tables -/

theorem table_c {b c bn cn : Nat} {k : Bool} (hk : cellsAt h b 0 [.string sMeta, .string sTo, vI (kd k)]) (hn : cellsAt h bn 0 [.string sOut, .string sNone]) (n0 : ByteArray) (z : Int) (s4 : ByteArray) (f : Bool) :
    CallsH Tryz.prog 42 #[.agg #[.string n0, sl b 1 c, sl bn 2 cn, vZ z, .string s4, nilS, .bool f]] h fun e h' => ∃ b' c' bn' cn', Ext h h' ∧ h.size ≤ b' ∧ h.size ≤ bn' ∧ Own h' h.size 94 3 (sl b' 1 c') 1 [.string sMeta, .string sTo, vI (kd k)] ∧ Own h' h.size 9 1 (sl bn' 2 cn') 2 [.string sOut, .string sNone] ∧
      e = .returned (.agg #[.string n0, sl b' 1 c', sl bn' 2 cn', vZ z, .string s4, nilS, .bool f]) := by
  refine V42 _ _ _ _ _ _ _ _ _ _ _ _ _ h _ ?_
  rintro b0 h0 rfl rfl b1 h1 rfl rfl
  have x0 : Ext h (h.push (.cells #[.string n0, sl b 1 c, sl bn 2 cn, vZ z, .string s4, nilS, .bool f] 73)) := Ext.push _ _
  have x1 := Ext.push (h.push (.cells #[.string n0, sl b 1 c, sl bn 2 cn, vZ z, .string s4, nilS, .bool f] 73)) (.cells zT 73)
  have c0 := x1.at (push_last (h := h) (o := .cells #[.string n0, sl b 1 c, sl bn 2 cn, vZ z, .string s4, nilS, .bool f] 73))
  have c1 := push_last (h := h.push (.cells #[.string n0, sl b 1 c, sl bn 2 cn, vZ z, .string s4, nilS, .bool f] 73)) (o := .cells zT 73)
  generalize hq : (h.push (.cells #[.string n0, sl b 1 c, sl bn 2 cn, vZ z, .string s4, nilS, .bool f] 73)).push (.cells zT 73) = h1 at *
  have xh : Ext h h1 := by rw [← hq]; exact x0.trans (Ext.push _ _)
  have hs1 : (h.push (.cells #[.string n0, sl b 1 c, sl bn 2 cn, vZ z, .string s4, nilS, .bool f] 73)).size = h.size + 1 := by simp
  rw [hs1] at c1 ⊢
  clear hq x0 x1
  refine ⟨info73, _, _, _, cellsAt_one (cellH_at c0), (cln67_c (xh.cells hk) rfl (by decide) (by decide) (by simp [Value.oneCell'])).mono ?_⟩
  rintro en h2 ⟨b', c', g1, x2, o2, rfl⟩
  have c0' := x2.at c0
  refine ⟨_, _, _, rfl, rfl, wrAt_of c0' (by simp) (.inl (Nat.zero_le _)), ?_⟩
  rintro h3 rfl
  have k3 : ∀ q, q ≠ h.size → (setsH h2 h.size (0 + 1) [sl b' 1 c'])[q]? = h2[q]? := fun q hq => setsH_ne hq
  have c3 : (setsH h2 h.size (0 + 1) [sl b' 1 c'])[h.size]? = some (.cells #[.string n0, sl b' 1 c', sl bn 2 cn, vZ z, .string s4, nilS, .bool f] 73) := setsH_at c0'
  have x3 : Ext h (setsH h2 h.size (0 + 1) [sl b' 1 c']) := (xh.trans x2).sets (Nat.le_refl _) _
  have hlt : h.size + 1 < h1.size := (Array.getElem?_eq_some_iff.1 c1).1
  have o3 := o2.keep (h' := setsH h2 h.size (0 + 1) [sl b' 1 c']) (fun q hq => k3 q (by obtain rfl : b' = q := Option.some.inj hq; omega))
  have c1' : (setsH h2 h.size (0 + 1) [sl b' 1 c'])[h.size + 1]? = some (.cells zT 73) := (k3 _ (by omega)).trans (x2.at c1)
  have s3 : (setsH h2 h.size (0 + 1) [sl b' 1 c']).size = h2.size := setsH_size
  have z2 := x2.size
  generalize hq : setsH h2 h.size (0 + 1) [sl b' 1 c'] = h3 at *
  refine ⟨_, _, _, cellsAt_one (cellH_at c3), (cln68_c (x3.cells hn) rfl (by decide) (by decide) (by simp [Value.oneCell'])).mono ?_⟩
  rintro en h4 ⟨bn', cn', g4, x4, o4, rfl⟩
  have c3' := x4.at c3
  refine ⟨_, _, _, rfl, rfl, wrAt_of c3' (by simp) (.inl (Nat.zero_le _)), ?_⟩
  rintro h5 rfl
  have k5 : ∀ q, q ≠ h.size → (setsH h4 h.size (0 + 2) [sl bn' 2 cn'])[q]? = h4[q]? := fun q hq => setsH_ne hq
  have c5 : (setsH h4 h.size (0 + 2) [sl bn' 2 cn'])[h.size]? = some (.cells #[.string n0, sl b' 1 c', sl bn' 2 cn', vZ z, .string s4, nilS, .bool f] 73) := setsH_at c3'
  have x5 : Ext h (setsH h4 h.size (0 + 2) [sl bn' 2 cn']) := (x3.trans x4).sets (Nat.le_refl _) _
  have o3' := (o3.ext x4).keep (h' := setsH h4 h.size (0 + 2) [sl bn' 2 cn']) (fun q hq => k5 q (by obtain rfl : b' = q := Option.some.inj hq; omega))
  have o5 := o4.keep (h' := setsH h4 h.size (0 + 2) [sl bn' 2 cn']) (fun q hq => k5 q (by obtain rfl : bn' = q := Option.some.inj hq; omega))
  have c1'' : (setsH h4 h.size (0 + 2) [sl bn' 2 cn'])[h.size + 1]? = some (.cells zT 73) := (k5 _ (by omega)).trans (x4.at c1')
  generalize hq5 : setsH h4 h.size (0 + 2) [sl bn' 2 cn'] = h5 at *
  refine ⟨_, _, _, cellsAt_one (cellH_at c5), cln44_nil.mono ?_⟩
  rintro en h6 ⟨rfl, rfl⟩
  refine ⟨_, _, _, rfl, rfl, wrAt_of c5 (by simp) (.inl (Nat.zero_le _)), ?_⟩
  rintro h7 rfl
  have c7 : (setsH h6 h.size (0 + 4 + 1) [nilS])[h.size]? = some (.cells #[.string n0, sl b' 1 c', sl bn' 2 cn', vZ z, .string s4, nilS, .bool f] 73) := setsH_at c5
  have k7 : ∀ q, q ≠ h.size → (setsH h6 h.size (0 + 4 + 1) [nilS])[q]? = h6[q]? := fun q hq => setsH_ne hq
  have x7 : Ext h (setsH h6 h.size (0 + 4 + 1) [nilS]) := x5.sets (Nat.le_refl _) _
  refine ⟨_, _, _, _, _, _, _, _, _, _, _, _, _, cellsAt_all c7, stoT (n := 7) x7 (by omega) ((k7 _ (by omega)).trans c1'') rfl zT_size (by simp [Value.oneCell']) fun h8 x8 _ c8 k8 => ⟨_, _, _, _, _, _, _, _, _, _, _, _, _, cellsAt_all c8, b', c', bn', cn', x8, by omega, by omega, ?_, ?_, rfl⟩⟩
  · refine (o3'.keep (h' := h8) fun q hq => ?_).rebase fun q hq => ?_
    · obtain rfl : b' = q := Option.some.inj hq
      rw [k8 _ (by omega), k7 _ (by omega)]
    · obtain rfl : b' = q := Option.some.inj hq
      omega
  · refine (o5.keep (h' := h8) fun q hq => ?_).rebase fun q hq => ?_
    · obtain rfl : bn' = q := Option.some.inj hq
      rw [k8 _ (by omega), k7 _ (by omega)]
    · obtain rfl : bn' = q := Option.some.inj hq
      omega

theorem tableOf_c (S : Sch h w s) (k : Bool) : CallsH Tryz.prog 47 #[s.val, .string (nm k)] h fun e h' => ∃ b' c' bn' cn', Ext h h' ∧ h.size ≤ b' ∧ h.size ≤ bn' ∧ Own h' h.size 94 3 (sl b' 1 c') 1 [.string sMeta, .string sTo, vI (kd k)] ∧ Own h' h.size 9 1 (sl bn' 2 cn') 2 [.string sOut, .string sNone] ∧
      e = .returned (.tuple #[.agg #[.string (nm k), sl b' 1 c', sl bn' 2 cn', vI 200, .string sNone, nilS, .bool false], vI k.toNat, .bool true]) := by
  refine V47 _ _ _ _ _ _ _ _ _ _ _ _ _ _ _ _ _ _ _ h _ ?_
  rintro b0 h0 rfl rfl b1 h1 rfl rfl
  have x0 : Ext h (h.push (.cells s.cells.toArray 36)) := Ext.push _ _
  have x1 := Ext.push (h.push (.cells s.cells.toArray 36)) (.cells zT 73)
  have c0 := x1.at (push_last (h := h) (o := .cells s.cells.toArray 36))
  have c1 := push_last (h := h.push (.cells s.cells.toArray 36)) (o := .cells zT 73)
  refine ⟨info73, _, _, _, _, _, _, _, _, _, _, _, _, _, _, _, _, _, _, cellsAt_all c0, (tableAt_c ((S.ext x0).ext x1) k).mono ?_⟩
  rintro en h2 ⟨rfl, x2⟩
  refine ⟨_, rfl, fun _ => ?_, fun hf => (by have := of_decide_eq_false hf; omega)⟩
  have S2 := ((S.ext x0).ext x1).ext x2
  obtain ⟨b, o, hp, g0, gn, hc⟩ := S2.tab_at k
  refine ⟨_, _, _, cellsAt_one (cellH_at (x2.at c0)), b, o, hp, g0, gn, _, _, _, _, _, _, _, _, _, _, _, _, _, hc, (table_c (S2.k k) (S2.n k) _ _ _ _).mono ?_⟩
  rintro en h3 ⟨b', c', bn', cn', x3, g1, g2, o1, o2, rfl⟩
  have xx := (x0.trans x1).trans x2
  have zz := xx.size
  have z1 := (x1.trans x2).size
  have z2 := x2.size
  simp only [Array.size_push] at z2 z1
  refine ⟨_, _, _, _, _, _, _, _, _, _, _, _, _, rfl, stoT (n := 7) (xx.trans x3) (by simp) ((x2.trans x3).at c1) rfl zT_size (by simp [Value.oneCell']) fun h8 x8 _ c8 k8 => ⟨_, _, _, _, _, _, _, _, _, _, _, _, _, cellsAt_all c8, b', c', bn', cn', x8, by omega, by omega, ?_, ?_, rfl⟩⟩
  · refine (o1.keep (h' := h8) fun q hq => ?_).rebase fun q hq => ?_
    · obtain rfl : b' = q := Option.some.inj hq
      exact k8 _ (by simp; omega)
    · obtain rfl : b' = q := Option.some.inj hq
      omega
  · refine (o2.keep (h' := h8) fun q hq => ?_).rebase fun q hq => ?_
    · obtain rfl : bn' = q := Option.some.inj hq
      exact k8 _ (by simp; omega)
    · obtain rfl : bn' = q := Option.some.inj hq
      omega

/-! ### Calls -/

theorem contains_c {bn cn : Nat} (hn : cellsAt h bn 0 [.string sOut, .string sNone]) (a : Bool) : CallsH Tryz.prog 92 #[sl bn 2 cn, .string (an a)] h fun e h' => h' = h ∧ e = .returned (.bool true) := by
  have sg : SegS h (some ⟨bn, 0, none⟩) 2 1 [[.string sOut], [.string sNone]] := seg_of rfl (by simp) hn
  refine V92 _ _ _ _ h _ (V105 _ _ _ _ h _ ⟨cntI 2 fun i hp => i ≤ a.toNat ∧ hp = h, cntM 2, cnt_0 ⟨Nat.zero_le _, rfl⟩, ?_⟩)
  rintro x hp1 ⟨i, hi, hx, hia, rfl⟩
  cases hx
  have ha : a.toNat ≤ 1 := by cases a <;> decide
  refine ⟨fun hlt => ?_, fun hge => ?_⟩
  · have hlt := cnt_lt hlt
    obtain ⟨b, o, hp, g0, gn, hc⟩ := sg.at (i := i) (by simpa using hlt)
    have hi2 : i = 0 ∨ i = 1 := by omega
    refine ⟨b, o, hp, g0, gn, cond (Nat.beq i 0) sOut sNone, (by rcases hi2 with rfl | rfl <;> exact hc), fun ht => ?_, fun hf => ?_⟩
    · refine ⟨_, rfl, rfl, ?_⟩
      rw [decide_eq_true (by omega)]
    · refine cnt_next hlt (by decide) ⟨?_, rfl⟩
      cases a
      · rcases hi2 with rfl | rfl
        · exact absurd hf (by decide)
        · simp at hia
      · rcases hi2 with rfl | rfl
        · decide
        · exact absurd hf (by decide)
  · have := cnt_ge hi hge
    omega

theorem fits_c (x : BitVec 64) : CallsH Tryz.prog 58 #[.agg #[.int .u64 0, vW x], vI 64] h (RetX (.bool true) h) := by
  refine V58 _ _ _ h _ ?_
  rintro b0 h0 rfl rfl
  have x0 : Ext h (h.push (.cells #[.int .u64 0, vW x] 40)) := Ext.push _ _
  have c0 := push_last (h := h) (o := .cells #[.int .u64 0, vW x] 40)
  refine ⟨fun _ hp => hp = h.push (.cells #[.int .u64 0, vW x] 40), ⟨false, ⟨fun hf => absurd hf (by decide), fun _ => ⟨rfl, by decide⟩⟩, fun hf => (by cases hf), fun _ => rfl⟩, ?_⟩
  rintro h1 rfl
  refine ⟨fun hf => absurd hf (by decide), fun _ => ⟨true, ⟨_, cellsAt_one (cellH_at c0), fun _ => ⟨fun _ => ⟨rfl, rfl⟩, fun hf => absurd hf (by decide)⟩, fun hf => absurd hf (by decide)⟩, rfl, x0⟩⟩

def ArgsAt (h : Hp) (a : Bool) (v : Value) : Prop := match a with
  | true => v = nilS
  | false => ∃ b o c x, v = .slice (some ⟨b, o, none⟩) 1 c ∧ cellsAt h b o [.int .u64 0, vW x]
theorem ArgsAt.ext {h h' : Hp} {a : Bool} {v : Value} (A : ArgsAt h a v) (x : Ext h h') : ArgsAt h' a v := by
  cases a
  · obtain ⟨b, o, c, y, h1, h2⟩ := A; exact ⟨b, o, c, y, h1, x.cells h2⟩
  · exact A
theorem ArgsAt.form {h : Hp} {a : Bool} {v : Value} (A : ArgsAt h a v) : ∃ p c, v = .slice p (!a).toNat c := by
  cases a
  · obtain ⟨b, o, c, y, h1, h2⟩ := A; exact ⟨_, _, h1⟩
  · exact ⟨_, _, A⟩

theorem Sch.act_at (S : Sch h w s) (a : Bool) : ∃ b o, (some ⟨s.ba, 0, none⟩ : Option Addr) = some ⟨b, o, none⟩ ∧ 0 ≤ ((a.toNat : Nat) : Int) ∧ ((a.toNat : Nat) : Int) < ((2 : Nat) : Int) ∧ cellsAt h b (o + Int.toNat ((a.toNat : Nat) : Int) * 3) (cond a act1 s.act0) := by
  obtain ⟨b, o, hp, g0, gn, hc⟩ := S.segA.at (i := a.toNat) (by cases a <;> simp [SB.acts])
  refine ⟨b, o, hp, g0, gn, ?_⟩
  cases a <;> exact hc
def SB.pars (s : SB) (a : Bool) : Value := cond a nilS (sl s.bp 1 s.cp)
theorem SB.pars_at (s : SB) (a : Bool) : (cond a act1 s.act0)[1]? = some (s.pars a) := by cases a <;> rfl
theorem SB.pars_form (s : SB) (a : Bool) : ∃ p c, s.pars a = .slice p (!a).toNat c := by cases a <;> exact ⟨_, _, rfl⟩

theorem call_c (S : Sch h w s) (k a : Bool) {v : Value} (A : ArgsAt h a v) : CallsH Tryz.prog 63 #[s.val, .string (nm k), .agg #[.string (an a), v]] h (RetX (vZ 0) h) := by
  obtain ⟨pa, ca, rfl⟩ := A.form
  refine V63 _ _ _ _ _ _ _ _ _ _ _ _ _ _ _ _ _ _ _ _ _ _ _ h _ ?_
  rintro b0 h0 rfl rfl b1 hh hb1 hhh
  have x0 : Ext h (h.push (.cells s.cells.toArray 36)) := Ext.push _ _
  have x1 := Ext.push (h.push (.cells s.cells.toArray 36)) (.cells #[.string (an a), .slice pa (!a).toNat ca] 48)
  have xx : Ext h hh := by rw [hhh]; exact x0.trans x1
  have c0 : hh[h.size]? = some (.cells s.cells.toArray 36) := by rw [hhh]; exact x1.at push_last
  have c1 : hh[b1]? = some (.cells #[.string (an a), .slice pa (!a).toNat ca] 48) := by rw [hhh, hb1]; exact push_last
  clear hhh hb1 x0 x1
  refine ⟨fun h' => Ext hh h', Ext.refl _, _, _, _, _, _, _, _, _, _, _, _, _, _, _, _, _, _, _, cellsAt_all c0, (tableAt_c (S.ext xx) k).mono ?_⟩
  rintro en h2 ⟨rfl, x2⟩
  refine ⟨_, rfl, x2, _, _, _, _, _, _, _, _, _, _, _, _, _, _, _, _, _, _, fun h' x' => cellsAt_all (x'.at c0), _, fun h' x' => cellsAt_one (cellH_at (x'.at c1)), (actionAt_c ((S.ext xx).ext x2) a).mono ?_⟩
  rintro en h3 ⟨rfl, x3⟩
  have x23 := x2.trans x3
  refine ⟨_, rfl, x23, fun _ hp => Ext hh hp, ⟨fun hf => (by have := of_decide_eq_true hf; omega), fun _ => ⟨fun vs hp => vs = [.bool false] ∧ Ext hh hp, ⟨fun hf => (by have := of_decide_eq_true hf; omega), fun _ => ?_⟩, ?_⟩⟩, ?_⟩
  · have S3 := (S.ext xx).ext x23
    obtain ⟨b, o, hp, g0, gn, hc⟩ := S3.tab_at k
    refine ⟨_, _, _, cellsAt_one (cellH_at (x23.at c0)), b, o, hp, g0, gn, _, _, _, cellsAt_sub hc (j := 2) rfl, _, cellsAt_one (cellH_at (x23.at c1)), (contains_c (S3.n k) a).mono ?_⟩
    rintro en h4 ⟨rfl, rfl⟩
    exact ⟨_, rfl, rfl, x23⟩
  · rintro x hp ⟨hv, x5⟩
    cases hv
    refine ⟨fun hf => (by cases hf), fun _ => ?_⟩
    have S5 := (S.ext xx).ext x5
    obtain ⟨b, o, hp', g0, gn, hc⟩ := S5.act_at a
    obtain ⟨pp, cp, hpp⟩ := s.pars_form a
    refine ⟨_, _, _, cellsAt_one (cellH_at (x5.at c0)), b, o, hp', g0, gn, pp, _, cp, by rw [← hpp]; exact cellsAt_sub hc (s.pars_at a), _, _, _, cellsAt_one (cellH_at (x5.at c1)), fun hf => ?_, fun _ => x5⟩
    have := of_decide_eq_true hf
    exact (this rfl).elim
  · rintro hp x6
    have S6 := (S.ext xx).ext x6
    obtain ⟨b, o, hp', g0, gn, hc⟩ := S6.act_at a
    obtain ⟨pp, cp, hpp⟩ := s.pars_form a
    refine ⟨_, _, _, cellsAt_one (cellH_at (x6.at c0)), b, o, hp', g0, gn, pp, _, cp, by rw [← hpp]; exact cellsAt_sub hc (s.pars_at a), cntI (!a).toNat fun i hp => Ext hh hp, cntM (!a).toNat, cnt_0 x6, ?_⟩
    rintro x hp7 ⟨i, hi, hx, x7⟩
    cases hx
    refine ⟨fun hlt => ?_, fun _ => ⟨rfl, xx.trans x7⟩⟩
    have hlt := cnt_lt hlt
    cases a
    case true => cases hlt
    have hi0 : i = 0 := by simp at hlt; exact hlt
    subst hi0
    cases hpp
    obtain ⟨b5, o5, e1, e2, e3, e4⟩ := ((S.ext xx).ext x7).segP.at (i := 0) (by simp)
    refine ⟨b5, o5, e1, e2, e3, _, _, e4, ?_⟩
    rintro b8 h8 rfl rfl
    have x8 := Ext.push hp7 (.cells zF 89)
    refine ⟨info89, stoT (n := 2) (x7.trans x8) x7.size push_last rfl zF_size (by simp [Value.oneCell']) fun h9 x9 _ c9 k9 => ?_⟩
    obtain ⟨ab, ao, ac, ax, hv, hac⟩ := A
    cases hv
    refine ⟨_, _, _, cellsAt_one (cellH_at (x9.at c1)), ab, ao, rfl, by omega, by decide, _, _, (by simpa using (xx.trans x9).cells hac), _, cellsAt_one (cellH_at c9), (fits_c ax).mono ?_⟩
    rintro en h10 ⟨rfl, x10⟩
    refine ⟨_, rfl, fun hf => (by cases hf), fun _ => cnt_next hlt (by decide) (x9.trans x10)⟩
end
end Go.Vc
