/- TopLongest: the check of the schema. -/
import Derived.Test.YtamhpfdcnfgngaaGreatTmD
set_option maxRecDepth 10000
namespace Go.Vc
open Go Go.Proofs Go.MapKept

/-! ## Names -/

abbrev reservedT : ByteArray := (⟨#[32, 97, 99, 99, 101, 112, 116, 32, 97, 99, 116, 105, 111, 110, 32, 97, 100, 100, 32, 97, 103, 97, 105, 110, 32, 97, 112, 112, 108, 121, 32, 99, 97, 110, 32, 99, 111, 110, 116, 114, 111, 108, 32, 100, 101, 102, 97, 117, 108, 116, 32, 100, 114, 111, 112, 32, 101, 108, 115, 101, 32, 101, 120, 97, 99, 116, 32, 101, 120, 105, 116, 32, 102, 105, 120, 101, 100, 32, 104, 101, 97, 100, 101, 114, 32, 105, 102, 32, 107, 101, 121, 32, 109, 101, 116, 97, 32, 111, 110, 32, 112, 114, 101, 102, 105, 120, 32, 114, 97, 110, 103, 101, 32, 114, 101, 106, 101, 99, 116, 32, 114, 101, 109, 111, 118, 101, 32, 115, 105, 122, 101, 32, 115, 116, 97, 116, 101, 32, 115, 117, 109, 32, 116, 97, 98, 108, 101, 32, 116, 97, 107, 101, 32, 116, 101, 114, 110, 97, 114, 121, 32, 118, 97, 108, 105, 100, 32]⟩ : ByteArray)
abbrev sp1 : ByteArray := ⟨#[32]⟩
def goodNm (t : ByteArray) : Bool := !(decide (t = ⟨#[]⟩)) && decide (t.size ≤ 32) && t.data.toList.all (fun c => decide (97 ≤ c.toNat ∧ c.toNat ≤ 122)) &&
  (List.range 200).all fun i => !(decide (i + ((sp1 ++ t) ++ sp1).size ≤ reservedT.size)) || !(decide (reservedT.extract i (i + ((sp1 ++ t) ++ sp1).size) = (sp1 ++ t) ++ sp1))
theorem good_all : ([sTo, sOut, sNone, sPort, sLong, sHigh].all goodNm) = true := by decide +kernel
theorem reserved_size : reservedT.size = 167 := by decide +kernel

section
variable {h : Hp}

theorem need_c (p : Option Addr) (e : Int) : CallsH Tryz.prog 26 #[.pointer p, .bool true, vZ e] h fun en h' => h' = h ∧ en = .returned (.tuple #[]) :=
  V26 _ _ _ h _ ⟨fun hf => (by cases hf), fun _ => ⟨rfl, rfl⟩⟩

theorem contains_no {s part : ByteArray} (hs : s.size ≤ 1000000) (hp : part.size ≤ 1000000) (hno : ∀ i, i + part.size ≤ s.size → s.extract i (i + part.size) ≠ part) :
    CallsH Tryz.prog 97 #[.string s, .string part] h fun e h' => h' = h ∧ e = .returned (.bool false) := by
  refine V97 _ _ h _ ⟨fun vs hp => ∃ i : Nat, i ≤ s.size + 1 ∧ vs = [vI i] ∧ hp = h, fun vs _ => s.size + 1 - (numAt vs 0).toNat, ⟨0, by omega, rfl, rfl⟩, ?_⟩
  rintro x hp1 ⟨i, hi, hx, rfl⟩
  cases hx
  refine ⟨((i + part.size : Nat) : Int), by rw [wrapI64] <;> omega, fun h1 => ?_, fun _ => ⟨rfl, rfl⟩⟩
  have h1 : i + part.size ≤ s.size := by have := of_decide_eq_true h1; omega
  refine ⟨((i + part.size : Nat) : Int), by rw [wrapI64] <;> omega, i, rfl, i + part.size, rfl, by omega, h1, _, rfl, fun h2 => ?_, fun _ => ⟨((i + 1 : Nat) : Int), incI (by omega), ⟨i + 1, by omega, rfl, rfl⟩, ?_⟩⟩
  · exact (hno i h1 (of_decide_eq_true h2)).elim
  · simp only [numAt]; omega

theorem uS : Tryz.prog.underlying 9 = some .string := by kernel_rfl

theorem isName_c {t : ByteArray} (g : goodNm t = true) : CallsH Tryz.prog 81 #[.string t] h (RetX (.bool true) h) := by
  simp only [goodNm, Bool.and_eq_true] at g
  obtain ⟨⟨⟨g1, g2⟩, g3⟩, g4⟩ := g
  have g1 : ¬ t = ⟨#[]⟩ := by simpa using g1
  have g2 : t.size ≤ 32 := of_decide_eq_true g2
  have hu : Tryz.prog.underlying 199 = some (.slice 5) := by kernel_rfl
  have hb : Tryz.prog.underlying 5 = some (.int .u8) := by kernel_rfl
  refine V81 _ h _ ⟨fun _ hp => hp = h, ⟨false, ⟨fun hf => absurd (of_decide_eq_true hf) g1, fun _ => ⟨rfl, (decide_eq_false (by omega)).symm⟩⟩, fun hf => (by cases hf), fun _ => rfl⟩, ?_⟩
  rintro hp rfl
  refine semH_toBytes uS hu hb fun c cur hc1 hc2 hc3 => ⟨_, _, _, rfl, ?_⟩
  have x1 := Ext.push hp (.cells cur 5 (c, c + 1))
  have c1 := push_last (h := hp) (o := .cells cur 5 (c, c + 1))
  refine ⟨cntI t.size fun _ h' => h' = hp.push (.cells cur 5 (c, c + 1)), cntM t.size, cnt_0 rfl, ?_⟩
  rintro x hp1 ⟨i, hi, hx, rfl⟩
  cases hx
  refine ⟨fun hlt => ?_, fun _ => ?_⟩
  · have hlt := cnt_lt hlt
    have hd : t.data.size = t.size := rfl
    have hci : cur[i]? = some (.int .u8 ((t.data.toList[i]'(by simpa using hlt)).toNat : Int)) := by
      have e1 : (cur.toList.take t.size)[i]? = cur[i]? := by rw [List.getElem?_take_of_lt hlt, Array.getElem?_toList]
      rw [← e1, hc3, byteVs, List.getElem?_map, List.getElem?_eq_getElem (by simpa using hlt)]
      rfl
    have hm : 97 ≤ (t.data.toList[i]'(by simpa using hlt)).toNat ∧ (t.data.toList[i]'(by simpa using hlt)).toNat ≤ 122 := by
      have := List.all_eq_true.1 g3 _ (List.getElem_mem (by simpa using hlt : i < t.data.toList.length))
      exact of_decide_eq_true this
    refine ⟨hp.size, 0, rfl, by omega, by omega, _, cellsAt_one (by rw [cellH_at c1, Int.toNat_natCast, Nat.zero_add, Nat.mul_one]; exact hci), true, ⟨fun _ => ⟨rfl, (decide_eq_true (by omega)).symm⟩, fun hf => ?_⟩, false, ⟨fun hf => (by cases hf), fun _ => ⟨rfl, rfl⟩⟩, fun hf => (by cases hf), fun _ => cnt_next hlt (by omega) rfl⟩
    have := of_decide_eq_false hf; omega
  · have e1 : (sp1 ++ t).size = 1 + t.size := ByteArray.size_append
    have e2 : ((sp1 ++ t) ++ sp1).size = 1 + t.size + 1 := by rw [ByteArray.size_append, e1]; rfl
    have e0 : (⟨#[32]⟩ : ByteArray).size = 1 := rfl
    refine ⟨by omega, _, rfl, by rw [e1]; omega, _, rfl, (contains_no (by rw [reserved_size]; decide) (by rw [e2]; omega) ?_).mono ?_⟩
    · intro i hi he
      have hi2 : i < 200 := by rw [reserved_size] at hi; omega
      have := List.all_eq_true.1 g4 i (List.mem_range.2 hi2)
      rw [decide_eq_true hi, decide_eq_true he] at this
      cases this
    · rintro en h2 ⟨rfl, rfl⟩
      exact ⟨_, rfl, rfl, x1⟩

/-! ## Maps of names -/

theorem mapN : MapT Tryz.prog 111 9 3 .string (.int .i64 0) := ⟨by kernel_rfl, uS, by kernel_rfl⟩
abbrev ent (t : ByteArray) : Value × Value := (.string t, .int .i64 1)
abbrev Bk (b : Nat) : Nat → Prop := fun x => x = b

theorem ent_keys (l : List ByteArray) : ∀ x ∈ l.map ent, IsKey .string x.1 := by
  intro x hx
  obtain ⟨t, _, rfl⟩ := List.mem_map.1 hx
  trivial
theorem ent_no {l : List ByteArray} {t : ByteArray} (hn : t ∉ l) : ∀ x ∈ l.map ent, x.1 ≠ .string t := by
  intro x hx e
  obtain ⟨u, hu, rfl⟩ := List.mem_map.1 hx
  cases e
  exact hn hu

theorem name_c {p : Option Addr} {t : ByteArray} (g : goodNm t = true) {r : Nat} {l : List ByteArray} (m : MapAt h r (l.map ent)) (hn : t ∉ l) :
    CallsH Tryz.prog 55 #[.pointer p, .string t, .map (some r)] h fun e h' => e = .returned (.tuple #[]) ∧ Same (Bk r) h h' ∧ MapAt h' r ((l ++ [t]).map ent) := by
  refine V55 _ _ _ h _ ((isName_c g).mono ?_)
  rintro en h1 ⟨rfl, x1⟩
  refine ⟨_, rfl, (need_c _ _).mono ?_⟩
  rintro en h2 ⟨rfl, rfl⟩
  refine ⟨rfl, semH_lookup mapN (m.ext x1) (ent_keys l) (show IsKey .string (.string t) from trivial) (fun _ => ⟨_, rfl, (need_c _ _).mono ?_⟩) (fun v j hj => (ent_no hn _ (List.mem_of_getElem? hj) rfl).elim)⟩
  rintro en h3 ⟨rfl, rfl⟩
  refine ⟨rfl, semH_mapNew mapN (m.ext x1) (ent_keys l) (show IsKey .string (.string t) from trivial) (ent_no hn) fun h4 m4 z4 k4 => ⟨rfl, ⟨by rw [z4]; exact x1.size, fun b hb hn => (k4 b hn).trans (x1.old b hb)⟩, by rw [List.map_append]; exact m4⟩⟩

theorem fields_c {p q : Option Addr} {n c : Nat} {fs : List (ByteArray × Nat)} (sg : SegS h q n 2 (fs.map fun f => [.string f.1, vI f.2])) (hn : n ≤ 1000) (g : ∀ f ∈ fs, goodNm f.1 = true ∧ 1 ≤ f.2 ∧ f.2 ≤ 128) (nd : (fs.map (·.1)).Nodup) :
    CallsH Tryz.prog 27 #[.pointer p, .slice q n c] h (RetX (.tuple #[]) h) := by
  have hl : fs.length = n := by have := sg.1; simpa using this
  refine V27 _ _ _ _ h _ ?_
  rintro r h0 rfl rfl
  have x0 := Ext.push h (.map #[] 0)
  refine ⟨cntI n fun i hp => Ext h hp ∧ MapAt hp h.size (((fs.take i).map (·.1)).map ent), cntM n, cnt_0 ⟨x0, MapAt.new h⟩, ?_⟩
  rintro x hp1 ⟨i, hi, hx, x1, m1⟩
  cases hx
  refine ⟨fun hlt => ?_, fun _ => ⟨rfl, x1⟩⟩
  have hlt := cnt_lt hlt
  have hil : i < fs.length := by omega
  obtain ⟨b, o, e1, e2, e3, e4⟩ := (sg.ext x1).at (i := i) (by simpa using hil)
  rw [List.getElem_map] at e4
  obtain ⟨gn, w1, w2⟩ := g fs[i] (List.getElem_mem hil)
  refine ⟨b, o, e1, e2, e3, _, _, e4, ?_⟩
  rintro b1 h2 rfl rfl
  have x2 := Ext.push hp1 (.cells zF 89)
  refine ⟨info89, stoT (n := 2) (x1.trans x2) x1.size push_last rfl zF_size (by simp [Value.oneCell']) fun h3 x3 z3 c3 k3 => ?_⟩
  have m3 : MapAt h3 h.size (((fs.take i).map (·.1)).map ent) := (m1.ext x2).congr (k3 _ (by have := m1.lt; omega))
  have hno : fs[i].1 ∉ (fs.take i).map (·.1) := by
    intro hm
    rw [List.map_take, List.mem_take_iff_getElem] at hm
    obtain ⟨j, hj, he⟩ := hm
    have h1 : j < i := by simp at hj; omega
    have := List.pairwise_iff_getElem.1 nd j i (by simp; omega) (by simpa using hil) h1
    simp at this he
    exact this he
  refine ⟨_, cellsAt_one (cellH_at c3), (name_c gn m3 hno).mono ?_⟩
  rintro en h4 ⟨rfl, s4, m4⟩
  have c4 := (s4.old _ (Array.getElem?_eq_some_iff.1 c3).1 (by show hp1.size ≠ h.size; have := m1.lt; omega)).trans c3
  have x4 : Ext h h4 := x3.over s4 (fun x hx => by rw [hx]; exact Nat.le_refl _)
  have ht : (fs.take (i + 1)).map (·.1) = (fs.take i).map (·.1) ++ [fs[i].1] := by rw [List.take_succ_eq_append_getElem hil, List.map_append]; rfl
  have fin : ∀ h5, h5 = h4 → ∃ x, IntKind.i64.wrap ((i : Int) + (1 : Int)) = x ∧ (cntI n (fun i hp => Ext h hp ∧ MapAt hp h.size (((fs.take i).map (·.1)).map ent)) [Value.int .i64 x] h5 ∧ cntM n [Value.int .i64 x] h5 < cntM n [Value.int .i64 (i : Int)] hp1) := by
    rintro _ rfl
    exact cnt_next hlt (by omega) ⟨x4, by rw [ht]; exact m4⟩
  refine ⟨rfl, _, cellsAt_one (cellH_at c4), fun _ => ⟨_, cellsAt_one (cellH_at c4), ?_⟩, fun hf => ?_⟩
  · rw [show decide ((fs[i].2 : Int) ≤ (128 : Int)) = true from decide_eq_true (by omega)]
    refine (need_c _ _).mono ?_
    rintro en h5 ⟨rfl, rfl⟩
    exact ⟨rfl, fin _ rfl⟩
  · have := of_decide_eq_false hf; omega
end
end Go.Vc
