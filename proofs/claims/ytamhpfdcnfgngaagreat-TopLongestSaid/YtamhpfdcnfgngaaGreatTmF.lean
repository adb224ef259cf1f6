/- TopLongest: the check of the schema, part by part. -/
import Derived.Test.YtamhpfdcnfgngaaGreatTmE
set_option maxRecDepth 10000
namespace Go.Vc
open Go Go.Proofs Go.MapKept

theorem Same.ext {B : Nat → Prop} {a b c : Hp} (h : Same B a b) (x : Ext b c) : Same B a c := h.trans (x.same B) fun _ h _ => h
theorem Same.new {B C : Nat → Prop} {a b c : Hp} (h : Same B a b) (k : Same C b c) (hC : ∀ x, C x → x < a.size → B x) : Same B a c := h.trans k hC

def Chk (h : Hp) (b : Nat) (s : SB) : Prop := ∃ t, h[b]? = some (.cells #[nilS, sl s.bm 1 s.cm, nilS, sl s.ba 2 s.ca, sl s.bt 2 s.ct, nilS, .string t] 107)

section
variable {h h' : Hp} {b : Nat} {s : SB} {w : Nat}
theorem Chk.ext (C : Chk h b s) (x : Ext h h') : Chk h' b s := let ⟨t, c⟩ := C; ⟨t, x.at c⟩
theorem Chk.lt (C : Chk h b s) : b < h.size := let ⟨_, c⟩ := C; (Array.getElem?_eq_some_iff.1 c).1
theorem Chk.keep (C : Chk h b s) {B : Nat → Prop} (x : Same B h h') (hb : ¬ B b) : Chk h' b s := by
  have := C.lt
  obtain ⟨t, c⟩ := C
  exact ⟨t, (x.old b this hb).trans c⟩
theorem Chk.sto (C : Chk h b s) (t : ByteArray) {K : Hp → Prop} (hK : ∀ h', Same (Bk b) h h' → Chk h' b s → K h') :
    Value.oneCell' (.string t) = true ∧ wrAt h b (0 + 6) 1 ∧ ∀ hp, hp = setsH h b (0 + 6) [.string t] → K hp := by
  obtain ⟨u, c⟩ := C
  refine ⟨rfl, wrAt_of c (by simp) (.inl (Nat.zero_le _)), ?_⟩
  rintro _ rfl
  exact hK _ (setsH_same rfl) ⟨t, setsH_at c⟩
theorem Chk.six (C : Chk h b s) : cellsAt h b (0 + 0) s.cells := by
  obtain ⟨t, c⟩ := C
  refine cellsAt_of c fun j hj => ?_
  match j, hj with
  | 0, _ => rfl
  | 1, _ => rfl
  | 2, _ => rfl
  | 3, _ => rfl
  | 4, _ => rfl
  | 5, _ => rfl
theorem Chk.get (C : Chk h b s) {j : Nat} {v : Value} (hj : s.cells[j]? = some v) : cellsAt h b ((0 + 0) + j) [v] := cellsAt_sub C.six hj

theorem headers_c (C : Chk h b s) : CallsH Tryz.prog 25 #[vP b] h fun e h' => e = .returned (.tuple #[]) ∧ Same (Bk b) h h' ∧ Chk h' b s := by
  refine V25 _ h _ ⟨b, 0, rfl, C.sto _ fun h1 s1 C1 => ?_⟩
  refine ⟨b, 0, rfl, _, _, _, C1.get (j := 0) rfl, (need_c _ _).mono ?_⟩
  rintro en h2 ⟨rfl, rfl⟩
  refine ⟨rfl, ?_⟩
  rintro r h3 rfl rfl
  have x3 := Ext.push h2 (.map #[] 0)
  refine ⟨b, 0, rfl, _, _, _, (C1.ext x3).get (j := 0) rfl, cntI 0 fun _ hp => hp = h2.push (.map #[] 0), cntM 0, cnt_0 rfl, ?_⟩
  rintro x hp1 ⟨i, hi, hx, rfl⟩
  cases hx
  exact ⟨fun hlt => absurd (cnt_lt hlt) (by omega), fun _ => ⟨rfl, s1.ext x3, C1.ext x3⟩⟩

theorem rounds_c (C : Chk h b s) : CallsH Tryz.prog 59 #[vP b] h (RetX (.tuple #[]) h) := by
  refine V59 _ h _ ?_
  rintro r h3 rfl rfl
  have x3 := Ext.push h (.map #[] 0)
  refine ⟨b, 0, rfl, _, _, _, (C.ext x3).get (j := 2) rfl, cntI 0 fun _ hp => hp = h.push (.map #[] 0), cntM 0, cnt_0 rfl, ?_⟩
  rintro x hp1 ⟨i, hi, hx, rfl⟩
  cases hx
  refine ⟨fun hlt => absurd (cnt_lt hlt) (by omega), fun _ => ⟨b, 0, rfl, _, _, _, (C.ext x3).get (j := 2) rfl, cntI 0 fun _ hp => hp = h.push (.map #[] 0), cntM 0, cnt_0 rfl, ?_⟩⟩
  rintro x hp1 ⟨i, hi, hx, rfl⟩
  cases hx
  exact ⟨fun hlt => absurd (cnt_lt hlt) (by omega), fun _ => ⟨rfl, x3⟩⟩

theorem states_c (C : Chk h b s) : CallsH Tryz.prog 28 #[vP b] h fun e h' => e = .returned (.tuple #[]) ∧ Same (Bk b) h h' ∧ Chk h' b s := by
  refine V28 _ h _ ⟨b, 0, rfl, C.sto _ fun h1 s1 C1 => ?_⟩
  refine ⟨b, 0, rfl, _, _, _, C1.get (j := 2) rfl, (need_c _ _).mono ?_⟩
  rintro en h2 ⟨rfl, rfl⟩
  refine ⟨rfl, ?_⟩
  rintro r h3 rfl rfl
  have x3 := Ext.push h2 (.map #[] 0)
  refine semH_mapNew mapN (MapAt.new h2) (by simp) (show IsKey .string (.string _) from trivial) (by simp) fun h4 m4 z4 k4 => ?_
  have x4 : Ext h2 h4 := ⟨by rw [z4]; exact x3.size, fun i hi => (k4 i (by omega)).trans (x3.old i hi)⟩
  refine semH_mapNew mapN m4 (by simp [IsKey]) (show IsKey .string (.string _) from trivial) (by simp) fun h5 m5 z5 k5 => ?_
  have x5 : Ext h2 h5 := ⟨by rw [z5]; exact x4.size, fun i hi => (k5 i (by omega)).trans (x4.old i hi)⟩
  refine ⟨b, 0, rfl, _, _, _, (C1.ext x5).get (j := 2) rfl, cntI 0 fun _ hp => hp = h5, cntM 0, cnt_0 rfl, ?_⟩
  rintro x hp1 ⟨i, hi, hx, rfl⟩
  cases hx
  refine ⟨fun hlt => absurd (cnt_lt hlt) (by omega), fun _ => ?_⟩
  rintro r1 h6 rfl rfl
  have x6 := x5.box (.map #[] 0)
  refine ⟨b, 0, rfl, _, _, _, (C1.ext x6).get (j := 2) rfl, cntI 0 fun _ hp => hp = hp1.push (.map #[] 0), cntM 0, cnt_0 rfl, ?_⟩
  rintro x hp2 ⟨i, hi, hx, rfl⟩
  cases hx
  refine ⟨fun hlt => absurd (cnt_lt hlt) (by omega), fun _ => (rounds_c (C1.ext x6)).mono ?_⟩
  rintro en h7 ⟨rfl, x7⟩
  exact ⟨rfl, rfl, s1.ext (x6.trans x7), C1.ext (x6.trans x7)⟩

theorem walk_c (d : Int) (v : Value) : CallsH Tryz.prog 32 #[nilS, vZ d, v] h fun e h' => h' = h ∧ e = .returned (.bool true) := by
  refine V32 _ _ _ _ _ h _ ⟨cntI 0 fun _ hp => hp = h, cntM 0, cnt_0 rfl, ?_⟩
  rintro x hp1 ⟨i, hi, hx, rfl⟩
  cases hx
  exact ⟨fun hlt => absurd (cnt_lt hlt) (by omega), fun _ => ⟨rfl, rfl⟩⟩

theorem info3 : ∃ i z, Tryz.prog.info? 3 = some i ∧ i.zero = some z := by
  have h : (Tryz.prog.info? 3).bind (·.zero) = some (.int .i64 0) := by kernel_rfl
  obtain ⟨i, h1, h2⟩ := Option.bind_eq_some_iff.1 h
  exact ⟨i, _, h1, h2⟩
theorem info4 : ∃ i z, Tryz.prog.info? 4 = some i ∧ i.zero = some z := by
  have h : (Tryz.prog.info? 4).bind (·.zero) = some (.bool false) := by kernel_rfl
  obtain ⟨i, h1, h2⟩ := Option.bind_eq_some_iff.1 h
  exact ⟨i, _, h1, h2⟩
theorem info9 : ∃ i z, Tryz.prog.info? 9 = some i ∧ i.zero = some z := by
  have h : (Tryz.prog.info? 9).bind (·.zero) = some (.string ⟨#[]⟩) := by kernel_rfl
  obtain ⟨i, h1, h2⟩ := Option.bind_eq_some_iff.1 h
  exact ⟨i, _, h1, h2⟩
theorem info26 : ∃ i z, Tryz.prog.info? 26 = some i ∧ i.zero = some z := by
  have h : (Tryz.prog.info? 26).bind (·.zero) = some (.int .i64 0) := by kernel_rfl
  obtain ⟨i, h1, h2⟩ := Option.bind_eq_some_iff.1 h
  exact ⟨i, _, h1, h2⟩
theorem info111 : ∃ i z, Tryz.prog.info? 111 = some i ∧ i.zero = some z := by
  have h : (Tryz.prog.info? 111).bind (·.zero) = some (.map none) := by kernel_rfl
  obtain ⟨i, h1, h2⟩ := Option.bind_eq_some_iff.1 h
  exact ⟨i, _, h1, h2⟩
theorem info92 : ∃ i z, Tryz.prog.info? 92 = some i ∧ i.zero = some z := by
  have h : (Tryz.prog.info? 92).bind (·.zero) = some (.agg #[.string ⟨#[]⟩, nilS, nilS]) := by kernel_rfl
  obtain ⟨i, h1, h2⟩ := Option.bind_eq_some_iff.1 h
  exact ⟨i, _, h1, h2⟩
theorem info104 : ∃ i z, Tryz.prog.info? 104 = some i ∧ i.zero = some z := by
  have h : (Tryz.prog.info? 104).bind (·.zero) = some (.agg #[.int .i64 0, .string ⟨#[]⟩]) := by kernel_rfl
  obtain ⟨i, h1, h2⟩ := Option.bind_eq_some_iff.1 h
  exact ⟨i, _, h1, h2⟩
theorem info107 : ∃ i z, Tryz.prog.info? 107 = some i ∧ i.zero = some z := by
  have h : (Tryz.prog.info? 107).bind (·.zero) = some (.agg #[nilS, nilS, nilS, nilS, nilS, nilS, .string ⟨#[]⟩]) := by kernel_rfl
  obtain ⟨i, h1, h2⟩ := Option.bind_eq_some_iff.1 h
  exact ⟨i, _, h1, h2⟩
noncomputable abbrev zA : Array Value := zeros Tryz.prog 92
theorem zA_size : zA.size = 3 := by kernel_rfl
theorem z104_size : (zeros Tryz.prog 104).size = 2 := by kernel_rfl
theorem z107_size : (zeros Tryz.prog 107).size = 7 := by kernel_rfl
theorem z3_size : (zeros Tryz.prog 3).size = 1 := by kernel_rfl
theorem z4_size : (zeros Tryz.prog 4).size = 1 := by kernel_rfl
theorem z9_size : (zeros Tryz.prog 9).size = 1 := by kernel_rfl
theorem z26_size : (zeros Tryz.prog 26).size = 1 := by kernel_rfl
theorem z111_size : (zeros Tryz.prog 111).size = 1 := by kernel_rfl

theorem sto1 {h hp : Hp} {b : Nat} (x : Ext h hp) (hb : h.size ≤ b) {z : Array Value} {t : TypeId} (hc : hp[b]? = some (.cells z t)) (hz : z.size = 1) {v : Value} (h1 : v.oneCell' = true)
    {K : Hp → Prop} (hK : ∀ hp', Ext h hp' → hp'.size = hp.size → hp'[b]? = some (.cells #[v] t) → (∀ k, k ≠ b → hp'[k]? = hp[k]?) → K hp') :
    Value.oneCell' v = true ∧ wrAt hp b 0 1 ∧ ∀ hp1, hp1 = setsH hp b 0 [v] → K hp1 :=
  (stoT (n := 1) (vs := [v]) x hb hc rfl hz (by simpa using h1) hK).2.imp (fun h => h (v) |> fun _ => h1) id

end
end Go.Vc
