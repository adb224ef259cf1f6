/- TopLongest: the check of the schema, the rest. -/
import Derived.Test.YtamhpfdcnfgngaaGreatTmF
set_option maxRecDepth 10000
namespace Go.Vc
open Go Go.Proofs Go.MapKept

section
variable {h0 h h' : Hp} {b : Nat} {s : SB} {w : Nat}

theorem boolNat {i : Nat} (h : i < 2) : ∃ a : Bool, i = a.toNat := by
  rcases Nat.lt_or_ge i 1 with h1 | h1
  · exact ⟨false, by simp; omega⟩
  · exact ⟨true, by simp; omega⟩
theorem take_bool {α : Type} (x y : α) (a : Bool) : [x, y].take (a.toNat + 1) = [x, y].take a.toNat ++ [cond a y x] := by cases a <;> rfl
theorem an_good (a : Bool) : goodNm (an a) = true := by
  have := List.all_eq_true.1 good_all
  cases a <;> exact this _ (by simp)
theorem nm_good (a : Bool) : goodNm (nm a) = true := by
  have := List.all_eq_true.1 good_all
  cases a <;> exact this _ (by simp)
theorem goodTo : goodNm sTo = true := List.all_eq_true.1 good_all _ (by simp)
theorem goodPort : goodNm sPort = true := List.all_eq_true.1 good_all _ (by simp)
theorem an_no (a : Bool) : an a ∉ [sOut, sNone].take a.toNat := by
  cases a
  · simp
  · intro hm
    exact absurd (List.mem_singleton.1 hm) (by decide)
theorem nm_no (a : Bool) : nm a ∉ [sLong, sHigh].take a.toNat := by
  cases a
  · simp
  · intro hm
    exact absurd (List.mem_singleton.1 hm) (by decide)

theorem pars_seg (S : Sch h w s) {a : Bool} {p : Option Addr} {c : Nat} (hp : s.pars a = .slice p (!a).toNat c) :
    SegS h p (!a).toNat 2 ((cond a [] [(sPort, 64)] : List (ByteArray × Nat)).map fun f => [.string f.1, vI f.2]) := by
  cases a
  · cases hp; exact S.segP
  · cases hp; exact SegS.nil _ _

theorem actions_c (S : Sch h0 w s) (x0 : Ext h0 h) (hb : h0.size ≤ b) (C : Chk h b s) : CallsH Tryz.prog 29 #[vP b] h fun e h' => e = .returned (.tuple #[]) ∧ Same (Bk b) h h' ∧ Chk h' b s := by
  have bk : ∀ x, Bk b x → h0.size ≤ x := fun x hx => by rw [hx]; exact hb
  refine V29 _ h _ ⟨b, 0, rfl, C.sto _ fun h1 s1 C1 => ?_⟩
  refine ⟨b, 0, rfl, _, _, _, C1.get (j := 3) rfl, (need_c _ _).mono ?_⟩
  rintro en h2 ⟨rfl, rfl⟩
  refine ⟨rfl, ?_⟩
  rintro r h3 rfl rfl
  have x3 := Ext.push h2 (.map #[] 0)
  have r1 := C1.lt
  have r2 := s1.size
  refine ⟨b, 0, rfl, _, _, _, (C1.ext x3).get (j := 3) rfl, cntI 2 fun i hp => Same (Bk b) h hp ∧ Chk hp b s ∧ MapAt hp h2.size (([sOut, sNone].take i).map ent), cntM 2, cnt_0 ⟨s1.ext x3, C1.ext x3, MapAt.new h2⟩, ?_⟩
  rintro x hp ⟨i, hi, hx, sa, Ca, ma⟩
  cases hx
  refine ⟨fun hlt => ?_, fun _ => ⟨rfl, sa, Ca⟩⟩
  have hlt := cnt_lt hlt
  obtain ⟨a, rfl⟩ := boolNat hlt
  have Sa := S.ext (x0.over sa bk)
  obtain ⟨b1, o1, e1, e2, e3, e4⟩ := Sa.act_at a
  obtain ⟨pp, cp, hpp⟩ := s.pars_form a
  have hrow : cond a act1 s.act0 = [.string (an a), .slice pp (!a).toNat cp, nilS] := by
    rw [← hpp]; cases a <;> rfl
  rw [hrow] at e4
  refine ⟨b1, o1, e1, e2, e3, _, _, _, _, _, _, _, e4, ?_⟩
  rintro b4 h4 rfl rfl
  have x4 := Ext.push hp (.cells zA 92)
  refine ⟨info92, stoT (n := 3) x4 (Nat.le_refl _) push_last rfl zA_size (by simp [Value.oneCell']) fun h5 x5 z5 c5 k5 => ?_⟩
  refine ⟨_, cellsAt_one (cellH_at c5), by cases a <;> decide, _, rfl, b, 0, rfl, (Ca.ext x5).sto _ fun h6 s6 C6 => ?_⟩
  have m5 := (ma.ext x5).lt
  have n4 : hp.size ≠ b := by have := Ca.lt; omega
  have n4r : hp.size ≠ h2.size := by have := ma.lt; omega
  have c6 := (s6.old _ (Array.getElem?_eq_some_iff.1 c5).1 n4).trans c5
  have m6 := (ma.ext x5).congr (s6.old _ m5 (by show h2.size ≠ b; omega))
  refine ⟨_, cellsAt_one (cellH_at c6), (name_c (an_good a) m6 (an_no a)).mono ?_⟩
  rintro en h7 ⟨rfl, s7, m7⟩
  have C7 := C6.keep s7 (by show ¬ b = h2.size; omega)
  have c7 := (s7.old _ (Array.getElem?_eq_some_iff.1 c6).1 n4r).trans c6
  refine ⟨rfl, fun _ q => q = h7, ⟨_, _, _, cellsAt_one (cellH_at c7), fun _ => ⟨_, _, _, cellsAt_one (cellH_at c7), (need_c _ _).mono ?_⟩, fun hf => ?_⟩, ?_⟩
  · rintro en h8 ⟨rfl, rfl⟩
    exact ⟨rfl, rfl⟩
  · exfalso; revert hf; cases a <;> decide
  rintro h7 rfl
  have sh7 : Same (Bk b) h h7 := ((sa.ext x5).new s6 fun _ h _ => h).new s7 fun x hx hl => by have : x = h2.size := hx; omega
  have S7 := S.ext (x0.over sh7 bk)
  refine ⟨_, _, _, cellsAt_one (cellH_at c7), (fields_c (pars_seg S7 hpp) (by cases a <;> decide) ?_ ?_).mono ?_⟩
  · cases a
    · intro f hf
      simp only [cond_false, List.mem_cons, List.not_mem_nil, or_false] at hf
      subst hf; exact ⟨goodPort, by decide, by decide⟩
    · intro f hf; cases hf
  · cases a <;> simp
  rintro en h11 ⟨rfl, x11⟩
  refine ⟨rfl, _, _, _, cellsAt_one (cellH_at (x11.at c7)), cntI 0 fun _ q => q = h11, cntM 0, cnt_0 rfl, ?_⟩
  rintro x hp12 ⟨i, hi, hx, rfl⟩
  cases hx
  refine ⟨fun hlt => absurd (cnt_lt hlt) (by omega), fun _ => cnt_next hlt (by decide) ⟨sh7.ext x11, C7.ext x11, ?_⟩⟩
  rw [take_bool]
  exact m7.ext x11

theorem tables_c (S : Sch h0 w s) (x0 : Ext h0 h) (hb : h0.size ≤ b) (C : Chk h b s) : CallsH Tryz.prog 30 #[vP b] h fun e h' => e = .returned (.tuple #[]) ∧ Same (Bk b) h h' ∧ Chk h' b s := by
  have bk : ∀ x, Bk b x → h0.size ≤ x := fun x hx => by rw [hx]; exact hb
  refine V30 _ h _ ⟨b, 0, rfl, C.sto _ fun h1 s1 C1 => ?_⟩
  refine ⟨b, 0, rfl, _, _, _, C1.get (j := 4) rfl, (need_c _ _).mono ?_⟩
  rintro en h2 ⟨rfl, rfl⟩
  refine ⟨rfl, ?_⟩
  rintro r h3 rfl rfl
  have x3 := Ext.push h2 (.map #[] 0)
  have r1 := C1.lt
  have r2 := s1.size
  refine ⟨b, 0, rfl, _, _, _, (C1.ext x3).get (j := 4) rfl, cntI 2 fun i hp => Same (Bk b) h hp ∧ Chk hp b s ∧ MapAt hp h2.size (([sLong, sHigh].take i).map ent), cntM 2, cnt_0 ⟨s1.ext x3, C1.ext x3, MapAt.new h2⟩, ?_⟩
  rintro x hp ⟨i, hi, hx, sa, Ca, ma⟩
  cases hx
  refine ⟨fun hlt => ?_, fun _ => ⟨rfl, sa, Ca⟩⟩
  have hlt := cnt_lt hlt
  obtain ⟨k, rfl⟩ := boolNat hlt
  have Sa := S.ext (x0.over sa bk)
  obtain ⟨b1, o1, e1, e2, e3, e4⟩ := Sa.tab_at k
  refine ⟨b1, o1, e1, e2, e3, _, _, _, _, _, _, _, _, _, _, _, _, _, e4, ?_⟩
  rintro b4 h4 rfl rfl
  have x4 := Ext.push hp (.cells zT 73)
  refine ⟨info73, stoT (n := 7) x4 (Nat.le_refl _) push_last rfl zT_size (by simp [Value.oneCell']) fun h5 x5 z5 c5 k5 => ?_⟩
  refine ⟨_, cellsAt_one (cellH_at c5), by cases k <;> decide, _, rfl, b, 0, rfl, (Ca.ext x5).sto _ fun h6 s6 C6 => ?_⟩
  have m5 := (ma.ext x5).lt
  have n4 : hp.size ≠ b := by have := Ca.lt; omega
  have n4r : hp.size ≠ h2.size := by have := ma.lt; omega
  have c6 := (s6.old _ (Array.getElem?_eq_some_iff.1 c5).1 n4).trans c5
  have m6 := (ma.ext x5).congr (s6.old _ m5 (by show h2.size ≠ b; omega))
  refine ⟨_, cellsAt_one (cellH_at c6), (name_c (nm_good k) m6 (nm_no k)).mono ?_⟩
  rintro en h7 ⟨rfl, s7, m7⟩
  have C7 := C6.keep s7 (by show ¬ b = h2.size; omega)
  have c7 := (s7.old _ (Array.getElem?_eq_some_iff.1 c6).1 n4r).trans c6
  refine ⟨rfl, fun _ q => q = h7, ⟨_, _, _, cellsAt_one (cellH_at c7), fun _ => ⟨_, _, _, cellsAt_one (cellH_at c7), (need_c _ _).mono ?_⟩, fun hf => absurd hf (by decide)⟩, ?_⟩
  · rintro en h8 ⟨rfl, rfl⟩
    exact ⟨rfl, rfl⟩
  rintro h7 rfl
  have sh7 : Same (Bk b) h h7 := ((sa.ext x5).new s6 fun _ h _ => h).new s7 fun x hx hl => by have : x = h2.size := hx; omega
  have S7 := S.ext (x0.over sh7 bk)
  refine ⟨_, _, _, cellsAt_one (cellH_at c7), fun vs q => (vs = [vI 0, vI 0] ∧ q = h7) ∨ (∃ pf : Int, vs = [vZ pf, vI 1] ∧ Ext h7 q), fun vs _ => 1 - (numAt (vs.drop 1) 0).toNat, .inl ⟨rfl, rfl⟩, ?_⟩
  rintro pf x h11 hI
  refine ⟨fun hlt1 => ?_, fun hge1 => ?_⟩
  · -- a part of the key
    rcases hI with ⟨hv, rfl⟩ | ⟨pf', hv, _⟩
    case inr => cases hv; exact absurd hlt1 (by decide)
    cases hv
    obtain ⟨b2, o2, f1, f2, f3, f4⟩ := (S7.segK k).at (i := 0) (by simp)
    refine ⟨b2, o2, f1, f2, f3, _, _, _, f4, ?_⟩
    rintro b7 h12 rfl rfl
    have x12 := Ext.push h11 (.cells zK 94)
    refine ⟨info94, stoT (n := 3) x12 (Nat.le_refl _) push_last rfl zK_size (by simp [Value.oneCell']) fun h13 x13 z13 c13 k13 => ?_⟩
    have S13 := S7.ext x13
    have C13 := C7.ext x13
    have ref : ∀ q, Ext h13 q → cellsAt q h11.size (0 + 0) [.string sMeta, .string sTo] := fun q xq => cellsAt_of (xq.at c13) fun j hj => by
      match j, hj with
      | 0, _ => rfl
      | 1, _ => rfl
    refine ⟨fun vs q => vs = [.bool true] ∧ Ext h13 q, ⟨⟨fun q => Ext h13 q, Ext.refl _, b, 0, rfl, _, _, _, _, _, _, _, _, _, _, _, _, _, _, _, _, _, _, fun q xq => (C13.ext xq).six, _, _, ref, (fieldOf_c S13).mono ?_⟩, ⟨fun q => Ext h13 q, Ext.refl _, b, 0, rfl, _, _, _, _, _, _, _, _, _, _, _, _, _, _, _, _, _, _, fun q xq => (C13.ext xq).six, _, _, ref, ?_⟩⟩, ?_⟩
    · rintro en h14 ⟨rfl, x14⟩
      refine ⟨_, _, _, rfl, x14, ?_⟩
      rintro b9 h15 rfl rfl
      have x15 := x14.box (.cells zF 89)
      exact ⟨info89, x15, stoT (n := 2) x15 x14.size push_last rfl zF_size (by simp [Value.oneCell']) fun h16 x16 _ _ _ => ⟨x16, rfl, x16⟩⟩
    · rintro b9 h14 rfl rfl
      have x14 := Ext.push h13 (.cells zF 89)
      refine ⟨info89, x14, (fieldOf_c (S13.ext x14)).mono ?_⟩
      rintro en h15 ⟨rfl, x15⟩
      exact ⟨_, _, _, rfl, x14.trans x15, stoT (n := 2) (x14.trans x15) (Nat.le_refl _) (x15.at push_last) rfl zF_size (by simp [Value.oneCell']) fun h16 x16 _ _ _ => ⟨x16, rfl, x16⟩⟩
    rintro ok h20 ⟨hv, x20⟩
    cases hv
    refine (need_c _ _).mono ?_
    rintro en h21 ⟨rfl, rfl⟩
    have c21 := x20.at c13
    refine ⟨rfl, fun _ q => q = h21, ⟨_, cellsAt_one (cellH_at c21), fun _ => ⟨_, cellsAt_one (cellH_at c21), ?_⟩, fun hf => ?_⟩, ?_⟩
    · rw [show decide ((kd k : Int) ≤ (4 : Int)) = true by cases k <;> decide]
      refine (need_c _ _).mono ?_
      rintro en h22 ⟨rfl, rfl⟩
      exact ⟨rfl, rfl⟩
    · exfalso; revert hf; cases k <;> decide
    rintro h21 rfl
    refine ⟨_, cellsAt_one (cellH_at c21), fun h2k => ?_, fun h2k => ?_⟩
    · cases k
      case true => exact absurd h2k (by decide)
      refine ⟨1, by decide, fun _ => ?_, fun hf => absurd hf (by decide)⟩
      refine ⟨_, _, _, _, _, _, _, _, _, _, _, _, _, cellsAt_all (x20.at (x13.at c7)), (kind_c ((S13.ext x20).k false) _ _ _ _ _ _ _ _ _ _).mono ?_⟩
      rintro en h22 ⟨rfl, x22⟩
      refine ⟨_, rfl, (need_c _ _).mono ?_⟩
      rintro en h23 ⟨rfl, rfl⟩
      exact ⟨rfl, 1, by decide, .inr ⟨1, rfl, (x13.trans x20).trans x22⟩, show 0 < 1 by decide⟩
    · exact ⟨1, by decide, .inr ⟨0, rfl, x13.trans x20⟩, show 0 < 1 by decide⟩
  · -- behind the key
    have x7 : Ext h7 h11 := by
      rcases hI with ⟨hv, rfl⟩ | ⟨pf', hv, hx⟩
      · cases hv; exact absurd hge1 (by decide)
      · exact hx
    clear hI hge1
    refine ⟨fun _ q => q = h11, ⟨_, _, _, cellsAt_one (cellH_at (x7.at c7)), fun _ => ⟨_, _, _, cellsAt_one (cellH_at (x7.at c7)), (need_c _ _).mono ?_⟩, fun hf => absurd hf (by decide)⟩, ?_⟩
    · rintro en h12 ⟨rfl, rfl⟩
      exact ⟨rfl, rfl⟩
    rintro h11 rfl r1 h13 rfl rfl
    have x13 := Ext.push h11 (.map #[] 0)
    refine ⟨_, _, _, cellsAt_one (cellH_at ((x7.trans x13).at c7)), cntI 2 fun i q => Ext h11 q ∧ MapAt q h11.size (([sOut, sNone].take i).map ent), cntM 2, cnt_0 ⟨x13, MapAt.new h11⟩, ?_⟩
    rintro x hp2 ⟨i, hi, hx, x2, m2⟩
    cases hx
    have S2 := (S7.ext x7).ext x2
    have C2 := (C7.ext x7).ext x2
    have c2 := (x7.trans x2).at c7
    refine ⟨fun hlt2 => ?_, fun _ => ?_⟩
    · have hlt2 := cnt_lt hlt2
      obtain ⟨a, rfl⟩ := boolNat hlt2
      have sg : SegS hp2 (some ⟨s.bn k, 0, none⟩) 2 1 [[.string sOut], [.string sNone]] := seg_of rfl (by simp) (S2.n k)
      obtain ⟨b2, o2, f1, f2, f3, f4⟩ := sg.at (i := a.toNat) (by cases a <;> decide)
      refine ⟨b2, o2, f1, f2, f3, an a, (by cases a <;> exact f4), b, 0, rfl, _, _, _, _, _, _, _, _, _, _, _, _, _, _, _, _, _, _, C2.six, (actionAt_c S2 a).mono ?_⟩
      rintro en h14 ⟨rfl, x14⟩
      refine ⟨_, rfl, ?_⟩
      rw [show decide ((0 : Int) ≤ ((a.toNat : Nat) : Int)) = true from decide_eq_true (by omega)]
      refine (need_c _ _).mono ?_
      rintro en h15 ⟨rfl, rfl⟩
      refine ⟨rfl, semH_lookup mapN (m2.ext x14) (ent_keys _) (show IsKey .string (.string (an a)) from trivial) (fun _ => ⟨_, rfl, (need_c _ _).mono ?_⟩) (fun v j hj => (ent_no (an_no a) _ (List.mem_of_getElem? hj) rfl).elim)⟩
      rintro en h16 ⟨rfl, rfl⟩
      refine ⟨rfl, semH_mapNew mapN (m2.ext x14) (ent_keys _) (show IsKey .string (.string (an a)) from trivial) (ent_no (an_no a)) fun h17 m17 z17 k17 => cnt_next hlt2 (by decide) ⟨?_, ?_⟩⟩
      · have x16 := x2.trans x14
        exact ⟨by rw [z17]; exact x16.size, fun q hq => (k17 q (by omega)).trans (x16.old q hq)⟩
      · rw [take_bool, List.map_append]
        cases a <;> exact m17
    · refine ⟨fun _ q => q = hp2, ⟨_, cellsAt_one (cellH_at c2), fun _ => ⟨_, cellsAt_one (cellH_at c2), (need_c _ _).mono ?_⟩, fun hf => absurd hf (by decide)⟩, ?_⟩
      · rintro en h12 ⟨rfl, rfl⟩
        exact ⟨rfl, rfl⟩
      rintro hp2 rfl
      refine ⟨b, 0, rfl, _, _, _, _, _, _, _, _, _, _, _, _, _, _, _, _, _, _, C2.six, _, cellsAt_one (cellH_at c2), sNone, none, 0, 0, cellsAt_of c2 (fun j hj => by
        match j, hj with
        | 0, _ => rfl
        | 1, _ => rfl), (call_c S2 k true (v := nilS) rfl).mono ?_⟩
      rintro en h18 ⟨rfl, x18⟩
      refine ⟨_, rfl, fun hf => absurd hf (by decide), fun _ => cnt_next hlt (by decide) ⟨?_, ?_, ?_⟩⟩
      · exact sh7.ext ((x7.trans x2).trans x18)
      · exact C2.ext x18
      · rw [take_bool]
        have := m7.ext ((x7.trans x2).trans x18)
        cases k <;> exact this

theorem tall_c (s : SB) : CallsH Tryz.prog 31 #[s.val] h (RetX (vZ 0) h) := by
  refine V31 _ _ _ _ _ _ _ _ _ _ _ _ _ _ _ _ _ _ h _ ?_
  rintro b0 h0 rfl rfl b1 h1 hb1 hh1
  refine ⟨info3, ?_⟩
  rintro b2 h2 hb2 hh2
  have x1 : Ext h h1 := by rw [hh1]; exact (Ext.push _ _).box _
  have x2 : Ext h h2 := by rw [hh2]; exact x1.box _
  have c0 : h2[h.size]? = some (.cells s.cells.toArray 36) := by rw [hh2, hh1]; exact ((Ext.push _ _).box _).at push_last
  have c1 : h2[b1]? = some (.cells (zeros Tryz.prog 3) 3) := by rw [hh2]; exact (Ext.push _ _).at (by rw [hh1, hb1]; exact push_last)
  have c2 : h2[b2]? = some (.cells (zeros Tryz.prog 4) 4) := by rw [hh2, hb2]; exact push_last
  have z0 : h1.size = h.size + 2 := by rw [hh1]; simp
  have n1 : b1 = h.size + 1 := by rw [hb1]; simp
  have n2 : b2 = h.size + 2 := by omega
  refine ⟨info4, sto1 x2 (by omega) c1 z3_size rfl fun h3 x3 z3 c3 k3 => sto1 x3 (by omega) ((k3 _ (by omega)).trans c2) z4_size rfl fun h4 x4 z4 c4 k4 => ?_⟩
  refine ⟨_, _, _, cellsAt_one (cellH_at ((k4 _ (by omega)).trans ((k3 _ (by omega)).trans c0))), (walk_c _ _).mono ?_⟩
  rintro en h5 ⟨rfl, rfl⟩
  exact ⟨_, rfl, fun hf => (by cases hf), fun _ => ⟨_, cellsAt_one (cellH_at c4), fun hf => (by cases hf), fun _ => ⟨rfl, x4⟩⟩⟩

theorem check_c (S : Sch h w s) : CallsH Tryz.prog 13 #[s.val] h (RetX (.tuple #[vZ 0, .string ⟨#[]⟩]) h) := by
  refine V13 _ _ _ _ _ _ _ _ _ _ _ _ _ _ _ _ _ _ h _ ?_
  rintro b0 h0 rfl rfl b1 h1 hb1 hh1
  refine ⟨info26, ?_⟩
  rintro b2 h2 hb2 hh2
  have x1 : Ext h h1 := by rw [hh1]; exact (Ext.push _ _).box _
  have x2 : Ext h h2 := by rw [hh2]; exact x1.box _
  have c0 : h2[h.size]? = some (.cells s.cells.toArray 36) := by rw [hh2, hh1]; exact ((Ext.push _ _).box _).at push_last
  have c1 : h2[b1]? = some (.cells (zeros Tryz.prog 26) 26) := by rw [hh2]; exact (Ext.push _ _).at (by rw [hh1, hb1]; exact push_last)
  have c2 : h2[b2]? = some (.cells (zeros Tryz.prog 9) 9) := by rw [hh2, hb2]; exact push_last
  have z0 : h1.size = h.size + 2 := by rw [hh1]; simp
  have z2 : h2.size = h.size + 3 := by rw [hh2]; simp [z0]
  have n1 : b1 = h.size + 1 := by rw [hb1]; simp
  have n2 : b2 = h.size + 2 := by omega
  clear hh1 hh2 hb1 hb2
  refine ⟨info9, _, _, _, _, _, _, _, _, _, _, _, _, _, _, _, _, _, _, cellsAt_all c0, ?_⟩
  rintro b3 h3 rfl rfl
  refine ⟨info107, stoT (n := 7) (h := h2) (Ext.push _ _) (Nat.le_refl _) push_last rfl z107_size (by simp [Value.oneCell']) fun h4 x4 z4 c4 k4 => ?_⟩
  have C4 : Chk h4 h2.size s := ⟨_, c4⟩
  refine (headers_c C4).mono ?_
  rintro en h5 ⟨rfl, s5, C5⟩
  refine ⟨rfl, C5.sto _ fun h6 s6 C6 => ?_⟩
  have s46 : Same (Bk h2.size) h4 h6 := s5.trans s6 fun _ h _ => h
  have bk : ∀ x, Bk h2.size x → h2.size ≤ x := fun x hx => by rw [hx]; exact Nat.le_refl _
  have x6 : Ext h2 h6 := x4.over s46 bk
  refine ⟨_, _, _, cellsAt_one (cellH_at (x6.at c0)), (need_c _ _).mono ?_⟩
  rintro en h7 ⟨rfl, rfl⟩
  have S2 := S.ext x2
  refine ⟨rfl, _, _, _, cellsAt_one (cellH_at (x6.at c0)), (fields_c (fs := [(sTo, w)]) (S2.ext x6).segM (by decide) ?_ (by simp)).mono ?_⟩
  · intro f hf
    simp only [List.mem_cons, List.not_mem_nil, or_false] at hf
    subst hf; exact ⟨goodTo, S.w1, S.w2⟩
  rintro en h8 ⟨rfl, x8⟩
  refine ⟨rfl, (states_c (C6.ext x8)).mono ?_⟩
  rintro en h9 ⟨rfl, s9, C9⟩
  have x9 : Ext h2 h9 := (x6.trans x8).over s9 bk
  refine ⟨rfl, (actions_c S2 x9 (Nat.le_refl _) C9).mono ?_⟩
  rintro en h10 ⟨rfl, s10, C10⟩
  have x10 : Ext h2 h10 := x9.over s10 bk
  refine ⟨rfl, (tables_c S2 x10 (Nat.le_refl _) C10).mono ?_⟩
  rintro en h11 ⟨rfl, s11, C11⟩
  have x11 : Ext h2 h11 := x10.over s11 bk
  refine ⟨rfl, C11.sto _ fun h12 s12 C12 => ?_⟩
  have x12 : Ext h2 h12 := x11.over s12 bk
  refine ⟨fun _ q => Ext h2 q, ⟨_, _, _, _, _, _, _, _, _, _, _, _, _, _, _, _, _, _, cellsAt_all (x12.at c0), (tall_c s).mono ?_⟩, ?_⟩
  · rintro en h13 ⟨rfl, x13⟩
    exact ⟨_, rfl, fun hf => absurd hf (by decide), fun _ => x12.trans x13⟩
  rintro h14 x14 r h15 rfl rfl b4 h16 rfl rfl
  have x16 : Ext h2 ((h14.push (.map #[] 0)).push (.cells (zeros Tryz.prog 111) 111)) := (x14.box _).box _
  refine ⟨info111, sto1 x16 (by simp; have := x14.size; omega) push_last z111_size rfl fun h17 x17 z17 c17 k17 => ?_⟩
  refine ⟨_, _, _, cellsAt_one (cellH_at (x17.at c0)), (walk_c _ _).mono ?_⟩
  rintro en h18 ⟨rfl, rfl⟩
  refine ⟨_, rfl, sto1 (h := h) (x2.trans x17) (by omega) (x17.at c1) z26_size rfl fun h19 x19 z19 c19 k19 => sto1 x19 (by omega) ((k19 _ (by omega)).trans (x17.at c2)) z9_size rfl fun h20 x20 z20 c20 k20 => ?_⟩
  have c20' := (k20 b1 (by omega)).trans c19
  refine (V24 _ _ h20 (fun q => Ext h20 q) ?_).mono ?_
  · rintro b5 h21 rfl rfl
    have x21 := Ext.push h20 (.cells (zeros Tryz.prog 104) 104)
    exact ⟨info104, stoT (n := 2) x21 (Nat.le_refl _) push_last rfl z104_size (by simp [Value.oneCell']) fun h22 x22 _ _ _ => ⟨fun hf => (by cases hf), fun _ => x22⟩⟩
  · rintro md h21 ⟨rfl, x21⟩
    exact ⟨rfl, _, cellsAt_one (cellH_at (x21.at c20')), _, cellsAt_one (cellH_at (x21.at c20)), rfl, x20.trans x21⟩
end
end Go.Vc
