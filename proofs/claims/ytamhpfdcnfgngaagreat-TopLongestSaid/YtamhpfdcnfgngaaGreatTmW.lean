import Derived.Test.YtamhpfdcnfgngaaGreatTmJ
import Derived.DeepKeys4
import Derived.WideKeyMaps2
set_option maxRecDepth 10000
/- TopLongest: match's table.who, Who and Right. -/
namespace Go.Vc
open Go Go.Proofs Go.MapKept

section
variable {h : Hp} {w : Nat} {s : SB}

theorem may_args {g : Nat} {m : Value} {cap : Array Value} {h : Hp} {R : Ending → Hp → Prop} (hc : CallsH Tryz.prog g (m :: cap.toList).toArray h R) : CallsH Tryz.prog g ((#[] : Array Value).toList ++ [m] ++ cap.toList).toArray h R := by
  simpa only [List.nil_append, List.cons_append] using hc

theorem who_c {k : Bool} {bk ck bn cn bp cp mp mc n : Nat} {v : B128} {f g1 g2 g3 : Value} {act : ByteArray} {ap : Option Addr} {an ac : Nat} (hw : w ≤ 128)
    (hb : cellsAt h bp 0 [vI (kd k), vI w, f, g1, g2, g3]) (hf : MayOk h w k f) (r1 : g1.oneCell' = true) (r2 : g2.oneCell' = true) (r3 : g3.oneCell' = true)
    (hm : cellsAt h mp 0 (mcells k w n v)) (hn : n ≤ w) (hv : v &&& msk w n = v) :
    CallsH Tryz.prog 95 #[.agg (tabP k bk ck bn cn (sl bp 1 cp)), .agg #[sl mp 1 mc, vI (cond k (n + 1) 0), .string act, .slice ap an ac]] h (RetX (vI 0) h) := by
  refine V95 _ _ _ _ _ _ _ _ _ _ _ _ _ _ _ _ _ _ _ _ _ _ _ _ _ h _ ?_
  rintro b0 h0 rfl rfl b1 h1 hb1 hh1
  have x1 : Ext h h1 := by rw [hh1]; exact (Ext.push _ _).box _
  have c0 : h1[h.size]? = some (.cells (tabP k bk ck bn cn (sl bp 1 cp)) 195) := by rw [hh1]; exact (Ext.push _ _).at push_last
  have c1 : h1[b1]? = some (.cells #[sl mp 1 mc, vI (cond k (n + 1) 0), .string act, .slice ap an ac] 53) := by rw [hh1, hb1]; exact push_last
  clear hh1 hb1
  refine ⟨_, _, _, cellsAt_one (cellH_at c1), _, _, _, cellsAt_one (cellH_at c0), fun hf => absurd hf (by decide), fun _ => ?_⟩
  refine ⟨_, _, _, cellsAt_one (cellH_at c0), fun vs q => Ext h1 q ∧ (vs = [vI 0] ∨ vs = [vI 1]), fun vs _ => 1 - (numAt vs 0).toNat, ⟨Ext.refl _, .inl rfl⟩, ?_⟩
  rintro x h2 ⟨x2, hv2⟩
  have x12 := x1.trans x2
  rcases hv2 with hv2 | hv2 <;> cases hv2
  · refine ⟨fun _ => ⟨bp, 0, rfl, by decide, by decide, _, _, _, _, _, _, x12.cells hb, ?_⟩, fun hf => absurd hf (by decide)⟩
    rintro b3 h3 rfl rfl
    have x3 := Ext.push h2 (.cells (zeros Tryz.prog 209) 209)
    refine ⟨info209, stoT (n := 6) x3 (Nat.le_refl _) push_last rfl z209_size (six_one hf.one r1 r2 r3) fun h4 x4 z4 c4 k4 => ?_⟩
    have x14 := x12.trans x4
    obtain ⟨g, cap, rfl, hg, hc⟩ := may_c (hf.ext x14) hw hn hv
    refine ⟨_, cellsAt_one (cellH_at c4), _, _, _, cellsAt_one (cellH_at ((x2.trans x4).at c1)), mp, 0, rfl, by decide, by decide, _, _, _, _, _, x14.cells hm, g, #[], cap, rfl, hg, ?_⟩
    refine CallsH.mono (may_args hc) ?_
    rintro en h5 ⟨rfl, x5⟩
    exact ⟨_, rfl, fun hf => absurd hf (by decide), fun _ => ⟨1, by decide, ⟨(x2.trans x4).trans x5, .inr rfl⟩, show 0 < 1 by decide⟩⟩
  · refine ⟨fun hf => absurd hf (by decide), fun _ => ?_⟩
    refine ⟨fun vs q => Ext h q ∧ q = h2 ∧ vs = cond k [vI 1, .int .i64 16777216] [vI 0, vI 0], ⟨_, cellsAt_one (cellH_at (x2.at c0)), ?_, ?_⟩, ?_⟩
    · rintro rfl; exact ⟨x12, rfl, rfl⟩
    · rintro rfl; exact ⟨x12, rfl, rfl⟩
    rintro a b h6 ⟨x6, rfl, hab⟩
    have hp := cellsAt_one (h := h6) (b := b1) (o := 0 + 1) (v := vI (cond k (n + 1) 0)) (cellH_at (x2.at c1))
    refine ⟨false, ⟨_, hp, ?_, ?_⟩, fun hf => absurd hf (by decide), fun _ => ⟨rfl, x6⟩⟩
    · intro hf
      have := of_decide_eq_true hf
      cases k <;> cases hab
      · simp at this
      · simp at this; omega
    · intro hf
      refine ⟨_, hp, rfl, ?_⟩
      symm
      apply decide_eq_false
      cases k <;> cases hab
      · simp
      · simp; omega

theorem Who_c (S : Sch h w s) {k : Bool} {mp mc n : Nat} {v : B128} {act : ByteArray} {ap : Option Addr} {an ac : Nat}
    (hm : cellsAt h mp 0 (mcells k w n v)) (hn : n ≤ w) (hv : v &&& msk w n = v) :
    CallsH Tryz.prog 74 #[s.val, .string (nm k), .agg #[sl mp 1 mc, vI (cond k (n + 1) 0), .string act, .slice ap an ac]] h (RetX (vI 0) h) := by
  refine V74 _ _ _ _ _ _ _ _ _ _ _ _ _ _ _ _ _ _ _ _ _ _ _ _ _ _ _ h _ ?_
  rintro b0 h0 rfl rfl b1 h1 hb1 hh1
  have x1 : Ext h h1 := by rw [hh1]; exact (Ext.push _ _).box _
  have c0 : h1[h.size]? = some (.cells s.cells.toArray 36) := by rw [hh1]; exact (Ext.push _ _).at push_last
  have c1 : h1[b1]? = some (.cells #[sl mp 1 mc, vI (cond k (n + 1) 0), .string act, .slice ap an ac] 53) := by rw [hh1, hb1]; exact push_last
  clear hh1 hb1
  refine ⟨_, _, _, _, _, _, _, _, _, _, _, _, _, _, _, _, _, _, cellsAt_all c0, (of_c (S.ext x1) k).mono ?_⟩
  rintro en h2 ⟨x2, bk, ck, bn, cn, bp, cp, f, g1, g2, g3, rfl, hp, hf, r1, r2, r3⟩
  refine ⟨_, _, _, _, _, _, _, _, _, _, _, _, _, _, _, _, _, _, rfl, ?_⟩
  rintro b3 h3 rfl rfl
  have x3 := Ext.push h2 (.cells (zeros Tryz.prog 195) 195)
  refine ⟨info195, stoT (n := 9) x3 (Nat.le_refl _) push_last rfl z195_size (by simp [Value.oneCell']) fun h4 x4 z4 c4 k4 => ⟨fun hf => absurd hf (by decide), fun _ => ?_⟩⟩
  refine ⟨_, _, _, _, _, _, _, _, _, _, _, _, _, _, _, _, _, cellsAt_all c4, _, _, _, _, _, _, _, _, cellsAt_all ((x2.trans x4).at c1), (who_c S.w2 (x4.cells hp) (hf.ext x4) r1 r2 r3 (((x1.trans x2).trans x4).cells hm) hn hv).mono ?_⟩
  rintro en h5 ⟨rfl, x5⟩
  exact ⟨_, rfl, rfl, ((x1.trans x2).trans x4).trans x5⟩

theorem Right_c (S : Sch h w s) {k : Bool} {mp mc n : Nat} {v : B128} {a : Bool} {av : Value} (A : ArgsAt h a av)
    (hm : cellsAt h mp 0 (mcells k w n v)) (hn : n ≤ w) (hv : v &&& msk w n = v) :
    CallsH Tryz.prog 73 #[s.val, .string (nm k), .agg #[sl mp 1 mc, vI (cond k (n + 1) 0), .string (an a), av]] h (RetX (vI 0) h) := by
  obtain ⟨ap, ac, rfl⟩ := A.form
  refine V73 _ _ _ _ _ _ _ _ _ _ _ _ _ _ _ _ _ _ _ _ _ _ _ _ _ _ _ h _ ?_
  rintro b0 h0 rfl rfl b1 h1 hb1 hh1
  have x1 : Ext h h1 := by rw [hh1]; exact (Ext.push _ _).box _
  have c0 : h1[h.size]? = some (.cells s.cells.toArray 36) := by rw [hh1]; exact (Ext.push _ _).at push_last
  have c1 : h1[b1]? = some (.cells #[sl mp 1 mc, vI (cond k (n + 1) 0), .string (an a), .slice ap (!a).toNat ac] 53) := by rw [hh1, hb1]; exact push_last
  clear hh1 hb1
  refine ⟨_, _, _, _, _, _, _, _, _, _, _, _, _, _, _, _, _, _, cellsAt_all c0, _, _, _, _, _, _, _, _, cellsAt_all c1, (Who_c (S.ext x1) (x1.cells hm) hn hv).mono ?_⟩
  rintro en h2 ⟨rfl, x2⟩
  refine ⟨_, rfl, fun hf => absurd hf (by decide), fun _ => ⟨_, _, _, _, _, _, _, _, _, _, _, _, _, _, _, _, _, _, cellsAt_all (x2.at c0), _, _, _, _, bits_of (x2.at c1) rfl rfl, ((call_c (S.ext (x1.trans x2)) k a (A.ext (x1.trans x2)))).mono ?_⟩⟩
  rintro en h3 ⟨rfl, x3⟩
  exact ⟨_, rfl, rfl, (x1.trans x2).trans x3⟩
end
end Go.Vc

/- TopLongest: maps whose keys are arrays. -/
namespace Go.Vc
open Go Go.Proofs Go.MapKept Go.WideMaps

theorem map_erase1 {α β : Type} (f : α → β) : ∀ (l : List α) (j : Nat), (l.eraseIdx j).map f = (l.map f).eraseIdx j
  | [], _ => by simp
  | _ :: _, 0 => by simp
  | x :: l, j + 1 => by simp [map_erase1 f l j]

section
variable {P : Program} {t kt et : TypeId} {h : Hp} {r : Nat} {l : List (Value × Value)}

structure MapW (P : Program) (t kt et : TypeId) (z : Value) : Prop where
  ht : P.underlying t = some (.map kt et)
  K : KeyLaw P kt
  hz : (P.info? et).bind (·.zero) = some z
def KeyIs (P : Program) (kt : TypeId) (v : Value) : Prop := ∃ l, keyOf P kt v = some l

theorem semH_lookupW {z k : Value} {ok : Bool} (T : MapW P t kt et z) (m : MapAt h r l) (hks : ∀ x ∈ l, KeyIs P kt x.1) (hk : KeyIs P kt k) {R : Value → Hp → Prop}
    (h0 : (∀ x ∈ l, x.1 ≠ k) → R (if ok then .tuple #[z, .bool false] else z) h)
    (h1 : ∀ (v : Value) (j : Nat), l[j]? = some (k, v) → R (if ok then .tuple #[v, .bool true] else v) h) : SemH P (Instr.lookup t (.map (some r)) k ok) h R := by
  obtain ⟨es, c, hb, rfl⟩ := m
  obtain ⟨i, hi, hz⟩ := Option.bind_eq_some_iff.1 T.hz
  obtain ⟨lk, hlk⟩ := hk
  have hks' : ∀ x ∈ es.toList, ∃ l, keyOf P kt x.key = some l := fun x hx => hks (x.key, x.val) (List.mem_map.2 ⟨x, hx, rfl⟩)
  intro w hw
  subst hw
  rcases T.K.find w hlk es.toList hks' with ⟨hf, hn⟩ | ⟨j, e, hf, hj, hek⟩
  · refine ⟨_, w, ?_, Rest.refl w, h0 fun x hx => ?_⟩
    · simp [Instr.lookup, run_underlying T.ht, MapKept.run_getObj_map hb, T.K.check w _ hlk, hf, zeroValue, typeInfo, hi, hz]
    · obtain ⟨e, he, rfl⟩ := List.mem_map.1 hx
      exact hn e he
  · refine ⟨_, w, ?_, Rest.refl w, h1 e.val j (by rw [List.getElem?_map, hj]; simp [hek])⟩
    simp [Instr.lookup, run_underlying T.ht, MapKept.run_getObj_map hb, T.K.check w _ hlk, hf]

theorem semH_mapPutW {z k v : Value} (T : MapW P t kt et z) (m : MapAt h r l) (hks : ∀ x ∈ l, KeyIs P kt x.1) (hk : KeyIs P kt k) {R : Unit → Hp → Prop}
    (h0 : (∀ x ∈ l, x.1 ≠ k) → ∀ h', MapAt h' r (l ++ [(k, v)]) → h'.size = h.size → (∀ b, b ≠ r → h'[b]? = h[b]?) → R () h')
    (h1 : ∀ (u : Value) (j : Nat), l[j]? = some (k, u) → ∀ h', MapAt h' r (l.set j (k, v)) → h'.size = h.size → (∀ b, b ≠ r → h'[b]? = h[b]?) → R () h') : SemH P (Instr.mapUpdate t (.map (some r)) k v) h R := by
  obtain ⟨es, c, hb, rfl⟩ := m
  obtain ⟨lk, hlk⟩ := hk
  have hks' : ∀ x ∈ es.toList, ∃ l, keyOf P kt x.key = some l := fun x hx => hks (x.key, x.val) (List.mem_map.2 ⟨x, hx, rfl⟩)
  have hlt := (Array.getElem?_eq_some_iff.1 hb).1
  intro w hw
  subst hw
  rcases T.K.find w hlk es.toList hks' with ⟨hf, hn⟩ | ⟨j, e, hf, hj, hek⟩
  · refine ⟨(), { w with heap := w.heap.setIfInBounds r (.map (es.push { key := k, val := v, born := c }) (c + 1)) }, ?_, ⟨rfl, rfl, rfl⟩, h0 (fun x hx => ?_) _ ⟨es.push { key := k, val := v, born := c }, c + 1, by simp [hlt], by simp⟩ (by simp) (fun b hne => by simp [Ne.symm hne])⟩
    · simp [Instr.mapUpdate, run_underlying T.ht, MapKept.run_getObj_map hb, T.K.check w _ hlk, hf, MapKept.run_setObj_map _ hb]
    · obtain ⟨e, he, rfl⟩ := List.mem_map.1 hx
      exact hn e he
  · have hj' : es[j]? = some e := by simpa using hj
    have hjl : j < es.size := (Array.getElem?_eq_some_iff.1 hj').1
    refine ⟨(), { w with heap := w.heap.setIfInBounds r (.map (es.modify j fun e => { e with key := k, val := v }) c) }, ?_, ⟨rfl, rfl, rfl⟩,
      h1 e.val j (by rw [List.getElem?_map, hj]; simp [hek]) _ ⟨es.modify j fun e => { e with key := k, val := v }, c, by simp [hlt], ?_⟩ (by simp) (fun b hne => by simp [Ne.symm hne])⟩
    · simp [Instr.mapUpdate, run_underlying T.ht, MapKept.run_getObj_map hb, T.K.check w _ hlk, hf, MapKept.run_setObj_map _ hb, hj', hek, T.K.stays w hlk]
    · apply List.ext_getElem?
      intro i
      simp only [List.getElem?_map, Array.getElem?_toList, Array.getElem?_modify, List.getElem?_set, List.length_map, Array.length_toList]
      by_cases hij : j = i
      · subst hij
        rw [if_pos rfl, if_pos rfl, if_pos hjl, hj']; rfl
      · rw [if_neg hij, if_neg hij]

theorem semH_mapDropW {z k : Value} {ty : TypeId} (T : MapW P t kt et z) (m : MapAt h r l) (hks : ∀ x ∈ l, KeyIs P kt x.1) (hk : KeyIs P kt k) (hin : ∃ u, (k, u) ∈ l) {R : Value → Hp → Prop}
    (h1 : ∀ (u : Value) (j : Nat), l[j]? = some (k, u) → ∀ h', MapAt h' r (l.eraseIdx j) → h'.size = h.size → (∀ b, b ≠ r → h'[b]? = h[b]?) → R (.tuple #[]) h') : SemH P (Builtin.delete_ #[t, kt] ty #[.map (some r), k]) h R := by
  obtain ⟨es, c, hb, rfl⟩ := m
  obtain ⟨lk, hlk⟩ := hk
  have hks' : ∀ x ∈ es.toList, ∃ l, keyOf P kt x.key = some l := fun x hx => hks (x.key, x.val) (List.mem_map.2 ⟨x, hx, rfl⟩)
  have hlt := (Array.getElem?_eq_some_iff.1 hb).1
  intro w hw
  subst hw
  rcases T.K.find w hlk es.toList hks' with ⟨hf, hn⟩ | ⟨j, e, hf, hj, hek⟩
  · obtain ⟨u, hu⟩ := hin
    obtain ⟨e, he, hke⟩ := List.mem_map.1 hu
    cases hke
    exact (hn e he rfl).elim
  · have hjl : j < es.size := by simpa using (List.getElem?_eq_some_iff.1 hj).1
    refine ⟨.tuple #[], { w with heap := w.heap.setIfInBounds r (.map (es.eraseIdxIfInBounds j) c) }, ?_, ⟨rfl, rfl, rfl⟩,
      h1 e.val j (by rw [List.getElem?_map, hj]; simp [hek]) _ ⟨es.eraseIdxIfInBounds j, c, by simp [hlt], ?_⟩ (by simp) (fun b hne => by simp [Ne.symm hne])⟩
    · simp [Builtin.delete_, run_underlying T.ht, MapKept.run_getObj_map hb, T.K.check w _ hlk, hf, MapKept.run_setObj_map _ hb]
    · unfold Array.eraseIdxIfInBounds
      rw [dif_pos hjl]
      rw [Array.toList_eraseIdx]
      exact map_erase1 _ _ _
end

/-! ## What is left of a key -/

abbrev idL (x : B128) : List Value := [vW (hiW x), vW (loW x), vW 0, vW 0, vW 0, vW 0, vW 0, vW 0, vW 0, vW 0, vW 0, vW 0, vW 0, vW 0, vW 0, vW 0]
abbrev idV (x : B128) : Value := .agg (idL x).toArray

theorem idV_inj {x y : B128} (h : idV x = idV y) : x = y := by
  rw [bits_inj]
  simp only [idV, idL, Value.agg.injEq, List.cons.injEq, Value.int.injEq, true_and, and_true, Array.mk.injEq] at h
  exact ⟨BitVec.eq_of_toNat_eq (Int.ofNat.inj h.1), BitVec.eq_of_toNat_eq (Int.ofNat.inj h.2)⟩

theorem law241 : KeyLaw Tryz.prog 241 := by
  refine deep_law (m := 4) (by decide) (by kernel_rfl) (by kernel_rfl) (by kernel_rfl)

theorem lits_u64 (d : Nat) (a : BitVec 64) : Tryz.prog.keyLits (d + 1) 38 [vW a] = some [.int .u64 (a.toNat : Int)] := by
  have hu : Tryz.prog.underlying 38 = some (.int .u64) := by kernel_rfl
  have hw : (Lit.int .u64 (a.toNat : Int)).wf = true := by
    have := a.isLt
    have h1 : (IntKind.u64.min) = 0 := by decide
    have h2 : (IntKind.u64.max) = 18446744073709551615 := by decide
    simp only [Lit.wf, h1, h2, Bool.and_eq_true, decide_eq_true_eq]
    omega
  unfold Program.keyLits
  simp only [hu, hw, and_self, if_true]

def fld2 : Option TypeDesc → Bool
  | some (.struct fs) => match fs.toList with
    | [f1, f2] => f1.type == 38 && f2.type == 38 && f1.offset == 0 && f2.offset == 1 && f1.name != "_" && f2.name != "_"
    | _ => false
  | _ => false
theorem lits_bits (d : Nat) (a b : BitVec 64) : Tryz.prog.keyLits (d + 2) 40 [vW a, vW b] = some [.int .u64 (a.toNat : Int), .int .u64 (b.toNat : Int)] := by
  obtain ⟨f1, f2, hu, t1, t2, o1, o2, n1, n2⟩ : ∃ f1 f2 : Field, Tryz.prog.underlying 40 = some (.struct #[f1, f2]) ∧ f1.type = 38 ∧ f2.type = 38 ∧ f1.offset = 0 ∧ f2.offset = 1 ∧ (f1.name != "_") = true ∧ (f2.name != "_") = true := by
    have h : fld2 (Tryz.prog.underlying 40) = true := by kernel_rfl
    generalize Tryz.prog.underlying 40 = u at h ⊢
    unfold fld2 at h
    split at h
    · rename_i fs
      split at h
      · rename_i f1 f2 hfs
        simp only [Bool.and_eq_true, beq_iff_eq] at h
        obtain ⟨⟨⟨⟨⟨t1, t2⟩, o1⟩, o2⟩, n1⟩, n2⟩ := h
        exact ⟨f1, f2, by rw [← Array.toArray_toList (xs := fs), hfs], t1, t2, o1, o2, n1, n2⟩
      · cases h
    · cases h
  have c1 : Tryz.prog.cellsOf 38 = 1 := by kernel_rfl
  have c2 : Tryz.prog.cellsOf 40 = 2 := by kernel_rfl
  unfold Program.keyLits
  simp only [hu, c2, List.length_cons, List.length_nil, List.mapM_cons, List.mapM_nil, t1, t2, o1, o2, c1, List.drop, List.take, lits_u64]
  simp [n1, n2]

theorem lits_id (d : Nat) (x : B128) : (Tryz.prog.keyLits (d + 3) 241 (idL x)).isSome = true := by
  have hu : Tryz.prog.underlying 241 = some (.array 8 40) := by kernel_rfl
  have c1 : Tryz.prog.cellsOf 40 = 2 := by kernel_rfl
  have c2 : Tryz.prog.cellsOf 241 = 16 := by kernel_rfl
  unfold Program.keyLits
  have hr : List.range 8 = [0, 1, 2, 3, 4, 5, 6, 7] := by decide
  simp only [hu, c2, c1, hr, List.length_cons, List.length_nil, List.mapM_cons, List.mapM_nil, List.drop, List.take, Nat.reduceMul, lits_bits, if_true]
  rfl

theorem key_id (x : B128) : KeyIs Tryz.prog 241 (idV x) := by
  have hu : Tryz.prog.underlying 241 = some (.array 8 40) := by kernel_rfl
  have hk : Tryz.prog.keyType 241 = true := by kernel_rfl
  have c2 : Tryz.prog.cellsOf 241 = 16 := by kernel_rfl
  have hf : (idV x).formed Tryz.prog 241 = true := by simp [Value.formed, hu, c2]
  have hs : Tryz.prog.types.size + 1 = 301 + 3 := by kernel_rfl
  obtain ⟨l, hl⟩ := Option.isSome_iff_exists.1 (lits_id 301 x)
  refine ⟨.string (keyBytes l), ?_⟩
  unfold keyOf
  simp only [hu, hk, hf, Bool.and_self, if_true, hs, Value.cells, hl, Option.map_some]

theorem mapG : MapW Tryz.prog 244 241 176 nilS := ⟨by kernel_rfl, law241, by kernel_rfl⟩
end Go.Vc

