/- FrameNil, FrameAgain, FrameBack: the walks. -/
import Derived.Test.YtomdlmjibojcoaaDoorS5FrG
set_option maxRecDepth 10000
namespace Go.Vc
open Go Go.Proofs Go.MapKept

/-- Two rows of fields, compared one by one. -/
theorem eqFields_vals {P : Program} (d : Nat) (xs ys : Array Value) : ∀ (fs : List Field) (i : Nat) (bs : List Bool), bs.length = fs.length → (∀ j f b, fs[j]? = some f → bs[j]? = some b → f.name ≠ "_" ∧ f.offset = i + j ∧ (∃ u, P.underlying f.type = some u ∧ aggD u = false) ∧
    ∃ x y, xs[i + j]? = some x ∧ ys[i + j]? = some y ∧ ∀ w : World, (Op.equalIn (d + 1) f.type x y).run P w = .ok b w) → ∀ w : World, (Op.eqFields (d + 1) xs ys fs).run P w = .ok (bs.all id) w := by
  intro fs
  induction fs with
  | nil =>
    intro i bs hb _ w
    rw [List.eq_nil_of_length_eq_zero hb]
    simp [Op.eqFields]
  | cons f fs ih =>
    intro i bs hb hf w
    obtain ⟨b, bs, rfl⟩ := List.exists_cons_of_length_eq_add_one hb
    obtain ⟨h1, h2, ⟨u, hu, ha⟩, x, y, hx, hy, hq⟩ := hf 0 f b rfl rfl
    rw [Nat.add_zero] at h2 hx hy
    have pt : ∀ (zs : Array Value) (v : Value), zs[i]? = some v → (part f.type zs f.offset).run P w = .ok v w := by
      intro zs v hz
      rw [h2]
      simp [part, run_isAgg hu, ha, hz]
    simp only [Op.eqFields, h1, ne_eq, not_false_eq_true, if_true, Sem.run_bind, pt xs _ hx, pt ys _ hy, Result.andThen_ok, hq w]
    cases b with
    | false => simp
    | true =>
      simp only [Bool.not_true, Bool.false_eq_true, if_false]
      rw [ih (i + 1) bs (by simpa using hb) (fun j g b hg hb' => by have := hf (j + 1) g b hg hb'; rw [show i + 1 + j = i + (j + 1) by omega]; exact this) w]
      simp

/-- A struct's fields, by their types and offsets. -/
def plainFields (P : Program) (t : TypeId) (L : List TypeId) : Bool := match P.underlying t with
  | some (.struct fs) => !P.stoodInHeld t && (fs.toList.all fun f => f.name != "_") && (fs.toList.map fun f => (f.type, f.offset)) == L.zip (List.range L.length)
  | _ => false

theorem eqv_vals {P : Program} {t : TypeId} {L : List TypeId} (hp : plainFields P t L = true) {xs ys : List Value} {bs : List Bool} (hb : bs.length = L.length)
    (h : ∀ (j : Nat) (s : TypeId) (b : Bool), L[j]? = some s → bs[j]? = some b → (∃ u, P.underlying s = some u ∧ aggD u = false) ∧ ∃ x y, xs[j]? = some x ∧ ys[j]? = some y ∧ ∀ (d : Nat) (w : World), (Op.equalIn (d + 1) s x y).run P w = .ok b w) :
    EqV P t (.agg xs.toArray) (.agg ys.toArray) (bs.all id) := by
  intro w
  unfold plainFields at hp
  split at hp
  · rename_i fs hu
    simp only [Bool.and_eq_true, Bool.not_eq_true', beq_iff_eq] at hp
    obtain ⟨⟨hst, hnm⟩, hfs⟩ := hp
    have hfo : P.fieldsOf t = fs := by unfold Program.fieldsOf; rw [hu]
    obtain ⟨d, hd⟩ : ∃ d, Op.maxDepth = d + 1 + 1 := ⟨Op.maxDepth - 2, by decide⟩
    unfold Op.equal
    rw [hd, run_equalIn_struct w (d + 1) t _ _ (by rw [hfo]; exact hu) hst, hfo]
    have hlen : fs.toList.length = L.length := by have := congrArg List.length hfs; simpa using this
    refine eqFields_vals d _ _ fs.toList 0 bs (by omega) ?_ w
    intro j f b hj hbj
    have hjl := (List.getElem?_eq_some_iff.1 hj).1
    have h1 := congrArg (fun l : List (TypeId × Nat) => l[j]?) hfs
    simp only [List.getElem?_map, hj, Option.map_some] at h1
    have hLj : L[j]? = some L[j] := List.getElem?_eq_getElem (by omega)
    rw [(List.getElem?_zip_eq_some (z := (L[j], j))).2 ⟨hLj, by rw [List.getElem?_range (by omega)]⟩] at h1
    obtain ⟨e1, e2⟩ := Prod.mk.inj (Option.some.inj h1)
    obtain ⟨hag, x, y, hx, hy, hq⟩ := h j L[j] b hLj hbj
    have hnm' := List.all_eq_true.1 hnm f (List.mem_of_getElem? hj)
    refine ⟨by simpa using hnm', by omega, by rw [e1]; exact hag, x, y, by simpa using hx, by simpa using hy, by rw [e1]; exact fun w => hq d w⟩
  · cases hp

theorem frmPlain : plainFields Tryd.prog 24 [3, 22, 3, 9] = true := by kernel_rfl
theorem uIntF : Tryd.prog.underlying 3 = some (.int .i64) := by kernel_rfl
theorem uU64F : Tryd.prog.underlying 22 = some (.int .u64) := by kernel_rfl

theorem Frm.ext {f g : Frm} (h1 : f.kind = g.kind) (h2 : f.number = g.number) (h3 : f.index = g.index) (h4 : f.body = g.body) : f = g := by
  cases f; cases g; simp only at h1 h2 h3 h4; subst h1 h2 h3 h4; rfl

instance : DecidableEq Frm := fun f g =>
  if h : f.kind = g.kind ∧ f.number = g.number ∧ f.index = g.index ∧ f.body = g.body then .isTrue (Frm.ext h.1 h.2.1 h.2.2.1 h.2.2.2) else .isFalse fun e => h (by subst e; exact ⟨rfl, rfl, rfl, rfl⟩)

theorem eqv_frm (f g : Frm) : EqV Tryd.prog 24 (.agg (frmV f).toArray) (.agg (frmV g).toArray) (decide (f = g)) := by
  have h := eqv_vals (P := Tryd.prog) frmPlain (xs := frmV f) (ys := frmV g) (bs := [decide (f.kind = g.kind), decide (f.number = g.number), decide (f.index = g.index), decide (f.body = g.body)]) rfl (by
    intro j s b hs hb
    match j with
    | 0 =>
      cases hs; cases hb
      exact ⟨⟨_, uIntF, rfl⟩, _, _, rfl, rfl, fun d w => by rw [run_equalIn_int w d _ _ _ _ _ uIntF]; rfl⟩
    | 1 =>
      cases hs; cases hb
      refine ⟨⟨_, uU64F, rfl⟩, _, _, rfl, rfl, fun d w => ?_⟩
      rw [run_equalIn_int w d _ _ _ _ _ uU64F]
      congr 1
      by_cases e : f.number = g.number
      · simp [e]
      · simp [e]; omega
    | 2 =>
      cases hs; cases hb
      exact ⟨⟨_, uIntF, rfl⟩, _, _, rfl, rfl, fun d w => by rw [run_equalIn_int w d _ _ _ _ _ uIntF]; rfl⟩
    | 3 =>
      cases hs; cases hb
      refine ⟨⟨_, uStr, rfl⟩, _, _, rfl, rfl, fun d w => ?_⟩
      rw [run_equalIn_string w d _ _ _ uStr]
      first | rfl | (congr 1; exact eq_toList _ _) | simp
    | j + 4 => simp at hs)
  have e : ([decide (f.kind = g.kind), decide (f.number = g.number), decide (f.index = g.index), decide (f.body = g.body)].all id) = decide (f = g) := by
    by_cases h : f = g
    · subst h; simp
    · have : ¬ (f.kind = g.kind ∧ f.number = g.number ∧ f.index = g.index ∧ f.body = g.body) := fun hh => h (Frm.ext hh.1 hh.2.1 hh.2.2.1 hh.2.2.2)
      rw [decide_eq_false h]
      simp only [List.all_cons, List.all_nil, id, Bool.and_true]
      rw [← Bool.decide_and, ← Bool.decide_and, ← Bool.decide_and]
      exact decide_eq_false this
  rw [e] at h
  exact h

/-- turnoutlaw05.FrameNil -/
theorem nil_law (n : Int) (raw : Frm) (ok : raw.Ok) (h : Hp) (hh : Halves h) : CallsH Tryd.prog 8 #[vZ n, .agg (frmV raw).toArray] h (RetX (.bool true) h) := by
  refine V8 _ _ _ _ _ h _ ?_
  intro b h1 hb e1
  have x1 : Ext h h1 := by rw [e1]; exact Ext.push _ _
  have c1 : h1[h.size]? = some (.cells (frmV raw).toArray 24) := by rw [e1]; exact push_last
  clear e1
  subst hb
  have l1 := (Array.getElem?_eq_some_iff.1 c1).1
  refine (awake_c h1 (hh.ext x1)).mono ?_
  rintro e h2 ⟨x2, rfl⟩
  have c2 := (x2.old h.size l1).trans c1
  refine ⟨_, rfl, _, _, _, _, cellsAt_all (vs := frmV raw) c2, (right_c raw ok h2).mono ?_⟩
  rintro e h3 ⟨x3, rfl⟩
  refine ⟨_, _, _, _, rfl, (put_nil n (rightF raw)).mono ?_⟩
  rintro e h4 ⟨x4, rfl⟩
  refine ⟨_, rfl, (get_nil n).mono ?_⟩
  rintro e h5 ⟨x5, rfl⟩
  refine ⟨_, _, _, _, _, rfl, ?_⟩
  intro b1 h6 hb1 e6
  have x6 : Ext h5 h6 := by rw [e6]; exact Ext.push _ _
  have c6 : h6[b1]? = some (.cells (frmV Frm.no).toArray 24) := by rw [e6, hb1, zerosFrame]; exact push_last
  clear e6
  have fs := frm_set c6 Frm.no
  refine ⟨infoFrame, rfl, fs.2.1, fs.2.2.1, ?_⟩
  intro h7 e7
  have x05 := (((x1.trans x2).trans x3).trans x4).trans x5
  have hs5 := x05.size
  have c7 : h7[b1]? = some (.cells (frmV Frm.no).toArray 24) := by rw [e7]; exact fs.2.2.2
  have x7 : Ext h h7 := by rw [e7]; exact (x05.trans x6).over (setsH_same (B := fun x => x = b1) rfl) fun x hx => by omega
  exact ⟨true, ⟨fun _ => ⟨fun _ => ⟨fun _ => ⟨_, _, _, _, cellsAt_all (vs := frmV Frm.no) c7, _, eqv_frm Frm.no Frm.no, rfl, by simp⟩, fun hf => (by cases hf)⟩, fun hf => (by cases hf)⟩, fun hf => (by cases hf)⟩, rfl, x7⟩

theorem open_bad {s : ByteArray} (h : (openF s).2.2 ≠ 0) : (openF s).1 = Frm.no ∧ (openF s).2.1 = 0 := by
  unfold openF at h ⊢
  split at h
  · rename_i h1; rw [if_pos h1]; exact ⟨rfl, rfl⟩
  · rename_i h1
    rw [if_neg h1]
    split at h
    · rename_i h2; rw [if_pos h2]; exact ⟨rfl, rfl⟩
    · rename_i h2
      rw [if_neg h2]
      split at h
      · rename_i h3; rw [if_pos h3]; exact ⟨rfl, rfl⟩
      · rename_i h3
        rw [if_neg h3]
        split at h
        · rename_i h4; rw [if_pos h4]; exact ⟨rfl, rfl⟩
        · rename_i h4
          rw [if_neg h4]
          split at h
          · rename_i h5; rw [if_pos h5]; exact ⟨rfl, rfl⟩
          · exact (h rfl).elim

end Go.Vc
