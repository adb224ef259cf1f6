/- FrameAgain, FrameBack: one form; the walks. -/
import Derived.Test.YtomdlmjibojcoaaDoorS5FrL
set_option maxRecDepth 10000
namespace Go.Vc
open Go Go.Proofs Go.MapKept

theorem seg_add (l : List UInt8) (a x y : Nat) : (l.drop a).take x ++ (l.drop (a + x)).take y = (l.drop a).take (x + y) := by
  rw [List.take_add, List.drop_drop]

theorem seg_one {l : List UInt8} {i : Nat} (h : i < l.length) : [l.getD i 0] = (l.drop i).take 1 := by
  rw [List.drop_eq_getElem_cons h, List.getD_eq_getElem?_getD, List.getElem?_eq_getElem h]; rfl

theorem beL_of {l : List UInt8} {k : Nat} (h : l.length = k) : beL k (numL l) = l := by subst h; exact beL_numL l

/-- What is opened is sealed as the very bytes. -/
theorem seal_open {s : ByteArray} (h : (openF s).2.2 = 0) : s.size = 512 ∧ (openF s).2.1 = (((bl s).getD 0 0).toNat : Int) ∧ (openF s).1.Right ∧ tx (sealL (openF s).1 ((bl s).getD 0 0)) = s := by
  unfold openF at h ⊢
  split at h
  · cases h
  rename_i h1
  rw [if_neg h1]
  split at h
  · cases h
  rename_i h2
  rw [if_neg h2]
  split at h
  · cases h
  rename_i h3
  rw [if_neg h3]
  split at h
  · cases h
  rename_i h4
  rw [if_neg h4]
  split at h
  · cases h
  rename_i h5
  rw [if_neg h5]
  have hsz : s.size = 512 := by omega
  have hl : (bl s).length = 512 := by rw [bl_length]; exact hsz
  obtain ⟨n, hn⟩ : ∃ n, n = numL (((bl s).drop 14).take 2) := ⟨_, rfl⟩
  rw [← hn] at h4 h5 ⊢
  have hk0 : (bl s).getD 1 0 ≠ 0 := fun e => h4 (.inl e)
  have hix : numL (((bl s).drop 10).take 4) ≤ 2147483647 := by
    rcases Nat.lt_or_ge 2147483647 (numL (((bl s).drop 10).take 4)) with e | e
    · exact (h4 (.inr (.inl e))).elim
    · exact e
  have hn491 : n ≤ 491 := by
    rcases Nat.lt_or_ge 491 n with e | e
    · exact (h4 (.inr (.inr e))).elim
    · exact e
  have hnum : numL (((bl s).drop 2).take 8) < 18446744073709551616 := numL_small (k := 8) (by rw [List.length_take]; omega)
  have hks : ((bl s).getD 1 0).toNat < 256 := ((bl s).getD 1 0).toNat_lt
  have hk1 : 1 ≤ ((bl s).getD 1 0).toNat := by
    rcases Nat.eq_zero_or_pos ((bl s).getD 1 0).toNat with e | e
    · exact (hk0 (UInt8.toNat_inj.1 e)).elim
    · exact e
  have hbs : (s.extract 16 (16 + n)).size = n := by rw [ByteArray.size_extract]; omega
  refine ⟨hsz, rfl, ⟨by show 1 ≤ (((bl s).getD 1 0).toNat : Int); omega, by show (((bl s).getD 1 0).toNat : Int) ≤ 255; omega, hnum, by show (0 : Int) ≤ (numL (((bl s).drop 10).take 4) : Int); omega, by show (numL (((bl s).drop 10).take 4) : Int) ≤ 2147483647; omega, by show (s.extract 16 (16 + n)).size ≤ 491; omega⟩, ?_⟩
  have hmid : midL ⟨(((bl s).getD 1 0).toNat : Int), numL (((bl s).drop 2).take 8), (numL (((bl s).drop 10).take 4) : Int), s.extract 16 (16 + n)⟩ = ((bl s).drop 1).take 506 := by
    unfold midL
    simp only [Int.toNat_natCast, hbs]
    have e1 : beL 1 ((bl s).getD 1 0).toNat = ((bl s).drop 1).take 1 := by
      rw [← seg_one (by omega)]
      show [UInt8.ofNat _] = _
      congr 1
      apply UInt8.toNat_inj.1
      rw [u8_nat]; omega
    have e5 : bl (s.extract 16 (16 + n)) = ((bl s).drop 16).take n := by rw [bl_extract, Nat.add_sub_cancel_left]
    have e6 : List.replicate (491 - n) (0 : UInt8) = ((bl s).drop (16 + n)).take (491 - n) := by
      apply List.ext_getElem
      · rw [List.length_replicate, List.length_take, List.length_drop]; omega
      · intro i hi1 hi2
        rw [List.length_replicate] at hi1
        rw [List.getElem_replicate, List.getElem_take, List.getElem_drop]
        have : (bl s).getD (16 + n + i) 0 = 0 := by
          rcases Classical.em ((bl s).getD (16 + n + i) 0 = 0) with e | e
          · exact e
          · exact (h5 ⟨i, hi1, e⟩).elim
        rw [List.getD_eq_getElem?_getD, List.getElem?_eq_getElem (by omega)] at this
        exact this.symm
    rw [e1, beL_of (k := 8) (by rw [List.length_take, List.length_drop]; omega), beL_of (k := 4) (by rw [List.length_take, List.length_drop]; omega), hn, beL_of (k := 2) (by rw [List.length_take, List.length_drop]; omega), ← hn, e5, e6]
    rw [seg_add _ 16 n, show n + (491 - n) = 491 by omega, seg_add _ 14 2, seg_add _ 10 4, seg_add _ 2 8, seg_add _ 1 1]
  have h3' : ((bl s).drop 507).take 4 = leL (sumL (((bl s).drop 1).take 506)) := by
    rcases Classical.em (((bl s).drop 507).take 4 = leL (sumL (((bl s).drop 1).take 506))) with e | e
    · exact e
    · exact (h3 e).elim
  have h2' : (bl s).getD 0 0 = (bl s).getD 511 0 := by
    rcases Classical.em ((bl s).getD 0 0 = (bl s).getD 511 0) with e | e
    · exact e
    · exact (h2 e).elim
  apply bl_inj
  rw [bl_tx]
  unfold sealL
  rw [hmid, ← h3']
  have e : (bl s).getD 0 0 :: (((bl s).drop 1).take 506 ++ (((bl s).drop 507).take 4 ++ [(bl s).getD 0 0])) = [(bl s).getD 0 0] ++ (((bl s).drop 1).take 506 ++ (((bl s).drop 507).take 4 ++ [(bl s).getD 511 0])) := by rw [h2']; rfl
  rw [e, seg_one (i := 511) (by omega), seg_one (i := 0) (by omega), seg_add _ 507 4, seg_add _ 1 506, seg_add _ 0 1]
  rw [List.drop_zero, List.take_of_length_le (by omega)]

/-- A frame in a new variable. -/
theorem frm_new {h : Hp} (f : Frm) {K : Nat → Hp → Prop} (hK : ∀ b h2, b = h.size → Ext h h2 → h2[b]? = some (.cells (frmV f).toArray 24) → K b h2) :
    ∀ b h1, b = Array.size h → h1 = Array.push h (.cells (zeros Tryd.prog 24) 24) → (∃ i z, Tryd.prog.info? 24 = some i ∧ i.zero = some z) ∧
      List.length (frmV f) = 4 ∧ (∀ v ∈ frmV f, v.oneCell' = true) ∧ wrAt h1 b 0 4 ∧ ∀ h2, h2 = setsH h1 b 0 (frmV f) → K b h2 := by
  intro b h1 hb e1
  have x1 : Ext h h1 := by rw [e1]; exact Ext.push _ _
  have c1 : h1[b]? = some (.cells (frmV Frm.no).toArray 24) := by rw [e1, hb, zerosFrame]; exact push_last
  have fs := frm_set c1 f
  refine ⟨infoFrame, rfl, fs.2.1, fs.2.2.1, fun h2 e2 => hK b h2 hb ?_ (by rw [e2]; exact fs.2.2.2)⟩
  rw [e2]
  exact x1.over (setsH_same (B := fun x => x = b) rfl) fun x hx => by omega

theorem Ext.frm {h h' : Hp} (x : Ext h h') {b : Nat} {f : Frm} (c : h[b]? = some (.cells (frmV f).toArray 24)) : h'[b]? = some (.cells (frmV f).toArray 24) :=
  (x.old b (Array.getElem?_eq_some_iff.1 c).1).trans c

/-- turnoutlaw05.FrameAgain -/
theorem again_law (s : ByteArray) (h : Hp) (hh : Halves h) : CallsH Tryd.prog 6 #[.string s] h (RetX (.bool true) h) := by
  refine V6 s h _ ((awake_c h hh).mono ?_)
  rintro e h1 ⟨x1, rfl⟩
  refine ⟨_, rfl, (open_c s h1 (hh.ext x1)).mono ?_⟩
  rintro e h2 ⟨x2, rfl⟩
  refine ⟨_, _, _, _, _, _, rfl, frm_new (openF s).1 fun b h3 hb x3 c3 => ⟨fun hc => ?_, fun hc => ?_⟩⟩
  · have hc : (openF s).2.2 ≠ 0 := by simpa using hc
    obtain ⟨e1, e2⟩ := open_bad hc
    rw [e1] at c3
    refine ⟨true, ⟨fun _ => ⟨_, _, _, _, cellsAt_all (vs := frmV Frm.no) c3, _, eqv_frm Frm.no Frm.no, fun _ => ⟨rfl, by rw [e2]; rfl⟩, fun hf => (by simp at hf)⟩, fun hf => (by cases hf)⟩, rfl, (x1.trans x2).trans x3⟩
  · have hc : (openF s).2.2 = 0 := by simpa using hc
    obtain ⟨hsz, hm, hr, hs⟩ := seal_open hc
    have hm8 : ((bl s).getD 0 0).toNat < 256 := ((bl s).getD 0 0).toNat_lt
    have hse : sealF (openF s).1 (openF s).2.1 = (s, 0) := by
      unfold sealF
      rw [hm, if_neg (by omega), if_neg (by rw [hr.wrong]; simp), Int.toNat_natCast]
      have : UInt8.ofNat ((bl s).getD 0 0).toNat = (bl s).getD 0 0 := by apply UInt8.toNat_inj.1; rw [u8_nat]; omega
      rw [this, hs]
    refine ⟨_, _, _, _, cellsAt_all (vs := frmV (openF s).1) c3, (seal_c (openF s).1 hr.ok _ h3 (hh.ext ((x1.trans x2).trans x3))).mono ?_⟩
    rintro e h4 ⟨x4, rfl⟩
    rw [hse]
    exact ⟨_, _, rfl, true, ⟨fun _ => ⟨fun _ => ⟨rfl, by simp⟩, fun hf => (by simp at hf)⟩, fun hf => (by cases hf)⟩, rfl, ((x1.trans x2).trans x3).trans x4⟩

/-- turnoutlaw05.FrameBack -/
theorem back_law (raw : Frm) (ok : raw.Ok) (mark other : Int) (hm0 : -9223372036854775808 ≤ mark) (hm1 : mark ≤ 9223372036854775807) (ho0 : -9223372036854775808 ≤ other) (ho1 : other ≤ 9223372036854775807) (h : Hp) (hh : Halves h) :
    CallsH Tryd.prog 5 #[.agg (frmV raw).toArray, vZ mark, vZ other] h (RetX (.bool true) h) := by
  refine V5 _ _ _ _ _ _ h _ ?_
  intro b h1 hb e1
  have x1 : Ext h h1 := by rw [e1]; exact Ext.push _ _
  have c1 : h1[h.size]? = some (.cells (frmV raw).toArray 24) := by rw [e1]; exact push_last
  clear e1
  subst hb
  refine (awake_c h1 (hh.ext x1)).mono ?_
  rintro e h2 ⟨x2, rfl⟩
  refine ⟨_, rfl, _, _, _, _, cellsAt_all (vs := frmV raw) (x2.frm c1), (right_c raw ok h2).mono ?_⟩
  rintro e h3 ⟨x3, rfl⟩
  have R := rightF_right ok.n (f := raw)
  have x03 := (x1.trans x2).trans x3
  refine ⟨_, _, _, _, rfl, frm_new (rightF raw) fun b1 h4 hb1 x4 c4 => ?_⟩
  generalize rightF raw = f at R c4
  refine (pick_c mark 256 (by decide) hm0 hm1 h4).mono ?_
  rintro e h5 ⟨rfl, rfl⟩
  refine ⟨_, rfl, (pick_c other 256 (by decide) ho0 ho1 h5).mono ?_⟩
  rintro e h6 ⟨rfl, rfl⟩
  have hp := pickN_lt mark (show 0 < 256 by decide)
  have hq := pickN_lt other (show 0 < 256 by decide)
  have hse : ∀ k : Nat, k < 256 → sealF f (k : Int) = (tx (sealL f (UInt8.ofNat k)), 0) := fun k hk => by
    unfold sealF
    rw [if_neg (by omega), if_neg (by rw [R.wrong]; simp), Int.toNat_natCast]
  have x06 := x03.trans x4
  refine ⟨_, rfl, _, _, _, _, cellsAt_all (vs := frmV f) c4, (seal_c f R.ok _ h6 (hh.ext x06)).mono ?_⟩
  rintro e h7 ⟨x7, rfl⟩
  rw [hse _ hp]
  refine ⟨_, _, rfl, _, _, _, _, cellsAt_all (vs := frmV f) (x7.frm c4), (seal_c f R.ok _ h7 (hh.ext (x06.trans x7))).mono ?_⟩
  rintro e h8 ⟨x8, rfl⟩
  rw [hse _ hq]
  have x08 := (x06.trans x7).trans x8
  obtain ⟨m, hm⟩ : ∃ m, m = UInt8.ofNat (pickN mark 256) := ⟨_, rfl⟩
  obtain ⟨m', hm'⟩ : ∃ m', m' = UInt8.ofNat (pickN other 256) := ⟨_, rfl⟩
  rw [← hm, ← hm']
  have hmn : (m.toNat : Int) = (pickN mark 256 : Int) := by rw [hm, u8_nat]; omega
  refine ⟨_, _, rfl, (open_c _ h8 (hh.ext x08)).mono ?_⟩
  rintro e h9 ⟨x9, rfl⟩
  rw [open_seal R]
  have sz : ∀ k : UInt8, (tx (sealL f k)).size = 512 := fun k => by rw [tx_size, sealL_length R.b]
  refine ⟨f.kind, f.number, f.index, f.body, _, _, rfl, frm_new f fun b2 h10 hb2 x10 c10 => ?_⟩
  have x010 := (x08.trans x9).trans x10
  have c10' := (((x7.trans x8).trans x9).trans x10).frm c4
  refine ⟨fun l hr => l = [] ∧ hr = h10, ⟨false, ⟨fun hf => (by cases hf), fun _ => ⟨fun hf => (by simp at hf), fun _ => ⟨fun hf => (by simp at hf), fun _ => ⟨fun hf => (by simp at hf), fun _ => ⟨fun hf => (by rw [sz] at hf; simp at hf), fun _ => ⟨rfl, by rw [sz]; simp⟩⟩⟩⟩⟩⟩, fun hB => (by cases hB), fun _ => ⟨rfl, rfl⟩⟩, ?_⟩
  rintro h11 ⟨_, rfl⟩
  have mk := seal_mark (f := f) (m := m) R.b
  refine ⟨true, ⟨_, _, _, _, cellsAt_all (vs := frmV f) c10, _, _, _, _, cellsAt_all (vs := frmV f) c10', _, eqv_frm f f, fun _ => ⟨fun _ => ⟨by decide, _, byteD (i := 0) (by rw [sz]; decide), (m.toNat : Int), by rw [← hmn, wrapU8]; have := m.toNat_lt; omega, fun _ => ⟨by decide, _, byteD (i := 511) (by rw [sz]; decide), (m.toNat : Int), by rw [← hmn, wrapU8]; have := m.toNat_lt; omega, fun _ => ⟨1, rfl, 511, rfl, by decide, by rw [sz]; decide, _, rfl, 1, rfl, 511, rfl, by decide, by rw [sz]; decide, _, rfl, rfl, ?_⟩, fun hf => ?_⟩, fun hf => ?_⟩, fun hf => ?_⟩, fun hf => (by simp at hf)⟩, rfl, x010⟩
  · symm
    rw [decide_eq_true_eq]
    apply bl_inj
    rw [bl_extract, bl_extract, bl_tx, bl_tx]
    have e : ∀ k : UInt8, ((sealL f k).drop 1).take (511 - 1) = midL f ++ leL (sumL (midL f)) := fun k => by
      show (midL f ++ (leL (sumL (midL f)) ++ [k])).take 510 = _
      rw [← List.append_assoc, List.take_left' (by rw [List.length_append, midL_length R.b, leL_length])]
    rw [e, e]
  · rw [bl_tx, mk.2] at hf; simp at hf
  · rw [bl_tx, mk.1] at hf; simp at hf
  · rw [hmn] at hf; simp at hf

end Go.Vc
