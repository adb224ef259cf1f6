/- Frames: how one is opened. -/
import Derived.Test.YthkbecpgbjejkaaDoorS9WFrB
set_option maxRecDepth 10000
namespace Go.Vc
open Go Go.Proofs

/-- What bytes say as a sector: the frame, its mark, the error. -/
def openF (s : ByteArray) : Frm × Int × Int :=
  if s.size ≠ 512 then (Frm.no, 0, 42)
  else if (bl s).getD 0 0 ≠ (bl s).getD 511 0 then (Frm.no, 0, 50)
  else if ((bl s).drop 507).take 4 ≠ leL (sumL (((bl s).drop 1).take 506)) then (Frm.no, 0, 51)
  else if (bl s).getD 1 0 = 0 ∨ 2147483647 < numL (((bl s).drop 10).take 4) ∨ 491 < numL (((bl s).drop 14).take 2) then (Frm.no, 0, 52)
  else if ∃ q, q < 491 - numL (((bl s).drop 14).take 2) ∧ (bl s).getD (16 + numL (((bl s).drop 14).take 2) + q) 0 ≠ 0 then (Frm.no, 0, 52)
  else (⟨(((bl s).getD 1 0).toNat : Int), numL (((bl s).drop 2).take 8), (numL (((bl s).drop 10).take 4) : Int), s.extract 16 (16 + numL (((bl s).drop 14).take 2))⟩, (((bl s).getD 0 0).toNat : Int), 0)

def openV (r : Frm × Int × Int) : Value := .tuple #[.agg (frmV r.1).toArray, vZ r.2.1, vZ r.2.2]

theorem byteD {s : ByteArray} {i : Nat} (h : i < s.size) : s[i]? = some ((bl s).getD i 0) := by
  rw [byteAt h]
  have hl : i < (bl s).length := by rw [bl_length]; exact h
  rw [List.getD_eq_getElem?_getD, List.getElem?_eq_getElem hl]
  rfl

theorem zerosFrame : zeros Tryd.prog 94 = (frmV Frm.no).toArray := by kernel_rfl
theorem zerosInt : zeros Tryd.prog 3 = #[vZ 0] := by kernel_rfl
theorem zerosErr : zeros Tryd.prog 25 = #[vZ 0] := by kernel_rfl
theorem infoFrame : ∃ i z, Tryd.prog.info? 94 = some i ∧ i.zero = some z := by
  have : ((Tryd.prog.info? 94).bind (·.zero)).isSome = true := by kernel_rfl
  obtain ⟨z, hz⟩ := Option.isSome_iff_exists.1 this
  obtain ⟨i, hi, hz⟩ := Option.bind_eq_some_iff.1 hz
  exact ⟨i, z, hi, hz⟩
theorem infoInt : ∃ i z, Tryd.prog.info? 3 = some i ∧ i.zero = some z := by
  have : ((Tryd.prog.info? 3).bind (·.zero)).isSome = true := by kernel_rfl
  obtain ⟨z, hz⟩ := Option.isSome_iff_exists.1 this
  obtain ⟨i, hi, hz⟩ := Option.bind_eq_some_iff.1 hz
  exact ⟨i, z, hi, hz⟩
theorem infoErr : ∃ i z, Tryd.prog.info? 25 = some i ∧ i.zero = some z := by
  have : ((Tryd.prog.info? 25).bind (·.zero)).isSome = true := by kernel_rfl
  obtain ⟨z, hz⟩ := Option.isSome_iff_exists.1 this
  obtain ⟨i, hi, hz⟩ := Option.bind_eq_some_iff.1 hz
  exact ⟨i, z, hi, hz⟩

/-- A frame in a variable is written over. -/
theorem frm_set {h : Hp} {b : Nat} {f : Frm} (c : h[b]? = some (.cells (frmV f).toArray 94)) (g : Frm) :
    List.length (frmV g) = 4 ∧ (∀ v ∈ frmV g, v.oneCell' = true) ∧ wrAt h b 0 4 ∧ (setsH h b 0 (frmV g))[b]? = some (.cells (frmV g).toArray 94) :=
  ⟨rfl, by simp [frmV, Value.oneCell'], wrAt_of c (by show 0 + 4 ≤ 4; decide) (.inl (Nat.zero_le _)), setsH_at c⟩

theorem one_set {h : Hp} {b : Nat} {t : TypeId} {x : Int} (c : h[b]? = some (.cells #[vZ x] t)) (y : Int) :
    (Value.int .i64 y).oneCell' = true ∧ wrAt h b 0 1 ∧ (setsH h b 0 [vZ y])[b]? = some (.cells #[vZ y] t) :=
  ⟨rfl, wrAt_of c (by show 0 + 1 ≤ 1; decide) (.inl (Nat.zero_le _)), setsH_at c⟩

/-- Three results in variables of their own. -/
structure Res (h : Hp) (b0 b1 b2 : Nat) (f : Frm) (m c : Int) : Prop where
  f : h[b0]? = some (.cells (frmV f).toArray 94)
  m : h[b1]? = some (.cells #[vZ m] 3)
  c : h[b2]? = some (.cells #[vZ c] 25)

set_option maxHeartbeats 2000000 in
/-- frame.Open -/
theorem open_c (s : ByteArray) (h : Hp) (hh : Halves h) : CallsH Tryd.prog 70 #[.string s] h fun e h' => Ext h h' ∧ e = .returned (openV (openF s)) := by
  refine V70 s h _ ?_
  intro b0 h1 hb0 e1
  have x1 : Ext h h1 := by rw [e1]; exact Ext.push _ _
  have c1 : h1[b0]? = some (.cells (frmV Frm.no).toArray 94) := by rw [e1, hb0, zerosFrame]; exact push_last
  have l1 : h1.size = h.size + 1 := by rw [e1]; simp
  clear e1
  refine ⟨infoFrame, ?_⟩
  intro b1 h2 hb1 e2
  have x2 : Ext h1 h2 := by rw [e2]; exact Ext.push _ _
  have c2 : h2[b1]? = some (.cells #[vZ 0] 3) := by rw [e2, hb1, zerosInt]; exact push_last
  have l2 : h2.size = h1.size + 1 := by rw [e2]; simp
  clear e2
  refine ⟨infoInt, ?_⟩
  intro b2 h3 hb2 e3
  have x3 : Ext h2 h3 := by rw [e3]; exact Ext.push _ _
  have c3 : h3[b2]? = some (.cells #[vZ 0] 25) := by rw [e3, hb2, zerosErr]; exact push_last
  have l3 : h3.size = h2.size + 1 := by rw [e3]; simp
  clear e3
  refine ⟨infoErr, ?_⟩
  have r3 : Res h3 b0 b1 b2 Frm.no 0 0 := ⟨(x3.old b0 (by omega)).trans ((x2.old b0 (by omega)).trans c1), (x3.old b1 (by omega)).trans c2, c3⟩
  have x03 := (x1.trans x2).trans x3
  clear c1 c2 c3 x1 x2 x3
  -- three stores
  have put3 : ∀ (hq hr : Hp) (f g : Frm) (m c m' c' : Int), Ext h hq → Res hq b0 b1 b2 f m c → hr = setsH (setsH (setsH hq b0 0 (frmV g)) b1 0 [vZ m']) b2 0 [vZ c'] → Res hr b0 b1 b2 g m' c' ∧ Ext h hr := by
    rintro hq hr f g m c m' c' xq r rfl
    have y0 : Same (fun x => x = b0) hq (setsH hq b0 0 (frmV g)) := setsH_same rfl
    have f0 := (frm_set r.f g).2.2.2
    have m0 : (setsH hq b0 0 (frmV g))[b1]? = some (.cells #[vZ m] 3) := (setsH_ne (by omega)).trans r.m
    have m1 := (one_set m0 m').2.2
    have k1 : (setsH (setsH hq b0 0 (frmV g)) b1 0 [vZ m'])[b2]? = some (.cells #[vZ c] 25) := (setsH_ne (by omega)).trans ((setsH_ne (by omega)).trans r.c)
    have k2 := (one_set k1 c').2.2
    refine ⟨⟨(setsH_ne (by omega)).trans ((setsH_ne (by omega)).trans f0), (setsH_ne (by omega)).trans m1, k2⟩, ?_⟩
    exact ((xq.over (setsH_same (B := fun x => x = b0) rfl) fun x hx => by omega).over (setsH_same (B := fun x => x = b1) rfl) fun x hx => by omega).over (setsH_same (B := fun x => x = b2) rfl) fun x hx => by omega
  have back : ∀ (hr : Hp) (f : Frm) (m c : Int), Res hr b0 b1 b2 f m c → Ext h hr → openF s = (f, m, c) →
      ∃ f0 : Int, ∃ f1 : Int, ∃ f2 : Int, ∃ f3 : ByteArray, cellsAt hr b0 0 [vZ f0, (Value.int .u64 f1), vZ f2, (Value.string f3)] ∧ ∃ r1 : Int, cellsAt hr b1 0 [vZ r1] ∧ ∃ r2 : Int, cellsAt hr b2 0 [vZ r2] ∧
        (Ext h hr ∧ Ending.returned (Value.tuple #[(Value.agg #[vZ f0, (Value.int .u64 f1), vZ f2, (Value.string f3)]), vZ r1, vZ r2]) = .returned (openV (openF s))) := by
    intro hr f m c r x he
    refine ⟨f.kind, f.number, f.index, f.body, cellsAt_all (vs := frmV f) r.f, m, cellsAt_all (vs := [vZ m]) r.m, c, cellsAt_all (vs := [vZ c]) r.c, x, ?_⟩
    rw [he]; rfl
  have keep : ∀ {hq : Hp}, Ext h3 hq → Res hq b0 b1 b2 Frm.no 0 0 := fun x => ⟨(x.old b0 (by omega)).trans r3.f, (x.old b1 (by omega)).trans r3.m, (x.old b2 (by omega)).trans r3.c⟩
  -- what gives up
  have fail : ∀ (hq : Hp) (code : Int), Ext h3 hq → openF s = (Frm.no, 0, code) → DefH Tryd.prog 84 #[vP b0, vP b1, vP b2] (.panicking [{ v := .iface 146 (.agg #[vZ code]), recovered := false }]) hq fun md hr =>
      settle md = .returning ∧ ∃ f0 : Int, ∃ f1 : Int, ∃ f2 : Int, ∃ f3 : ByteArray, cellsAt hr b0 0 [vZ f0, (Value.int .u64 f1), vZ f2, (Value.string f3)] ∧ ∃ r1 : Int, cellsAt hr b1 0 [vZ r1] ∧ ∃ r2 : Int, cellsAt hr b2 0 [vZ r2] ∧
        (Ext h hr ∧ Ending.returned (Value.tuple #[(Value.agg #[vZ f0, (Value.int .u64 f1), vZ f2, (Value.string f3)]), vZ r1, vZ r2]) = .returned (openV (openF s))) := by
    intro hq code x he
    have r := keep x
    have fs := frm_set r.f Frm.no
    refine V84p _ _ _ code _ _ rfl hq _ ⟨b0, 0, rfl, fs.1, fs.2.1, fs.2.2.1, ?_⟩
    intro g1 eg1
    have m0 : g1[b1]? = some (.cells #[vZ 0] 3) := by rw [eg1]; exact (setsH_ne (by omega)).trans r.m
    refine ⟨b1, 0, rfl, rfl, (one_set m0 0).2.1, ?_⟩
    intro g2 eg2
    have k1 : g2[b2]? = some (.cells #[vZ 0] 25) := by rw [eg2, eg1]; exact (setsH_ne (by omega)).trans ((setsH_ne (by omega)).trans r.c)
    refine ⟨b2, 0, rfl, rfl, (one_set k1 code).2.1, ?_⟩
    intro g3 eg3
    obtain ⟨rr, xx⟩ := put3 hq g3 Frm.no Frm.no 0 0 0 code (x03.trans x) r (by rw [eg3, eg2, eg1]; rfl)
    exact ⟨rfl, back g3 Frm.no 0 code rr xx he⟩
  clear r3
  -- the length
  refine (want_c _ 42 h3).mono ?_
  rintro e hq ⟨rfl, ⟨hok, rfl⟩ | ⟨hno, rfl⟩⟩
  rotate_left
  · refine .inr ⟨_, rfl, fail hq 42 (Ext.refl _) ?_⟩
    unfold openF
    have : s.size ≠ 512 := by simp at hno; omega
    rw [if_pos this]
  have hsz : s.size = 512 := by simp at hok; omega
  refine .inl ⟨rfl, by decide, _, byteD (i := 0) (by omega), by decide, _, byteD (i := 511) (by omega), (want_c _ 50 hq).mono ?_⟩
  rintro e hq' ⟨rfl, ⟨hok1, rfl⟩ | ⟨hno, rfl⟩⟩
  rotate_left
  · refine .inr ⟨_, rfl, fail hq' 50 (Ext.refl _) ?_⟩
    unfold openF
    have : (bl s).getD 0 0 ≠ (bl s).getD 511 0 := fun e => by rw [e] at hno; simp at hno
    rw [if_neg (by omega), if_pos this]
  have hmk : (bl s).getD 0 0 = (bl s).getD 511 0 := by
    apply UInt8.toNat_inj.1
    have := of_decide_eq_true hok1
    omega
  clear hok hok1
  obtain ⟨S, hS⟩ : ∃ S, S = sumL (((bl s).drop 1).take 506) := ⟨_, rfl⟩
  refine .inl ⟨rfl, 1, rfl, 507, rfl, by decide, by omega, _, rfl, ?_⟩
  refine semH_build rowSs (vs := [.string (s.extract 1 507)]) rfl rfl (by simp) (by simp) (by simp [Value.oneCell']) ⟨_, _, _, rfl, ?_⟩
  have x4 : Ext hq' (hq'.push (.cells [Value.string (s.extract 1 507)].toArray 9)) := Ext.push _ _
  have g4 : Seg (hq'.push (.cells [Value.string (s.extract 1 507)].toArray 9)) (some ⟨hq'.size, 0, none⟩) 1 ([s.extract 1 507].map Value.string) := ⟨rfl, .inr ⟨_, _, rfl, cellsAt_all push_last⟩⟩
  generalize (hq'.push (.cells [Value.string (s.extract 1 507)].toArray 9)) = h4 at x4 g4
  have hex : s.extract 1 507 = tx (((bl s).drop 1).take 506) := bl_inj (by rw [bl_extract, bl_tx])
  refine (sum_c [s.extract 1 507] (by intro y hy; simp at hy; subst hy; rw [ByteArray.size_extract]; simp only [maxLen]; omega) h4 (hh.ext (x03.trans x4)) g4 (by decide)).mono ?_
  rintro e h5 ⟨rfl, rfl⟩
  have hsum : sumB [s.extract 1 507] = S := by rw [hS, hex]; rfl
  rw [hsum]
  refine ⟨_, rfl, fun l hr => ∃ i : Nat, i ≤ 4 ∧ l = [vI i] ∧ Ext hq' hr ∧ ∀ q, q < i → (bl s).getD (507 + q) 0 = UInt8.ofNat (S.toNat / 256 ^ q), fun l _ => (4 - numAt l 0).toNat, ⟨0, by decide, rfl, x4, fun q hq => by omega⟩, ?_⟩
  rintro x hr ⟨i, hi, hl, xr, hin⟩
  cases hl
  refine ⟨fun hc => ?_, fun hc => ?_⟩
  · have hc : i < 4 := by simp at hc; omega
    refine ⟨((507 + i : Nat) : Int), by rw [wrapI64] <;> omega, by omega, _, byteD (i := 507 + i) (by omega), ((8 * i : Nat) : Int), by rw [wrapI64] <;> omega, by omega, _, shr32n _ i (by omega), _, wrap8n _, (want_c _ 51 hr).mono ?_⟩
    rintro e hr' ⟨rfl, ⟨hok, rfl⟩ | ⟨hno, rfl⟩⟩
    · refine .inl ⟨rfl, _, incI (by omega), ⟨i + 1, hc, rfl, xr, fun q hq => ?_⟩, by simp only [numAt]; omega⟩
      rcases Nat.lt_or_ge q i with h1 | h1
      · exact hin q h1
      · have : q = i := by omega
        subst this
        apply UInt8.toNat_inj.1
        have := of_decide_eq_true hok
        omega
    · refine .inr ⟨_, rfl, fail hr' 51 xr ?_⟩
      unfold openF
      have : ((bl s).drop 507).take 4 ≠ leL (sumL (((bl s).drop 1).take 506)) := by
        intro e
        have h1 := congrArg (fun l : List UInt8 => l[i]?) e
        simp only [List.getElem?_take, List.getElem?_drop, hc, if_true] at h1
        rw [← hS] at h1
        have h2 : (leL S)[i]? = some (UInt8.ofNat (S.toNat / 256 ^ i)) := by simp [leL, hc]
        rw [h2] at h1
        have h3 : (bl s).getD (507 + i) 0 = UInt8.ofNat (S.toNat / 256 ^ i) := by rw [List.getD_eq_getElem?_getD, h1]; rfl
        rw [h3] at hno
        simp at hno
      rw [if_neg (by omega), if_neg (by rw [hmk]; simp), if_pos this]
  have hc : i = 4 := by simp at hc; omega
  subst hc
  have hsums : ((bl s).drop 507).take 4 = leL (sumL (((bl s).drop 1).take 506)) := by
    rw [← hS]
    apply List.ext_getElem?
    intro q
    by_cases hq4 : q < 4
    · have h1 := hin q hq4
      rw [List.getElem?_take_of_lt hq4, List.getElem?_drop]
      have h2 : (leL S)[q]? = some (UInt8.ofNat (S.toNat / 256 ^ q)) := by simp [leL, hq4]
      have hl : 507 + q < (bl s).length := by rw [bl_length]; omega
      rw [h2, ← h1, List.getD_eq_getElem?_getD, List.getElem?_eq_getElem hl]; rfl
    · rw [List.getElem?_eq_none (by rw [List.length_take]; omega), List.getElem?_eq_none (by rw [leL_length]; omega)]
  clear hin
  -- the numbers
  obtain ⟨n, hn⟩ : ∃ n, n = numL (((bl s).drop 14).take 2) := ⟨_, rfl⟩
  have hn2 : n < 65536 := by rw [hn]; exact numL_small (k := 2) (by rw [List.length_take]; omega)
  have hx2 : numL (((bl s).drop 10).take 4) < 4294967296 := numL_small (k := 4) (by rw [List.length_take]; omega)
  have ebl : ∀ i j, bl (s.extract i j) = ((bl s).drop i).take (j - i) := fun i j => bl_extract s i j
  refine ⟨10, rfl, 14, rfl, by decide, by omega, _, rfl, (said_c _ (by rw [ByteArray.size_extract]; omega) hr).mono ?_⟩
  rintro e hr' ⟨rfl, rfl⟩
  rw [ebl]
  refine ⟨_, rfl, 14, rfl, 16, rfl, by decide, by omega, _, rfl, (said_c _ (by rw [ByteArray.size_extract]; omega) hr').mono ?_⟩
  rintro e hr ⟨rfl, rfl⟩
  rw [ebl]
  have fail52 : ∀ (hq : Hp), Ext hq' hq → ((bl s).getD 1 0 = 0 ∨ 2147483647 < numL (((bl s).drop 10).take 4) ∨ 491 < numL (((bl s).drop 14).take 2)) → openF s = (Frm.no, 0, 52) := by
    intro hq _ hbad
    unfold openF
    rw [if_neg (by omega), if_neg (by rw [hmk]; simp), if_neg (by rw [hsums]; simp), if_pos hbad]
  refine ⟨_, rfl, (n : Int), by rw [show (14 + 2 : Nat) - 14 = 2 from rfl] at *; rw [hn, wrapI64] <;> omega, fun l hx => l = [] ∧ Ext hq' hx ∧ (bl s).getD 1 0 ≠ 0 ∧ numL (((bl s).drop 10).take 4) ≤ 2147483647 ∧ n ≤ 491, ⟨by decide, _, byteD (i := 1) (by omega), fun h1 => ⟨fun h2 => ?_, fun h2 => ?_⟩, fun h1 => ?_⟩, ?_⟩
  · refine (want_c _ 52 hr).mono ?_
    rintro e hr' ⟨rfl, ⟨hok, rfl⟩ | ⟨hno, rfl⟩⟩
    · refine .inl ⟨rfl, rfl, xr, fun e => ?_, ?_, ?_⟩
      · rw [e] at h1; simp at h1
      · have := of_decide_eq_true h2
        have e2 : (14 - 10 : Nat) = 4 := rfl
        rw [e2] at this; omega
      · have := of_decide_eq_true hok; omega
    · refine .inr ⟨_, rfl, fail hr' 52 xr (fail52 hr' xr (.inr (.inr ?_)))⟩
      have := of_decide_eq_false hno
      rw [← hn]; omega
  · refine (want_c _ 52 hr).mono ?_
    rintro e hr' ⟨rfl, ⟨hok, rfl⟩ | ⟨hno, rfl⟩⟩
    · cases hok
    · refine .inr ⟨_, rfl, fail hr' 52 xr (fail52 hr' xr (.inr (.inl ?_)))⟩
      have := of_decide_eq_false h2
      have e2 : (14 - 10 : Nat) = 4 := rfl
      rw [e2] at this; omega
  · refine (want_c _ 52 hr).mono ?_
    rintro e hr' ⟨rfl, ⟨hok, rfl⟩ | ⟨hno, rfl⟩⟩
    · cases hok
    · refine .inr ⟨_, rfl, fail hr' 52 xr (fail52 hr' xr (.inl ?_))⟩
      have := of_decide_eq_false h1
      apply UInt8.toNat_inj.1
      simpa using this
  rintro h6 ⟨_, x6, hk1, hix, hn491⟩
  have fail53 : ∀ q, q < 491 - n → (bl s).getD (16 + n + q) 0 ≠ 0 → openF s = (Frm.no, 0, 52) := by
    intro q hq hbad
    unfold openF
    rw [if_neg (by omega), if_neg (by rw [hmk]; simp), if_neg (by rw [hsums]; simp), if_neg (by rw [← hn]; rintro (e | e | e); exact hk1 e; omega; omega), if_pos ⟨q, by rw [← hn]; exact hq, by rw [← hn]; exact hbad⟩]
  refine ⟨((16 + n : Nat) : Int), by rw [wrapI64] <;> omega, fun l hx => ∃ j : Nat, j ≤ 491 - n ∧ l = [vI (16 + n + j)] ∧ Ext hq' hx ∧ ∀ q, q < j → (bl s).getD (16 + n + q) 0 = 0, fun l _ => (507 - numAt l 0).toNat, ⟨0, by omega, rfl, x6, fun q hq => by omega⟩, ?_⟩
  rintro x h7 ⟨j, hj, hl, x7, hz⟩
  cases hl
  refine ⟨fun hc => ?_, fun hc => ?_⟩
  · have hc : 16 + n + j < 507 := by simp at hc; omega
    refine ⟨by omega, _, byteD (i := 16 + n + j) (by omega), (want_c _ 52 h7).mono ?_⟩
    rintro e h8 ⟨rfl, ⟨hok, rfl⟩ | ⟨hno, rfl⟩⟩
    · refine .inl ⟨rfl, _, incI (by omega), ⟨j + 1, by omega, rfl, x7, fun q hq => ?_⟩, by simp only [numAt]; omega⟩
      rcases Nat.lt_or_ge q j with h1 | h1
      · exact hz q h1
      · have : q = j := by omega
        subst this
        apply UInt8.toNat_inj.1
        have := of_decide_eq_true hok
        simpa using this
    · refine .inr ⟨_, rfl, fail h8 52 x7 (fail53 j (by omega) fun e => ?_)⟩
      rw [e] at hno
      simp at hno
  have hc : j = 491 - n := by simp at hc; omega
  subst hc
  have hgood : openF s = (⟨(((bl s).getD 1 0).toNat : Int), numL (((bl s).drop 2).take 8), (numL (((bl s).drop 10).take 4) : Int), s.extract 16 (16 + n)⟩, (((bl s).getD 0 0).toNat : Int), 0) := by
    unfold openF
    rw [if_neg (by omega), if_neg (by rw [hmk]; simp), if_neg (by rw [hsums]; simp), if_neg (by rw [← hn]; rintro (e | e | e); exact hk1 e; omega; omega), if_neg (by rw [← hn]; rintro ⟨q, hq, hbad⟩; exact hbad (hz q hq)), ← hn]
  have hk8 : ((bl s).getD 1 0).toNat < 256 := ((bl s).getD 1 0).toNat_lt
  have hm8 : ((bl s).getD 0 0).toNat < 256 := ((bl s).getD 0 0).toNat_lt
  refine ⟨by decide, _, byteD (i := 1) (by omega), _, wrapI64 (by omega) (by omega), 2, rfl, 10, rfl, by decide, by omega, _, rfl, (said_c _ (by rw [ByteArray.size_extract]; omega) h7).mono ?_⟩
  rintro e h8 ⟨rfl, rfl⟩
  rw [ebl]
  refine ⟨_, rfl, _, wrapI64 (by omega) (by rw [show (14 - 10 : Nat) = 4 from rfl]; omega), ((16 + n : Nat) : Int), by rw [wrapI64] <;> omega, 16, rfl, 16 + n, rfl, by omega, by omega, _, rfl, ?_⟩
  obtain ⟨F, hF⟩ : ∃ F : Frm, F = ⟨(((bl s).getD 1 0).toNat : Int), numL (((bl s).drop 2).take 8), (numL (((bl s).drop 10).take 4) : Int), s.extract 16 (16 + n)⟩ := ⟨_, rfl⟩
  rw [← hF] at hgood
  have r8 := keep x7
  have fs := frm_set r8.f F
  subst hF
  refine ⟨rfl, fs.2.1, fs.2.2.1, ?_⟩
  intro g1 eg1
  obtain ⟨F, hF⟩ : ∃ F : Frm, F = ⟨(((bl s).getD 1 0).toNat : Int), numL (((bl s).drop 2).take 8), (numL (((bl s).drop 10).take 4) : Int), s.extract 16 (16 + n)⟩ := ⟨_, rfl⟩
  rw [← hF] at hgood fs
  have eg1 : g1 = setsH h8 b0 0 (frmV F) := by rw [eg1, hF]; rfl
  have xg1 : Ext h g1 := by rw [eg1]; exact (x03.trans x7).over (setsH_same (B := fun x => x = b0) rfl) fun x hx => by omega
  have rg1 : Res g1 b0 b1 b2 F 0 0 := ⟨by rw [eg1]; exact fs.2.2.2, by rw [eg1]; exact (setsH_ne (by omega)).trans r8.m, by rw [eg1]; exact (setsH_ne (by omega)).trans r8.c⟩
  have fs2 := frm_set rg1.f F
  refine ⟨F.kind, F.number, F.index, F.body, cellsAt_all (vs := frmV F) rg1.f, by decide, _, byteD (i := 0) (by omega), _, wrapI64 (by omega) (by omega), rfl, fs2.2.1, fs2.2.2.1, ?_⟩
  intro g2 eg2
  have m2 : g2[b1]? = some (.cells #[vZ 0] 3) := by rw [eg2]; exact (setsH_ne (by omega)).trans rg1.m
  refine ⟨rfl, (one_set m2 0).2.1, ?_⟩
  intro g3 eg3
  have k3 : g3[b2]? = some (.cells #[vZ 0] 25) := by rw [eg3, eg2]; exact (setsH_ne (by omega)).trans ((setsH_ne (by omega)).trans rg1.c)
  refine ⟨rfl, (one_set k3 0).2.1, ?_⟩
  intro g4 eg4
  obtain ⟨rr, xx⟩ := put3 g1 g4 F F 0 0 (((bl s).getD 0 0).toNat : Int) 0 xg1 rg1 (by rw [eg4, eg3, eg2]; rfl)
  exact V84n _ _ _ _ _ rfl g4 _ ⟨rfl, back g4 F _ 0 rr xx hgood⟩

end Go.Vc
