import Derived.Test.YthkbecpgbjejkaaDoorS9WCkA
import Derived.Test.YthkbecpgbjejkaaDoorS9WRfD
set_option maxRecDepth 10000
/- The document's frames: how one is opened. -/
namespace Go.Vc
open Go Go.Proofs Go.MapKept

/-- A frame in a new variable. -/
theorem frm_new {h : Hp} (f : Frm) {K : Nat → Hp → Prop} (hK : ∀ b h2, b = h.size → Ext h h2 → h2[b]? = some (.cells (frmV f).toArray 94) → K b h2) :
    ∀ b h1, b = Array.size h → h1 = Array.push h (.cells (zeros Tryd.prog 94) 94) → (∃ i z, Tryd.prog.info? 94 = some i ∧ i.zero = some z) ∧
      List.length (frmV f) = 4 ∧ (∀ v ∈ frmV f, v.oneCell' = true) ∧ wrAt h1 b 0 4 ∧ ∀ h2, h2 = setsH h1 b 0 (frmV f) → K b h2 := by
  intro b h1 hb e1
  have x1 : Ext h h1 := by rw [e1]; exact Ext.push _ _
  have c1 : h1[b]? = some (.cells (frmV Frm.no).toArray 94) := by rw [e1, hb, zerosFrame]; exact push_last
  have fs := frm_set c1 f
  refine ⟨infoFrame, rfl, fs.2.1, fs.2.2.1, fun h2 e2 => hK b h2 hb ?_ (by rw [e2]; exact fs.2.2.2)⟩
  rw [e2]
  exact x1.over (setsH_same (B := fun x => x = b) rfl) fun x hx => by omega

theorem Ext.frm {h h' : Hp} (x : Ext h h') {b : Nat} {f : Frm} (c : h[b]? = some (.cells (frmV f).toArray 94)) : h'[b]? = some (.cells (frmV f).toArray 94) :=
  (x.old b (Array.getElem?_eq_some_iff.1 c).1).trans c

theorem tdiv_nat (m n : Nat) : Int.tdiv (m : Int) (n : Int) = ((m / n : Nat) : Int) := (Int.ofNat_tdiv m n).symm

/-- turnoutref05.bytes -/
theorem rBytes_c (n many : Nat) (hn : n < 18446744073709551616) (hm : many ≤ 8) (h : Hp) : CallsH Tryd.prog 101 #[vU n, vI many] h fun e h' => Ext h h' ∧ e = .returned (.string (tx (beL many n))) := by
  refine V101 _ _ h _ ⟨fun l hq => ∃ i : Nat, i ≤ many ∧ l = [vU (n / 256 ^ i), .string (tx (beL i n)), vI i] ∧ Ext h hq, fun l _ => (many - numAt l 2).toNat, ⟨0, Nat.zero_le _, by simp [beL, tx], Ext.refl _⟩, ?_⟩
  rintro m s x hq ⟨i, hi, hl, hx⟩
  cases hl
  refine ⟨fun hc => ?_, fun hc => ?_⟩
  · have hc : i < many := by simp at hc; omega
    have hmod : IntKind.u8.wrap (((n / 256 ^ i) % 256 : Nat) : Int) = ((UInt8.ofNat (n / 256 ^ i)).toNat : Int) := by rw [wrapU8, u8_nat]; omega
    refine ⟨by decide, _, tmod_nat (n / 256 ^ i) 256, _, hmod, semH_build rowB (vs := [vB (UInt8.ofNat (n / 256 ^ i))]) rfl rfl (by simp) (by simp) (by simp [Value.oneCell']) ⟨_, _, _, rfl, ?_⟩⟩
    have x1 : Ext hq (hq.push (.cells [vB (UInt8.ofNat (n / 256 ^ i))].toArray 5)) := Ext.push _ _
    have g1 : Seg (hq.push (.cells [vB (UInt8.ofNat (n / 256 ^ i))].toArray 5)) (some ⟨hq.size, 0, none⟩) 1 (byteVs (tx [UInt8.ofNat (n / 256 ^ i)]).data.toList) := ⟨rfl, .inr ⟨_, _, rfl, cellsAt_all push_last⟩⟩
    generalize (hq.push (.cells [vB (UInt8.ofNat (n / 256 ^ i))].toArray 5)) = h1 at x1 g1
    refine semH_toText uBs uB uStr (t := tx [UInt8.ofNat (n / 256 ^ i)]) g1 ⟨_, rfl, by rw [tx_size, tx_size, beL_length]; simp; omega, _, rfl, by decide, ((n / 256 ^ i / 256 : Nat) : Int), ?_, _, incI (by omega), ⟨i + 1, hc, ?_, hx.trans x1⟩, ?_⟩
    · rw [show Int.tdiv ((n / 256 ^ i : Nat) : Int) (256 : Int) = ((n / 256 ^ i / 256 : Nat) : Int) from tdiv_nat _ 256, wrapU]
      have : n / 256 ^ i ≤ n := Nat.div_le_self _ _
      have : n / 256 ^ i / 256 ≤ n / 256 ^ i := Nat.div_le_self _ _
      omega
    · have e : tx [UInt8.ofNat (n / 256 ^ i)] ++ tx (beL i n) = tx (beL (i + 1) n) := bl_inj (by rw [bl_append, bl_tx, bl_tx, bl_tx, beL_cons]; rfl)
      rw [e, Nat.div_div_eq_div_mul, ← Nat.pow_succ]
    · simp only [numAt]; omega
  · have hc : i = many := by simp at hc; omega
    subst hc
    exact ⟨hx, rfl⟩

/-- turnoutref05.number -/
theorem rNumber_c (s : ByteArray) (hs : s.size ≤ 8) (h : Hp) : CallsH Tryd.prog 98 #[.string s] h fun e h' => h' = h ∧ e = .returned (vU (numL (bl s))) := by
  refine V98 _ h _ ⟨fun l hq => hq = h ∧ ∃ i : Nat, i ≤ s.size ∧ l = [vU (numL ((bl s).take i)), vI i], fun l _ => (s.size - numAt l 1).toNat, ⟨rfl, 0, Nat.zero_le _, rfl⟩, ?_⟩
  rintro n x hq ⟨rfl, i, hi, hl⟩
  cases hl
  refine ⟨fun hc => ?_, fun hc => ?_⟩
  · have hc : i < s.size := by simpa using hc
    have hsm : numL ((bl s).take i) < 256 ^ 7 := numL_small (by rw [List.length_take]; omega)
    have hsm : numL ((bl s).take i) < 72057594037927936 := hsm
    have h8 := s[i].toNat_lt
    refine ⟨((256 * numL ((bl s).take i) : Nat) : Int), by rw [← wrapU (n := 256 * numL ((bl s).take i)) (by omega)]; congr 1, by omega, _, byteAt hc, _, wrapU (by omega), ((256 * numL ((bl s).take i) + s[i].toNat : Nat) : Int), by rw [← wrapU (n := 256 * numL ((bl s).take i) + s[i].toNat) (by omega)]; congr 1, _, incI (by omega), ⟨rfl, i + 1, hc, ?_⟩, by simp only [numAt]; omega⟩
    rw [take_byte hc, numL_snoc]
  · have hc : i = s.size := by simp at hc; omega
    subst hc
    exact ⟨rfl, by rw [take_size]⟩

theorem leL_beL (x : W32) : leL x = (beL 4 x.toNat).reverse := by
  simp [leL, beL, List.range_succ, Nat.div_div_eq_div_mul]

/-- turnoutref05.Sum -/
theorem rSum_c (s : ByteArray) (hs : s.size ≤ maxLen) (h : Hp) : CallsH Tryd.prog 97 #[.string s] h fun e h' => Ext h h' ∧ e = .returned (.string (tx (leL (sumB [s])))) := by
  refine V97 s h _ ((rMore_c 0#32 s hs h).mono ?_)
  rintro e h1 ⟨rfl, rfl⟩
  have hsum : moreB 0#32 (bl s) = sumB [s] := by
    have := sumB_more [] s
    rw [List.nil_append] at this
    rw [this]; rfl
  rw [hsum]
  have hx : (sumB [s]).toNat < 4294967296 := (sumB [s]).isLt
  refine ⟨_, rfl, _, wrapU (by omega), (rBytes_c (sumB [s]).toNat 4 (by omega) (by decide) h1).mono ?_⟩
  rintro e h2 ⟨x2, rfl⟩
  have hsz : (tx (beL 4 (sumB [s]).toNat)).size = 4 := by rw [tx_size, beL_length]
  have ex : ∀ i j, ((tx (beL 4 (sumB [s]).toNat)).extract i j).size = min j 4 - i := fun i j => by rw [ByteArray.size_extract, hsz]
  refine ⟨_, rfl, 3, rfl, by omega, Nat.le_refl _, _, rfl, 2, rfl, 3, rfl, by decide, by omega, _, rfl, by rw [ex, ex, hsz]; decide, _, rfl, 1, rfl, 2, rfl, by decide, by omega, _, rfl, by rw [ByteArray.size_append, ex, ex, ex, hsz]; decide, _, rfl, 1, rfl, by decide, by omega, _, rfl, by rw [ByteArray.size_append, ByteArray.size_append, ex, ex, ex, ex, hsz]; decide, _, rfl, x2, ?_⟩
  congr 2
  apply bl_inj
  rw [bl_append, bl_append, bl_append, bl_extract, bl_extract, bl_extract, bl_extract, bl_tx, bl_tx, hsz, leL_beL]
  simp [beL]

set_option maxHeartbeats 1000000 in
/-- turnoutref05.Open -/
theorem rOpen_c (s : ByteArray) (h : Hp) : CallsH Tryd.prog 91 #[.string s] h fun e h' => Ext h h' ∧ e = .returned (openV (openF s)) := by
  refine V91 s h _ ?_
  intro b h1 hb e1
  have x1 : Ext h h1 := by rw [e1]; exact Ext.push _ _
  have c1 : h1[b]? = some (.cells (frmV Frm.no).toArray 94) := by rw [e1, hb, zerosFrame]; exact push_last
  clear e1
  -- what is handed back
  have fin : ∀ (hq hr : Hp) (g : Frm) (m c : Int), Ext h1 hq → openF s = (g, m, c) → hr = setsH hq b 0 (frmV g) →
      ∃ f0 : Int, ∃ f1 : Int, ∃ f2 : Int, ∃ f3 : ByteArray, cellsAt hr b 0 [vZ f0, (Value.int .u64 f1), vZ f2, (Value.string f3)] ∧
        (Ext h hr ∧ Ending.returned (Value.tuple #[(Value.agg #[vZ f0, (Value.int .u64 f1), vZ f2, (Value.string f3)]), vZ m, vZ c]) = .returned (openV (openF s))) := by
    intro hq hr g m c xq he er
    have fs := frm_set (xq.frm c1) g
    refine ⟨g.kind, g.number, g.index, g.body, cellsAt_all (vs := frmV g) (by rw [er]; exact fs.2.2.2), ?_, by rw [he]; rfl⟩
    rw [er]; exact (x1.trans xq).over (setsH_same (B := fun x => x = b) rfl) fun x hx => by omega
  have st : ∀ (hq : Hp) (g : Frm), Ext h1 hq → (∀ v ∈ frmV g, v.oneCell' = true) ∧ wrAt hq b 0 4 := fun hq g xq => ⟨(frm_set (xq.frm c1) g).2.1, (frm_set (xq.frm c1) g).2.2.1⟩
  have bad : ∀ (hq : Hp) (c : Int), Ext h1 hq → openF s = (Frm.no, 0, c) → List.length (frmV Frm.no) = 4 ∧ (∀ v ∈ frmV Frm.no, v.oneCell' = true) ∧ wrAt hq b 0 4 ∧ ∀ hr, hr = setsH hq b 0 (frmV Frm.no) →
      ∃ f0 : Int, ∃ f1 : Int, ∃ f2 : Int, ∃ f3 : ByteArray, cellsAt hr b 0 [vZ f0, (Value.int .u64 f1), vZ f2, (Value.string f3)] ∧
        (Ext h hr ∧ Ending.returned (Value.tuple #[(Value.agg #[vZ f0, (Value.int .u64 f1), vZ f2, (Value.string f3)]), vZ 0, vZ c]) = .returned (openV (openF s))) := fun hq c xq he =>
    ⟨rfl, (st hq Frm.no xq).1, (st hq Frm.no xq).2, fun hr er => fin hq hr Frm.no 0 c xq he er⟩
  refine ⟨infoFrame, fun hc => bad h1 42 (Ext.refl _) ?_, fun hc => ?_⟩
  · have hc : s.size ≠ 512 := by simp at hc; omega
    unfold openF
    rw [if_pos hc]
  have hsz : s.size = 512 := by simp at hc; omega
  clear hc
  refine ⟨by decide, _, byteD (i := 0) (by omega), by decide, _, byteD (i := 511) (by omega), fun hc => bad h1 50 (Ext.refl _) ?_, fun hc => ?_⟩
  · have hc : (bl s).getD 0 0 ≠ (bl s).getD 511 0 := fun e => by rw [e] at hc; simp at hc
    unfold openF
    rw [if_neg (by omega), if_pos hc]
  have hmk : (bl s).getD 0 0 = (bl s).getD 511 0 := by
    apply UInt8.toNat_inj.1
    have := of_decide_eq_false hc
    omega
  clear hc
  have ebl : ∀ i j, bl (s.extract i j) = ((bl s).drop i).take (j - i) := fun i j => bl_extract s i j
  have esz : ∀ i j, (s.extract i j).size = min j 512 - i := fun i j => by rw [ByteArray.size_extract, hsz]
  refine ⟨507, rfl, 511, rfl, by decide, by omega, _, rfl, 1, rfl, 507, rfl, by decide, by omega, _, rfl, (rSum_c (s.extract 1 507) (by rw [esz]; decide) h1).mono ?_⟩
  rintro e h2 ⟨x2, rfl⟩
  have hex : s.extract 1 507 = tx (((bl s).drop 1).take 506) := bl_inj (by rw [ebl, bl_tx])
  have hse : (s.extract 507 511 = tx (leL (sumB [s.extract 1 507]))) ↔ ((bl s).drop 507).take 4 = leL (sumL (((bl s).drop 1).take 506)) := by
    constructor
    · intro e
      have := congrArg bl e
      rw [ebl, bl_tx, hex] at this
      exact this
    · intro e
      apply bl_inj
      rw [ebl, bl_tx, hex]
      exact e
  refine ⟨_, rfl, fun hc => bad h2 51 x2 ?_, fun hc => ?_⟩
  · have hc : ((bl s).drop 507).take 4 ≠ leL (sumL (((bl s).drop 1).take 506)) := fun e => (of_decide_eq_true hc) (hse.2 e)
    unfold openF
    rw [if_neg (by omega), if_neg (by rw [hmk]; simp), if_pos hc]
  have hsums : ((bl s).drop 507).take 4 = leL (sumL (((bl s).drop 1).take 506)) := by
    rcases Classical.em (s.extract 507 511 = tx (leL (sumB [s.extract 1 507]))) with e | e
    · exact hse.1 e
    · exact (of_decide_eq_false hc e).elim
  clear hc hse hex
  obtain ⟨n, hn⟩ : ∃ n, n = numL (((bl s).drop 14).take 2) := ⟨_, rfl⟩
  have hn2 : n < 65536 := by rw [hn]; exact numL_small (k := 2) (by rw [List.length_take]; omega)
  have hx2 : numL (((bl s).drop 10).take 4) < 4294967296 := numL_small (k := 4) (by rw [List.length_take]; omega)
  refine ⟨14, rfl, 16, rfl, by decide, by omega, _, rfl, (rNumber_c _ (by rw [esz]; decide) h2).mono ?_⟩
  rintro e h3 ⟨rfl, rfl⟩
  rw [ebl, show 16 - 14 = 2 from rfl, ← hn]
  have bad52 : ((bl s).getD 1 0 = 0 ∨ 2147483647 < numL (((bl s).drop 10).take 4) ∨ 491 < n) → openF s = (Frm.no, 0, 52) := by
    intro hbad
    unfold openF
    rw [if_neg (by omega), if_neg (by rw [hmk]; simp), if_neg (by rw [hsums]; simp), ← hn, if_pos hbad]
  have hk8 : ((bl s).getD 1 0).toNat < 256 := ((bl s).getD 1 0).toNat_lt
  have hm8 : ((bl s).getD 0 0).toNat < 256 := ((bl s).getD 0 0).toNat_lt
  refine ⟨_, rfl, (n : Int), wrapI64 (by omega) (by omega), fun l hx => l = [] ∧ Ext h1 hx ∧ (bl s).getD 1 0 ≠ 0 ∧ numL (((bl s).drop 10).take 4) ≤ 2147483647 ∧ n ≤ 491, ⟨by decide, _, byteD (i := 1) (by omega), fun hc => bad h3 52 x2 (bad52 (.inl ?_)), fun hc => ?_⟩, ?_⟩
  · have := of_decide_eq_true hc
    apply UInt8.toNat_inj.1
    simpa using this
  · have hk0 : (bl s).getD 1 0 ≠ 0 := fun e => by rw [e] at hc; simp at hc
    refine ⟨10, rfl, 14, rfl, by decide, by omega, _, rfl, (rNumber_c _ (by rw [esz]; decide) h3).mono ?_⟩
    rintro e h4 ⟨rfl, rfl⟩
    rw [ebl, show 14 - 10 = 4 from rfl]
    refine ⟨_, rfl, fun hd => bad h4 52 x2 (bad52 (.inr (.inl ?_))), fun hd => ⟨fun he => bad h4 52 x2 (bad52 (.inr (.inr ?_))), fun he => ⟨rfl, x2, hk0, ?_, ?_⟩⟩⟩
    · have := of_decide_eq_true hd; omega
    · have := of_decide_eq_true he; omega
    · have := of_decide_eq_false hd; omega
    · have := of_decide_eq_false he; omega
  rintro h5 ⟨_, x5, hk1, hix, hn491⟩
  have bad53 : ∀ q, q < 491 - n → (bl s).getD (16 + n + q) 0 ≠ 0 → openF s = (Frm.no, 0, 52) := by
    intro q hq hbad
    unfold openF
    rw [if_neg (by omega), if_neg (by rw [hmk]; simp), if_neg (by rw [hsums]; simp), ← hn, if_neg (by rintro (e | e | e); exact hk1 e; omega; omega), if_pos ⟨q, hq, hbad⟩]
  refine ⟨((16 + n : Nat) : Int), by rw [wrapI64] <;> omega, fun l hx => ∃ j : Nat, j ≤ 491 - n ∧ l = [vI (16 + n + j)] ∧ Ext h1 hx ∧ ∀ q, q < j → (bl s).getD (16 + n + q) 0 = 0, fun l _ => (507 - numAt l 0).toNat, ⟨0, by omega, rfl, x5, fun q hq => by omega⟩, ?_⟩
  rintro x h7 ⟨j, hj, hl, x7, hz⟩
  cases hl
  refine ⟨fun hc => ?_, fun hc => ?_⟩
  · have hc : 16 + n + j < 507 := by simp at hc; omega
    refine ⟨by omega, _, byteD (i := 16 + n + j) (by omega), fun hd => bad h7 52 x7 (bad53 j (by omega) fun e => ?_), fun hd => ⟨_, incI (by omega), ⟨j + 1, by omega, rfl, x7, fun q hq => ?_⟩, by simp only [numAt]; omega⟩⟩
    · rw [e] at hd; simp at hd
    · rcases Nat.lt_or_ge q j with h1 | h1
      · exact hz q h1
      · have : q = j := by omega
        subst this
        apply UInt8.toNat_inj.1
        have := of_decide_eq_false hd
        have h0 : (0 : UInt8).toNat = 0 := rfl
        rw [h0]; omega
  have hc : j = 491 - n := by simp at hc; omega
  subst hc
  have hgood : openF s = (⟨(((bl s).getD 1 0).toNat : Int), numL (((bl s).drop 2).take 8), (numL (((bl s).drop 10).take 4) : Int), s.extract 16 (16 + n)⟩, (((bl s).getD 0 0).toNat : Int), 0) := by
    unfold openF
    rw [if_neg (by omega), if_neg (by rw [hmk]; simp), if_neg (by rw [hsums]; simp), ← hn, if_neg (by rintro (e | e | e); exact hk1 e; omega; omega), if_neg (by rintro ⟨q, hq, hbad⟩; exact hbad (hz q hq))]
  refine ⟨by decide, _, byteD (i := 1) (by omega), _, wrapI64 (by omega) (by omega), 2, rfl, 10, rfl, by decide, by omega, _, rfl, (rNumber_c _ (by rw [esz]; decide) h7).mono ?_⟩
  rintro e h8 ⟨rfl, rfl⟩
  rw [ebl, show 10 - 2 = 8 from rfl]
  refine ⟨_, rfl, 10, rfl, 14, rfl, by decide, by omega, _, rfl, (rNumber_c _ (by rw [esz]; decide) h8).mono ?_⟩
  rintro e h9 ⟨rfl, rfl⟩
  rw [ebl, show 14 - 10 = 4 from rfl]
  refine ⟨_, rfl, _, wrapI64 (by omega) (by omega), ((16 + n : Nat) : Int), by rw [wrapI64] <;> omega, 16, rfl, 16 + n, rfl, by omega, by omega, _, rfl, by decide, _, byteD (i := 0) (by omega), _, wrapI64 (by omega) (by omega), rfl, (st h9 ⟨(((bl s).getD 1 0).toNat : Int), numL (((bl s).drop 2).take 8), (numL (((bl s).drop 10).take 4) : Int), s.extract 16 (16 + n)⟩ x7).1, (st h9 Frm.no x7).2, fun hr er => fin h9 hr _ _ 0 x7 hgood er⟩

end Go.Vc

/- The document seals, and puts. -/
namespace Go.Vc
open Go Go.Proofs Go.MapKept

/-- turnoutref05.Wrong -/
theorem rWrong_c (f : Frm) (h : Hp) : CallsH Tryd.prog 99 #[.agg (frmV f).toArray] h fun e h' => Ext h h' ∧ e = .returned (vZ f.wrong) := by
  refine V99 _ _ _ _ h _ ?_
  intro b h1 hb e1
  have x1 : Ext h h1 := by rw [e1]; exact Ext.push _ _
  have c1 : h1[h.size]? = some (.cells (frmV f).toArray 94) := by rw [e1]; exact push_last
  clear e1
  subst hb
  refine ⟨decide (f.kind < 1 ∨ 255 < f.kind ∨ f.index < 0 ∨ 2147483647 < f.index), ⟨f.kind, cellsAt_one (cellH_at c1), fun hc => ⟨rfl, ?_⟩, fun hc => ⟨f.kind, cellsAt_one (cellH_at c1), fun hd => ⟨rfl, ?_⟩, fun hd => ⟨f.index, cellsAt_one (cellH_at c1), fun he => ⟨rfl, ?_⟩, fun he => ⟨f.index, cellsAt_one (cellH_at c1), rfl, ?_⟩⟩⟩⟩, fun hB => ⟨x1, ?_⟩, fun hB => ⟨f.body, cellsAt_one (cellH_at c1), fun hl => ⟨x1, ?_⟩, fun hl => ⟨x1, ?_⟩⟩⟩
  · have hc : f.kind < 1 := by simpa using hc
    simp [hc]
  · have hd : 255 < f.kind := by simpa using hd
    simp [hd]
  · have he : f.index < 0 := by simpa using he
    simp [he]
  · have h1 : ¬ f.kind < 1 := by simpa using hc
    have h2 : ¬ 255 < f.kind := by simpa using hd
    have h3 : ¬ f.index < 0 := by simpa using he
    simp [h1, h2, h3]
  · unfold Frm.wrong
    rw [if_pos (of_decide_eq_true hB)]
  · unfold Frm.wrong
    have hl : 491 < f.body.size := by simp at hl; omega
    rw [if_neg (of_decide_eq_false hB), if_pos hl]
  · unfold Frm.wrong
    have hl : ¬ 491 < f.body.size := by simp at hl; omega
    rw [if_neg (of_decide_eq_false hB), if_neg hl]


set_option maxHeartbeats 1000000 in
/-- turnoutref05.Seal -/
theorem rSeal_c (f : Frm) (ok : f.Ok) (mark : Int) (h : Hp) : CallsH Tryd.prog 100 #[.agg (frmV f).toArray, vZ mark] h fun e h' => Ext h h' ∧ e = .returned (.tuple #[.string (sealF f mark).1, vZ (sealF f mark).2]) := by
  refine V100 _ _ _ _ _ h _ ?_
  intro b h1 hb e1
  have x1 : Ext h h1 := by rw [e1]; exact Ext.push _ _
  have c1 : h1[h.size]? = some (.cells (frmV f).toArray 94) := by rw [e1]; exact push_last
  clear e1
  subst hb
  refine ⟨fun l hq => l = [] ∧ hq = h1 ∧ 0 ≤ mark ∧ mark ≤ 255, ⟨decide (mark < 0 ∨ 255 < mark), ⟨fun hc => ⟨rfl, ?_⟩, fun hc => ⟨rfl, ?_⟩⟩, fun hB => ⟨x1, ?_⟩, fun hB => ?_⟩, ?_⟩
  · have hc : mark < 0 := by simpa using hc
    simp [hc]
  · have hc : ¬ mark < 0 := by simpa using hc
    simp [hc]
  · unfold sealF
    rw [if_pos (of_decide_eq_true hB)]
  · have := of_decide_eq_false hB
    exact ⟨rfl, rfl, by omega, by omega⟩
  rintro h2 ⟨_, rfl, hm0, hm1⟩
  refine ⟨_, _, _, _, cellsAt_all (vs := frmV f) c1, (rWrong_c f h2).mono ?_⟩
  rintro e h3 ⟨x3, rfl⟩
  have c3 := x3.frm c1
  refine ⟨_, rfl, fun hw => ⟨x1.trans x3, ?_⟩, fun hw => ?_⟩
  · unfold sealF
    rw [if_neg (by omega), if_pos (by simpa using hw)]
  have hw0 : f.wrong = 0 := by simpa using hw
  have R := Frm.Right.of ok hw0
  obtain ⟨hk0, hk1, hi0, hi1, hbd⟩ := f.right_of hw0
  have hres : sealF f mark = (tx (sealL f (UInt8.ofNat mark.toNat)), 0) := by
    unfold sealF
    rw [if_neg (by omega), if_neg (by simpa using hw0)]
  rw [hres]
  have C : ∀ (k : Nat) (v : Value), (frmV f)[k]? = some v → ∀ h' : Hp, h'[h.size]? = some (.cells (frmV f).toArray 94) → cellsAt h' h.size (0 + k) [v] := by
    intro k v hv h' hc
    refine cellsAt_one (cellH_at (cs := (frmV f).toArray) hc |>.trans ?_)
    rw [Nat.zero_add]
    simpa using hv
  have wz : ∀ {n : Int}, 0 ≤ n → n ≤ 9223372036854775807 → IntKind.u64.wrap n = ((n.toNat : Nat) : Int) := fun h0 h1 => by rw [wrapU64]; omega
  have sz : ∀ k n, (tx (beL k n)).size = k := fun k n => by rw [tx_size, beL_length]
  refine ⟨fun h' => h'[h.size]? = some (.cells (frmV f).toArray 94), c3, _, C 0 _ rfl _ c3, _, wz (by omega) (by omega), (rBytes_c f.kind.toNat 1 (by omega) (by decide) h3).mono ?_⟩
  rintro e h4 ⟨x4, rfl⟩
  have c4 := x4.frm c3
  refine ⟨_, rfl, c4, _, C 1 _ rfl, (rBytes_c f.number 8 ok.n (by decide) h4).mono ?_⟩
  rintro e h5 ⟨x5, rfl⟩
  have c5 := x5.frm c4
  refine ⟨_, rfl, c5, by rw [sz, sz]; decide, _, rfl, _, C 2 _ rfl, _, wz hi0 (by omega), (rBytes_c f.index.toNat 4 (by omega) (by decide) h5).mono ?_⟩
  rintro e h6 ⟨x6, rfl⟩
  have c6 := x6.frm c5
  refine ⟨_, rfl, c6, by rw [ByteArray.size_append, sz, sz, sz]; decide, _, rfl, f.body, C 3 _ rfl, _, wrapU (by omega), (rBytes_c f.body.size 2 (by omega) (by decide) h6).mono ?_⟩
  rintro e h7 ⟨x7, rfl⟩
  have c7 := x7.frm c6
  refine ⟨_, rfl, c7, by rw [ByteArray.size_append, ByteArray.size_append, sz, sz, sz, sz]; decide, _, rfl, f.body, C 3 _ rfl, by rw [ByteArray.size_append, ByteArray.size_append, ByteArray.size_append, sz, sz, sz, sz]; omega, _, rfl, f.body, C 3 _ rfl _ c7, ((491 - f.body.size : Nat) : Int), by rw [wrapI64] <;> omega, ?_⟩
  refine semH_make rowB zerosB (l := 491 - f.body.size) (c := 491 - f.body.size) (Nat.le_refl _) (by omega) (by simp only [maxLen]; omega) ⟨_, _, _, rfl, ?_⟩
  have x8 : Ext h7 (h7.push (.cells (Array.replicate (491 - f.body.size) (.int .u8 0)) 5)) := Ext.push _ _
  have o8 : Own (h7.push (.cells (Array.replicate (491 - f.body.size) (.int .u8 0)) 5)) h7.size 5 1 (.slice (some ⟨h7.size, 0, none⟩) (491 - f.body.size) (491 - f.body.size)) (491 - f.body.size) (List.replicate (491 - f.body.size) (.int .u8 0)) := own_made (z := .int .u8 0) (Nat.le_refl _) (by simp only [maxLen]; omega) (Nat.le_refl _)
  generalize (h7.push (.cells (Array.replicate (491 - f.body.size) (.int .u8 0)) 5)) = h8 at x8 o8
  have hbz : byteVs (tx (List.replicate (491 - f.body.size) 0)).data.toList = List.replicate (491 - f.body.size) (.int .u8 0) := by
    show byteVs (bl (tx _)) = _
    rw [bl_tx]; exact List.map_replicate
  refine semH_toText uBs uB uStr (t := tx (List.replicate (491 - f.body.size) 0)) (by rw [hbz]; exact o8.seg) ⟨_, rfl, ?_⟩
  have hmid : tx (beL 1 f.kind.toNat) ++ tx (beL 8 f.number) ++ tx (beL 4 f.index.toNat) ++ tx (beL 2 f.body.size) ++ f.body ++ tx (List.replicate (491 - f.body.size) 0) = tx (midL f) := by
    apply bl_inj
    simp only [bl_append, bl_tx, midL, List.append_assoc]
  have smid : (tx (midL f)).size = 506 := by rw [tx_size, midL_length hbd]
  refine ⟨by simp only [ByteArray.size_append, sz, tx_size, List.length_replicate]; omega, _, hmid, _, wz hm0 (by omega), (rBytes_c mark.toNat 1 (by omega) (by decide) h8).mono ?_⟩
  rintro e h9 ⟨x9, rfl⟩
  refine ⟨_, rfl, by rw [sz, smid]; decide, _, rfl, (rSum_c (tx (midL f)) (by rw [smid]; decide) h9).mono ?_⟩
  rintro e h10 ⟨x10, rfl⟩
  refine ⟨_, rfl, by rw [ByteArray.size_append, sz, smid, tx_size, leL_length]; decide, _, rfl, by rw [ByteArray.size_append, ByteArray.size_append, sz, smid, tx_size, leL_length]; decide, _, rfl, ((((((x1.trans x3).trans x4).trans x5).trans x6).trans x7).trans x8).trans (x9.trans x10), ?_⟩
  congr 2
  have e : tx (beL 1 mark.toNat) ++ tx (midL f) ++ tx (leL (sumB [tx (midL f)])) ++ tx (beL 1 mark.toNat) = tx (sealL f (UInt8.ofNat mark.toNat)) := by
    apply bl_inj
    simp only [bl_append, bl_tx]
    unfold sealL sumL
    show (([UInt8.ofNat mark.toNat] ++ midL f) ++ leL (sumB [tx (midL f)])) ++ [UInt8.ofNat mark.toNat] = _
    simp
  rw [e]


end Go.Vc

