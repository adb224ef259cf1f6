/- Values: contracts of the functions that the packer calls. -/
import Derived.Test.YtloieaoglpjffaaS3PkT
import Derived.Test.YtloieaoglpjffaaPkM
set_option maxRecDepth 10000
namespace Go.Vc
open Go Go.Proofs

def bvL (N : Nat) : List Value := [vU (N / 2 ^ 64), vU (N % 2 ^ 64)]
abbrev bv (N : Nat) : Value := .agg (bvL N).toArray

theorem zerosBits : zeros Try.prog 34 = #[vU 0, vU 0] := by kernel_rfl
theorem infoBits : ∃ i z, Try.prog.info? 34 = some i ∧ i.zero = some z := by
  have : ((Try.prog.info? 34).bind (·.zero)).isSome = true := by kernel_rfl
  obtain ⟨z, hz⟩ := Option.isSome_iff_exists.1 this
  obtain ⟨i, hi, hz⟩ := Option.bind_eq_some_iff.1 hz
  exact ⟨i, z, hi, hz⟩

section
variable {h h2 : Hp} {b1 : Nat}

theorem two_put {v0 v1 : Value} {t : TypeId} (c : h2[b1]? = some (.cells #[v0, v1] t)) (p q : Int) :
    List.length [(Value.int .u64 p), (Value.int .u64 q)] = 2 ∧ (∀ c ∈ [(Value.int .u64 p), (Value.int .u64 q)], c.oneCell' = true) ∧ wrAt h2 b1 0 2 ∧ (setsH h2 b1 0 [(Value.int .u64 p), (Value.int .u64 q)])[b1]? = some (.cells #[.int .u64 p, .int .u64 q] t) :=
  ⟨rfl, by simp [Value.oneCell'], wrAt_of c (by show 0 + 2 ≤ 2; decide) (.inl (Nat.zero_le _)), setsH_at c⟩

/-- A result in a variable of its own is set, and handed back. -/
theorem bits_put {v0 v1 : Value} {t : TypeId} (x : Ext h h2) (c : h2[b1]? = some (.cells #[v0, v1] t)) (hb : h.size ≤ b1) (p q : Int) {K : Int → Int → Hp → Prop} (hK : ∀ h3, Ext h h3 → K p q h3) :
    List.length [(Value.int .u64 p), (Value.int .u64 q)] = 2 ∧ (∀ c ∈ [(Value.int .u64 p), (Value.int .u64 q)], c.oneCell' = true) ∧ wrAt h2 b1 0 2 ∧ ∀ h3, h3 = setsH h2 b1 0 [(Value.int .u64 p), (Value.int .u64 q)] →
      ∃ r0 : Int, ∃ r1 : Int, cellsAt h3 b1 0 [(Value.int .u64 r0), (Value.int .u64 r1)] ∧ K r0 r1 h3 := by
  obtain ⟨e1, e2, e3, e4⟩ := two_put c p q
  refine ⟨e1, e2, e3, ?_⟩
  rintro h3 rfl
  exact ⟨p, q, cellsAt_all (vs := [.int .u64 p, .int .u64 q]) e4, hK _ (x.over (setsH_same (B := fun x => x = b1) rfl) fun x hx => by omega)⟩

end

theorem div128 {N : Nat} (hN : N < 2 ^ 128) : N / 2 ^ 64 < 2 ^ 64 := by omega

/-- value.right -/
theorem right_c (N n : Nat) (hN : N < 2 ^ 128) (hn : n ≤ 128) (h : Hp) : CallsH Try.prog 72 #[bv N, vI n] h fun e h' => Ext h h' ∧ e = .returned (bv (N / 2 ^ n)) := by
  refine V72 _ _ _ h _ ?_
  intro b h1 hb e1
  have x1 : Ext h h1 := by rw [e1]; exact Ext.push _ _
  have c1 : h1[b]? = some (.cells #[vU (N / 2 ^ 64), vU (N % 2 ^ 64)] 34) := by rw [e1, hb]; exact push_last
  have s1 : h1.size = h.size + 1 := by rw [e1]; simp
  clear e1
  intro b1 h2 hb1 e2
  have x2 : Ext h1 h2 := by rw [e2]; exact Ext.push _ _
  have c2 : h2[b1]? = some (.cells #[vU 0, vU 0] 34) := by rw [e2, hb1, zerosBits]; exact push_last
  clear e2
  have c1 := (x2.old b (by omega)).trans c1
  have hd := div128 hN
  refine ⟨infoBits, fun hc => ?_, fun hc => ?_⟩
  · have hc : 64 ≤ n := by simp at hc; omega
    obtain ⟨a1, a2⟩ := right_ge hc hN
    refine ⟨_, cellsAt_one (cellH_at c1), ((n - 64 : Nat) : Int), by rw [wrapI64] <;> omega, by omega, _, sr64n (by omega), bits_put (x1.trans x2) c2 (by omega) _ _ fun h3 x3 => ⟨x3, ?_⟩⟩
    show _ = Ending.returned (Value.agg #[vU (N / 2 ^ n / 2 ^ 64), vU (N / 2 ^ n % 2 ^ 64)])
    rw [a1, Nat.div_eq_of_lt a2, Nat.mod_eq_of_lt a2]
    rfl
  · have hc : n < 64 := by simp at hc; omega
    obtain ⟨a1, a2⟩ := right_lt (N := N) hc
    refine ⟨_, cellsAt_one (cellH_at c1), by omega, _, sr64n (by omega), _, cellsAt_one (cellH_at c1), by omega, _, sr64n (by omega), _, cellsAt_one (cellH_at c1), ((64 - n : Nat) : Int), by rw [wrapI64] <;> omega, by omega, _, shl64n (by omega), _,
      or64n (Nat.lt_of_le_of_lt (Nat.div_le_self _ _) (Nat.mod_lt _ (by decide))) (Nat.mod_lt _ (by decide)), bits_put (x1.trans x2) c2 (by omega) _ _ fun h3 x3 => ⟨x3, ?_⟩⟩
    show _ = Ending.returned (Value.agg #[vU (N / 2 ^ n / 2 ^ 64), vU (N / 2 ^ n % 2 ^ 64)])
    rw [a1, a2]

/-- value.left, by eight -/
theorem left_c (N : Nat) (hN : N < 2 ^ 128) (h : Hp) : CallsH Try.prog 70 #[bv N, vI 8] h fun e h' => Ext h h' ∧ e = .returned (bv (N * 256 % 2 ^ 128)) := by
  refine V70 _ _ _ h _ ?_
  intro b h1 hb e1
  have x1 : Ext h h1 := by rw [e1]; exact Ext.push _ _
  have c1 : h1[b]? = some (.cells #[vU (N / 2 ^ 64), vU (N % 2 ^ 64)] 34) := by rw [e1, hb]; exact push_last
  have s1 : h1.size = h.size + 1 := by rw [e1]; simp
  clear e1
  intro b1 h2 hb1 e2
  have x2 : Ext h1 h2 := by rw [e2]; exact Ext.push _ _
  have c2 : h2[b1]? = some (.cells #[vU 0, vU 0] 34) := by rw [e2, hb1, zerosBits]; exact push_last
  clear e2
  have c1 := (x2.old b (by omega)).trans c1
  have hd := div128 hN
  refine ⟨infoBits, fun hc => (by simp at hc), fun _ => ?_⟩
  obtain ⟨a1, a2⟩ := left8 (N := N)
  refine ⟨_, cellsAt_one (cellH_at c1), by decide, _, shl64n (n := 8) (by decide), _, cellsAt_one (cellH_at c1), ((56 : Nat) : Int), by rw [wrapI64] <;> decide, by decide, _, sr64n (by decide), _,
    or64n (Nat.mod_lt _ (by decide)) (Nat.lt_of_le_of_lt (Nat.div_le_self _ _) (Nat.mod_lt _ (by decide))), _, cellsAt_one (cellH_at c1), by decide, _, shl64n (n := 8) (by decide), bits_put (x1.trans x2) c2 (by omega) _ _ fun h3 x3 => ⟨x3, ?_⟩⟩
  show _ = Ending.returned (Value.agg #[vU (N * 256 % 2 ^ 128 / 2 ^ 64), vU (N * 256 % 2 ^ 128 % 2 ^ 64)])
  rw [a1, a2]

/-- value.isWidth -/
theorem isWidth_c (w : Int) (h : Hp) : CallsH Try.prog 69 #[vZ w] h fun e h' => h' = h ∧ e = .returned (.bool (isW w)) := by
  refine V69 _ h _ ⟨isW w, ⟨fun h1 => ⟨rfl, ?_⟩, fun h1 => ⟨rfl, ?_⟩⟩, rfl, rfl⟩
  · have h1 := of_decide_eq_true h1
    simp [isW, h1]
  · have h1 := of_decide_eq_false h1
    simp [isW, h1]

/-- value.Fits -/
theorem fits_c (N : Nat) (hN : N < 2 ^ 128) (w : Int) (h : Hp) : CallsH Try.prog 71 #[bv N, vZ w] h fun e h' => Ext h h' ∧ e = .returned (.bool (fitsN N w)) := by
  refine V71 _ _ _ h _ ?_
  intro b h1 hb e1
  have x1 : Ext h h1 := by rw [e1]; exact Ext.push _ _
  have c1 : h1[b]? = some (.cells #[vU (N / 2 ^ 64), vU (N % 2 ^ 64)] 34) := by rw [e1, hb]; exact push_last
  clear e1
  refine (isWidth_c w h1).mono ?_
  rintro e h2 ⟨rfl, rfl⟩
  refine ⟨_, rfl, fun hw => ?_, fun hw => ⟨x1, by simp [fitsN, hw]⟩⟩
  obtain ⟨w0, w1⟩ := isW_iff.1 hw
  obtain ⟨m, rfl⟩ := Int.eq_ofNat_of_zero_le (show 0 ≤ w by omega)
  refine ⟨_, _, cellsAt_all (vs := [vU (N / 2 ^ 64), vU (N % 2 ^ 64)]) c1, (right_c N m hN (by omega) _).mono ?_⟩
  rintro e h3 ⟨x3, rfl⟩
  refine ⟨_, _, rfl, _, eqv_ints (n := 2) (k := .u64) (by kernel_rfl) [((N / 2 ^ m / 2 ^ 64 : Nat) : Int), ((N / 2 ^ m % 2 ^ 64 : Nat) : Int)] [0, 0] rfl rfl, x1.trans x3, ?_⟩
  congr 2
  unfold fitsN
  rw [hw, Bool.true_and]
  apply decide_eq_decide.2
  simp only [List.cons.injEq, and_true, Int.toNat_natCast]
  omega

/-- value.Bytes -/
theorem bytes_c (N : Nat) (hN : N < 2 ^ 128) (w : Int) (h : Hp) : CallsH Try.prog 59 #[bv N, vZ w] h fun e h' => Ext h h' ∧ e = .returned (.tuple #[.string (tx (bytesF N w).1), vZ (bytesF N w).2]) := by
  refine V59 _ _ _ h _ ?_
  intro b h1 hb e1
  have x1 : Ext h h1 := by rw [e1]; exact Ext.push _ _
  have c1 : h1[b]? = some (.cells #[vU (N / 2 ^ 64), vU (N % 2 ^ 64)] 34) := by rw [e1, hb]; exact push_last
  have s1 : h1.size = h.size + 1 := by rw [e1]; simp
  clear e1
  refine (isWidth_c w h1).mono ?_
  rintro e h1 ⟨rfl, rfl⟩
  refine ⟨_, rfl, fun hw => ⟨x1, ?_⟩, fun hw => ?_⟩
  · have hw : isW w = false := by simpa using hw
    unfold bytesF; rw [if_pos hw]; rfl
  have hw : isW w = true := by simpa using hw
  obtain ⟨w0, w1⟩ := isW_iff.1 hw
  refine ⟨_, _, cellsAt_all (vs := [vU (N / 2 ^ 64), vU (N % 2 ^ 64)]) c1, (fits_c N hN w _).mono ?_⟩
  rintro e h2 ⟨x2, rfl⟩
  refine ⟨_, rfl, fun hf => ⟨x1.trans x2, ?_⟩, fun hf => ?_⟩
  · have hf : fitsN N w = false := by simpa using hf
    unfold bytesF; rw [if_neg (by rw [hw]; simp), if_pos hf]; rfl
  have hf : fitsN N w = true := by simpa using hf
  obtain ⟨k, hk⟩ : ∃ k, k = (w.toNat + 7) / 8 := ⟨_, rfl⟩
  have hk1 : 1 ≤ k := by omega
  have hk16 : k ≤ 16 := by omega
  have eF : bytesF N w = (beL k N, 0) := by unfold bytesF; rw [if_neg (by rw [hw]; simp), if_neg (by rw [hf]; simp), hk]
  rw [eF]
  have ek : IntKind.i64.wrap (Int.tdiv (w + 7) 8) = (k : Int) := by
    have e1 : w + 7 = ((w.toNat + 7 : Nat) : Int) := by omega
    have : Int.tdiv (w + 7) 8 = (((w.toNat + 7) / 8 : Nat) : Int) := by rw [e1]; exact (Int.ofNat_tdiv _ 8).symm
    rw [this, ← hk, wrapI64] <;> omega
  refine ⟨w + 7, by rw [wrapI64] <;> omega, by decide, (k : Int), ek, semH_make rowB (z := vB 0) (by kernel_rfl) (Nat.le_refl k) (by omega) (by unfold maxLen; omega) ⟨_, _, _, rfl, ?_⟩⟩
  generalize hh3 : h2.push (.cells (Array.replicate k (vB 0)) 5) = h3
  have x3 : Ext h2 h3 := by rw [← hh3]; exact Ext.push _ _
  have o3 : Own h3 h.size 5 1 (.slice (some ⟨h2.size, 0, none⟩) k k) k (byteVs (List.replicate k 0)) := by
    have := own_made (e := 5) (z := vB 0) (Nat.le_refl k) (by unfold maxLen; omega) (show h.size ≤ h2.size from (x1.trans x2).size)
    rw [hh3] at this
    have e0 : byteVs (List.replicate k 0) = List.replicate k (vB 0) := by simp [byteVs]
    rw [e0]; exact this
  have c3 := (x3.old b (by have := x2.size; omega)).trans ((x2.old b (by omega)).trans c1)
  refine ⟨fun l hr => ∃ i : Nat, i ≤ k ∧ l = [vI i] ∧ Ext h hr ∧ hr[b]? = some (.cells #[vU (N / 2 ^ 64), vU (N % 2 ^ 64)] 34) ∧ Own hr h.size 5 1 (.slice (some ⟨h2.size, 0, none⟩) k k) k (byteVs (List.replicate (k - i) 0 ++ beL i N)), fun l _ => (k - numAt l 0).toNat,
    ⟨0, Nat.zero_le _, rfl, (x1.trans x2).trans x3, c3, by simpa [beL] using o3⟩, ?_⟩
  rintro iv h4 ⟨i, hi, hl, x4, c4, o4⟩
  cases hl
  refine ⟨fun hlt => ?_, fun hge => ?_⟩
  · have hlt : i < k := by simp at hlt; omega
    refine ⟨((k - 1 : Nat) : Int), by rw [wrapI64] <;> omega, ((k - 1 - i : Nat) : Int), by rw [wrapI64] <;> omega, _, _, cellsAt_all (vs := [vU (N / 2 ^ 64), vU (N % 2 ^ 64)]) c4, ((8 * i : Nat) : Int), by rw [wrapI64] <;> omega, (right_c N (8 * i) hN (by omega) h4).mono ?_⟩
    rintro e h5 ⟨x5, rfl⟩
    have eb : IntKind.u8.wrap ((N / 2 ^ (8 * i) % 2 ^ 64 : Nat) : Int) = ((UInt8.ofNat (N / 256 ^ i)).toNat : Int) := by
      rw [wrapU8, u8_nat, show (256 : Nat) ^ i = 2 ^ (8 * i) by rw [show (256 : Nat) = 2 ^ 8 from rfl, ← Nat.pow_mul]]
      omega
    refine ⟨_, _, rfl, _, eb, (o4.ext x5).store (i := k - 1 - i) (by omega) rfl fun h6 o6 g6 s6 => ?_⟩
    have x6 : Ext h h6 := (x4.trans x5).own (o4.ext x5) (Nat.le_refl _) g6
    have c5 := (x5.old b (Array.getElem?_eq_some_iff.1 c4).1).trans c4
    have l5 : b < h5.size := (Array.getElem?_eq_some_iff.1 c5).1
    have c6 : h6[b]? = some (.cells #[vU (N / 2 ^ 64), vU (N % 2 ^ 64)] 34) := (g6.block b l5 (by
      intro e
      have e : b = h2.size := by simpa [Value.ownBlock] using e
      have := x2.size
      omega)).trans c5
    refine ⟨_, incI (by omega), ⟨i + 1, hlt, rfl, x6, c6, ?_⟩, by simp only [numAt]; omega⟩
    have e6 : (byteVs (List.replicate (k - i) 0 ++ beL i N)).set (k - 1 - i) (vB (UInt8.ofNat (N / 256 ^ i))) = byteVs (List.replicate (k - (i + 1)) 0 ++ beL (i + 1) N) := by
      rw [beL_succ, ← set_back hlt]
      simp only [byteVs, List.map_set]
    rw [← e6]
    exact o6
  · have hik : i = k := by simp at hge; omega
    subst hik
    have sg : Seg h4 (some ⟨h2.size, 0, none⟩) i (byteVs (tx (beL i N)).data.toList) := by
      have := o4.seg
      rw [Nat.sub_self, List.replicate_zero, List.nil_append] at this
      rw [show (tx (beL i N)).data.toList = beL i N from bl_tx _]
      exact this
    exact semH_toText uBs uB uStr sg ⟨_, rfl, x4, rfl⟩

/-- value.From -/
theorem from_c (s : ByteArray) (hs : s.size ≤ 9223372036854775807) (w : Int) (h : Hp) : CallsH Try.prog 55 #[.string s, vZ w] h fun e h' => Ext h h' ∧ e = .returned (.tuple #[bv (fromF (bl s) w).1, vZ (fromF (bl s) w).2]) := by
  refine V55 _ _ h _ ?_
  intro b h1 hb e1
  have x1 : Ext h h1 := by rw [e1]; exact Ext.push _ _
  have c1 : h1[b]? = some (.cells #[vU 0, vU 0] 34) := by rw [e1, hb, zerosBits]; exact push_last
  have s1 : h1.size = h.size + 1 := by rw [e1]; simp
  clear e1
  refine ⟨infoBits, (isWidth_c w h1).mono ?_⟩
  rintro e h1 ⟨rfl, rfl⟩
  refine ⟨_, rfl, fun hw => bits_put x1 c1 (by omega) 0 0 fun h3 x3 => ⟨x3, ?_⟩, fun hw => ?_⟩
  · have hw : isW w = false := by simpa using hw
    unfold fromF; rw [if_pos hw]; rfl
  have hw : isW w = true := by simpa using hw
  obtain ⟨w0, w1⟩ := isW_iff.1 hw
  obtain ⟨k, hk⟩ : ∃ k, k = (w.toNat + 7) / 8 := ⟨_, rfl⟩
  have hk1 : 1 ≤ k := by omega
  have hk16 : k ≤ 16 := by omega
  have ek : IntKind.i64.wrap (Int.tdiv (w + 7) 8) = (k : Int) := by
    have e1 : w + 7 = ((w.toNat + 7 : Nat) : Int) := by omega
    have : Int.tdiv (w + 7) 8 = (((w.toNat + 7) / 8 : Nat) : Int) := by rw [e1]; exact (Int.ofNat_tdiv _ 8).symm
    rw [this, ← hk, wrapI64] <;> omega
  refine ⟨w + 7, by rw [wrapI64] <;> omega, by decide, (k : Int), ek, fun hl => bits_put x1 c1 (by omega) 0 0 fun h3 x3 => ⟨x3, ?_⟩, fun hl => ?_⟩
  · have hl : (bl s).length ≠ k := by have := of_decide_eq_true hl; rw [bl_length]; omega
    unfold fromF; rw [if_neg (by rw [hw]; simp), ← hk, if_pos hl]; rfl
  have hl : s.size = k := by have := of_decide_eq_false hl; omega
  have hbl : (bl s).length = k := by rw [bl_length]; exact hl
  intro b2 h2 hb2 e2
  have x2 : Ext h1 h2 := by rw [e2]; exact Ext.push _ _
  have c2 : h2[b2]? = some (.cells #[vU 0, vU 0] 34) := by rw [e2, hb2, zerosBits]; exact push_last
  clear e2
  have cb := (x2.old b (by omega)).trans c1
  obtain ⟨p1, p2, p3, p4⟩ := two_put c2 0 0
  refine ⟨infoBits, p1, p2, p3, ?_⟩
  intro h3 e3
  have c3 : h3[b2]? = some (.cells #[vU 0, vU 0] 34) := by rw [e3]; exact p4
  have cb3 : h3[b]? = some (.cells #[vU 0, vU 0] 34) := by rw [e3]; exact (setsH_ne (by omega)).trans cb
  have x3 : Ext h h3 := by rw [e3]; exact (x1.trans x2).over (setsH_same (B := fun x => x = b2) rfl) fun x hx => by omega
  have hlt : ∀ j, numL ((bl s).take j) < 256 ^ (min j k) := fun j => by
    have := numL_lt ((bl s).take j)
    rwa [List.length_take, hbl] at this
  refine ⟨fun l hr => ∃ i : Nat, i ≤ k ∧ l = [vI i] ∧ Ext h hr ∧ hr[b]? = some (.cells #[vU 0, vU 0] 34) ∧ hr[b2]? = some (.cells #[vU (numL ((bl s).take i) / 2 ^ 64), vU (numL ((bl s).take i) % 2 ^ 64)] 34), fun l _ => (k - numAt l 0).toNat,
    ⟨0, Nat.zero_le _, rfl, x3, cb3, by rw [show numL ((bl s).take 0) = 0 from rfl]; exact c3⟩, ?_⟩
  rintro iv h4 ⟨i, hi, hl', x4, cb4, c4⟩
  cases hl'
  refine ⟨fun hlti => ?_, fun hge => ?_⟩
  · have hlti : i < k := by simp at hlti; omega
    obtain ⟨A, hA⟩ : ∃ A, A = numL ((bl s).take i) := ⟨_, rfl⟩
    rw [← hA] at c4
    have hAl : A < 256 ^ i := by have := hlt i; rw [Nat.min_eq_left hi, ← hA] at this; exact this
    have hA15 : A < 2 ^ 120 := Nat.lt_of_lt_of_le hAl (by rw [show (2 : Nat) ^ 120 = 256 ^ 15 from rfl]; exact Nat.pow_le_pow_right (by decide) (by omega))
    have hmod : A * 256 % 2 ^ 128 = A * 256 := by omega
    refine ⟨_, _, cellsAt_all (vs := [vU (A / 2 ^ 64), vU (A % 2 ^ 64)]) c4, (left_c A (by omega) h4).mono ?_⟩
    rintro e h5 ⟨x5, rfl⟩
    rw [hmod]
    have c5 := (x5.old b2 (Array.getElem?_eq_some_iff.1 c4).1).trans c4
    have cb5 := (x5.old b (Array.getElem?_eq_some_iff.1 cb4).1).trans cb4
    obtain ⟨q1, q2, q3, q4⟩ := two_put c5 ((A * 256 / 2 ^ 64 : Nat) : Int) ((A * 256 % 2 ^ 64 : Nat) : Int)
    refine ⟨_, _, rfl, q1, q2, q3, ?_⟩
    intro h6 e6
    have c6 : h6[b2]? = some (.cells #[vU (A * 256 / 2 ^ 64), vU (A * 256 % 2 ^ 64)] 34) := by rw [e6]; exact q4
    have hib : i < s.size := by omega
    have hil : i < (bl s).length := by omega
    have hor : A * 256 % 2 ^ 64 ||| (bl s)[i].toNat = A * 256 % 2 ^ 64 + (bl s)[i].toNat := by
      have h8 : (bl s)[i].toNat < 2 ^ 8 := (bl s)[i].toNat_lt
      have e1 : A * 256 % 2 ^ 64 = 2 ^ 8 * (A % 2 ^ 56) := by omega
      rw [e1, Nat.or_comm, or_low h8]
    have h8 : (bl s)[i].toNat < 256 := (bl s)[i].toNat_lt
    refine ⟨_, cellsAt_one (cellH_at c6), by omega, (bl s)[i], ?_, ((bl s)[i].toNat : Int), by rw [wrapU64]; omega, _, or64n (Nat.mod_lt _ (by decide)) (by omega), rfl, wrAt_of c6 (by show 0 + 1 + 1 ≤ 2; decide) (.inl (Nat.zero_le _)), ?_⟩
    · rw [Int.toNat_natCast, byteD hib, List.getD_eq_getElem?_getD, List.getElem?_eq_getElem hil]; rfl
    intro h7 e7
    rw [hor] at e7
    have en : numL ((bl s).take (i + 1)) = A * 256 + (bl s)[i].toNat := by rw [numL_take hil, ← hA]; omega
    have c7 : h7[b2]? = some (.cells #[vU ((A * 256 + (bl s)[i].toNat) / 2 ^ 64), vU ((A * 256 + (bl s)[i].toNat) % 2 ^ 64)] 34) := by
      rw [e7, setsH_at c6]
      have e1 : (A * 256 + (bl s)[i].toNat) / 2 ^ 64 = A * 256 / 2 ^ 64 := by omega
      have e2 : (A * 256 + (bl s)[i].toNat) % 2 ^ 64 = A * 256 % 2 ^ 64 + (bl s)[i].toNat := by omega
      rw [e1, e2]
      rfl
    have x7 : Ext h h7 := by
      rw [e7, e6]
      exact ((x4.trans x5).over (setsH_same (B := fun x => x = b2) rfl) fun x hx => by omega).over (setsH_same (B := fun x => x = b2) rfl) fun x hx => by omega
    have cb7 : h7[b]? = some (.cells #[vU 0, vU 0] 34) := by rw [e7, e6]; exact (setsH_ne (by omega)).trans ((setsH_ne (by omega)).trans cb5)
    exact ⟨_, incI (by omega), ⟨i + 1, hlti, rfl, x7, cb7, by rw [en]; exact c7⟩, by simp only [numAt]; omega⟩
  · have hik : i = k := by simp at hge; omega
    have hA : numL ((bl s).take i) = numL (bl s) := by rw [List.take_of_length_le (by omega)]
    rw [hA] at c4
    have hNl : numL (bl s) < 2 ^ 128 := by
      have := hlt k
      rw [Nat.min_self, List.take_of_length_le (by omega)] at this
      exact Nat.lt_of_lt_of_le this (by rw [show (2 : Nat) ^ 128 = 256 ^ 16 from rfl]; exact Nat.pow_le_pow_right (by decide) hk16)
    refine ⟨_, _, cellsAt_all (vs := [vU (numL (bl s) / 2 ^ 64), vU (numL (bl s) % 2 ^ 64)]) c4, (fits_c (numL (bl s)) hNl w h4).mono ?_⟩
    rintro e h5 ⟨x5, rfl⟩
    have c5 := (x5.old b2 (Array.getElem?_eq_some_iff.1 c4).1).trans c4
    have cb5 := (x5.old b (Array.getElem?_eq_some_iff.1 cb4).1).trans cb4
    refine ⟨_, rfl, fun hf => bits_put (x4.trans x5) cb5 (by omega) 0 0 fun h6 x6 => ⟨x6, ?_⟩, fun hf => ⟨_, _, cellsAt_all (vs := [vU (numL (bl s) / 2 ^ 64), vU (numL (bl s) % 2 ^ 64)]) c5, bits_put (x4.trans x5) cb5 (by omega) _ _ fun h6 x6 => ⟨x6, ?_⟩⟩⟩
    · have hf : fitsN (numL (bl s)) w = false := by simpa using hf
      unfold fromF; rw [if_neg (by rw [hw]; simp), ← hk, if_neg (by omega), if_pos hf]; rfl
    · have hf : fitsN (numL (bl s)) w = true := by simpa using hf
      unfold fromF; rw [if_neg (by rw [hw]; simp), ← hk, if_neg (by omega), if_neg (by rw [hf]; simp)]; rfl

end Go.Vc
