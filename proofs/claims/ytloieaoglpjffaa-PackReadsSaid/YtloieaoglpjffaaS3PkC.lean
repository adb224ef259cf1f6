/- The document's reader. -/
import Derived.Test.YtloieaoglpjffaaS3PkU
import Derived.Test.YtloieaoglpjffaaS3PkV
set_option maxRecDepth 10000
namespace Go.Vc
open Go Go.Proofs

/-- At 'p' lies a reader of the document's. -/
structure SdAt (h : Hp) (p : Nat) (r : Rd) : Prop where
  cell : h[p]? = some (.cells #[.string (tx r.b), vI r.at_, vZ r.e, vI r.place] 43)
  ok : r.Ok

section
variable {h h' : Hp} {p : Nat} {r : Rd}

theorem SdAt.lt (R : SdAt h p r) : p < h.size := (Array.getElem?_eq_some_iff.1 R.cell).1
theorem SdAt.ext (R : SdAt h p r) (x : Ext h h') : SdAt h' p r := ⟨(x.old p R.lt).trans R.cell, R.ok⟩
theorem SdAt.other {C : Nat → Prop} (R : SdAt h p r) (x : Same C h h') (hC : ¬ C p) : SdAt h' p r := ⟨(x.old p R.lt hC).trans R.cell, R.ok⟩
theorem SdAt.wr (R : SdAt h p r) {k : Nat} (hk : k < 4) : wrAt h p (0 + k) 1 := wrAt_of R.cell (show 0 + k + 1 ≤ 4 by omega) (.inl (Nat.zero_le _))
theorem SdAt.ne (R : SdAt h p r) {b o : Nat} {vs : List Value} (hb : b ≠ p) (e : h' = setsH h b o vs) : SdAt h' p r := by
  rw [e]; exact ⟨(setsH_ne (Ne.symm hb)).trans R.cell, R.ok⟩
theorem SdAt.to (R : SdAt h p r) {k : Nat} (hk : k ≤ r.left.length) (e : h' = setsH h p (0 + 1) [.int .i64 ((r.at_ + k : Nat) : Int)]) : Same (P1 p) h h' ∧ SdAt h' p (r.to k) := by
  rw [e]
  refine ⟨setsH_same rfl, ?_, R.ok.to hk⟩
  rw [setsH_at R.cell]; rfl

theorem sameP {hz hy hx : Hp} {b o : Nat} {vs : List Value} (x : Ext h hz) (y : Same (P1 p) hz hy) (hb : h.size ≤ b) (e : hx = setsH hy b o vs) : Same (P1 p) h hx := by
  rw [e]
  exact ((x.same _).trans y fun _ h _ => h).trans (setsH_same (B := fun x => x = b) rfl) fun x hx hl => by omega

theorem bits_putS {h2 : Hp} {b1 : Nat} {v0 v1 : Value} {t : TypeId} (c : h2[b1]? = some (.cells #[v0, v1] t)) (p q : Int) {K : Int → Int → Hp → Prop} (hK : ∀ h3, h3 = setsH h2 b1 0 [(Value.int .u64 p), (Value.int .u64 q)] → K p q h3) :
    List.length [(Value.int .u64 p), (Value.int .u64 q)] = 2 ∧ (∀ c ∈ [(Value.int .u64 p), (Value.int .u64 q)], c.oneCell' = true) ∧ wrAt h2 b1 0 2 ∧ ∀ h3, h3 = setsH h2 b1 0 [(Value.int .u64 p), (Value.int .u64 q)] →
      ∃ r0 : Int, ∃ r1 : Int, cellsAt h3 b1 0 [(Value.int .u64 r0), (Value.int .u64 r1)] ∧ K r0 r1 h3 := by
  obtain ⟨e1, e2, e3, e4⟩ := two_put c p q
  refine ⟨e1, e2, e3, ?_⟩
  intro h3 e
  refine ⟨p, q, ?_, hK _ e⟩
  rw [e]; exact cellsAt_all (vs := [.int .u64 p, .int .u64 q]) e4

/-- turnoutref03.Reader.bad -/
theorem sbad_c (R : SdAt h p r) (h0 : r.e = 0) (c : Int) : CallsH Try.prog 65 #[vP p, vZ c] h fun e h' => Same (P1 p) h h' ∧ SdAt h' p (r.bad c) ∧ e = .returned (.tuple #[]) := by
  refine V65 _ _ h _ ⟨p, 0, rfl, _, cellsAt_one (cellH_at R.cell), fun _ => ?_, fun hf => absurd h0 (of_decide_eq_false hf)⟩
  refine ⟨p, 0, rfl, rfl, R.wr (k := 2) (by decide), fun h1 e1 => ?_⟩
  have c1 : h1[p]? = some (.cells #[.string (tx r.b), vI r.at_, vZ c, vI r.place] 43) := by rw [e1, setsH_at R.cell]; rfl
  refine ⟨p, 0, rfl, _, cellsAt_one (cellH_at c1), p, 0, rfl, rfl, wrAt_of c1 (by show 0 + 3 + 1 ≤ 4; decide) (.inl (Nat.zero_le _)), fun h2 e2 => ?_⟩
  have c2 : h2[p]? = some (.cells #[.string (tx r.b), vI r.at_, vZ c, vI r.at_] 43) := by rw [e2, setsH_at c1]; rfl
  refine ⟨?_, ⟨c2, R.ok.bad c⟩, rfl⟩
  rw [e2, e1]
  exact (setsH_same (B := P1 p) rfl).trans (setsH_same (B := P1 p) rfl) fun _ h _ => h

end

theorem getD_drop (l : List UInt8) (a m : Nat) : (l.drop a).getD m 0 = l.getD (a + m) 0 := by
  rw [List.getD_eq_getElem?_getD, List.getD_eq_getElem?_getD, List.getElem?_drop]

theorem getD_get {l : List UInt8} {m : Nat} (hm : m < l.length) : l.getD m 0 = l[m] := by
  rw [List.getD_eq_getElem?_getD, List.getElem?_eq_getElem hm]; rfl

set_option maxHeartbeats 1000000 in
/-- turnoutref03.number -/
theorem snumber_c (s : ByteArray) (a : Nat) (ha : a ≤ s.size) (hs : s.size ≤ 140737488355328) (most : Nat) (h : Hp) : CallsH Try.prog 64 #[.string s, vI a, vU most] h fun e h' =>
    h' = h ∧ e = .returned (.tuple #[vU (numG most 10 0 0 ((bl s).drop a)).2.1, vI (a + (numG most 10 0 0 ((bl s).drop a)).2.2 : Nat), vZ (numG most 10 0 0 ((bl s).drop a)).1]) ∧ (numG most 10 0 0 ((bl s).drop a)).2.2 ≤ ((bl s).drop a).length := by
  obtain ⟨L, hL⟩ : ∃ L, L = (bl s).drop a := ⟨_, rfl⟩
  have hLl : L.length = s.size - a := by rw [hL, List.length_drop, bl_length]
  have byte : ∀ m, m < L.length → s[a + m]? = some (L.getD m 0) := fun m hm => by rw [hL, getD_drop]; exact byteD (by omega)
  rw [← hL]
  refine V64 _ _ _ h _ ⟨fun l hr => hr = h ∧ ((l = [vZ (-1)] ∧ ∀ m, m < L.length → m < 10 → 128 ≤ (L.getD m 0).toNat) ∨ ∃ j : Nat, l = [vI j] ∧ j < 10 ∧ j < L.length ∧ (∀ m, m < j → 128 ≤ (L.getD m 0).toNat) ∧ (L.getD j 0).toNat < 128),
    ⟨fun l hr => hr = h ∧ ((∃ i : Nat, l = [vZ (-1), vI i] ∧ i ≤ 10 ∧ i ≤ L.length ∧ ∀ m, m < i → 128 ≤ (L.getD m 0).toNat) ∨ ∃ j : Nat, l = [vI j, vI (j + 1 : Nat)] ∧ j < 10 ∧ j < L.length ∧ (∀ m, m < j → 128 ≤ (L.getD m 0).toNat) ∧ (L.getD j 0).toNat < 128),
      fun l _ => (20 - numAt l 1).toNat, ⟨rfl, .inl ⟨0, rfl, by omega, by omega, fun m hm => by omega⟩⟩, ?_⟩, ?_⟩
  · rintro last iv h1 ⟨rfl, hI⟩
    rcases hI with ⟨i, hl, hi10, hiL, hall⟩ | ⟨j, hl, hj10, hjL, hall, hst⟩
    · cases hl
      have ew : IntKind.i64.wrap ((a : Int) + (i : Int)) = ((a + i : Nat) : Int) := by rw [wrapI64] <;> omega
      refine ⟨fun l hr => l = [] ∧ hr = h1 ∧ i < 10 ∧ i < L.length, ⟨decide (i < 10 ∧ i < L.length), ⟨fun c1 => ⟨_, ew, fun c2 => ⟨rfl, ?_⟩, fun c2 => ⟨rfl, ?_⟩⟩, fun c1 => ⟨rfl, ?_⟩⟩, fun hB => ⟨rfl, rfl, of_decide_eq_true hB⟩, fun hB => ⟨rfl, .inl ⟨rfl, ?_⟩⟩⟩, ?_⟩
      · have c1 := of_decide_eq_true c1
        have c2 := of_decide_eq_true c2
        rw [decide_eq_true (show i < 10 ∧ i < L.length by omega)]; rfl
      · have c2 := of_decide_eq_false c2
        exact decide_eq_false (by omega)
      · have c1 := of_decide_eq_false c1
        exact decide_eq_false (by omega)
      · have hB := of_decide_eq_false hB
        intro m hm hm10
        exact hall m (by omega)
      · rintro h2 ⟨_, rfl, c1, c2⟩
        refine ⟨_, ew, by omega, L.getD i 0, byte i c2, fun hlt => ⟨_, incI (by omega), ⟨rfl, .inr ⟨i, rfl, c1, c2, hall, by have := of_decide_eq_true hlt; omega⟩⟩, by simp only [numAt]; omega⟩, fun hge => ⟨_, incI (by omega), ⟨rfl, .inl ⟨i + 1, rfl, by omega, by omega, fun m hm => ?_⟩⟩, by simp only [numAt]; omega⟩⟩
        have hge := of_decide_eq_false hge
        by_cases hmi : m < i
        · exact hall m hmi
        · have : m = i := by omega
          subst this; omega
    · cases hl
      have ew : IntKind.i64.wrap ((a : Int) + ((j + 1 : Nat) : Int)) = ((a + (j + 1) : Nat) : Int) := by rw [wrapI64] <;> omega
      refine ⟨fun _ _ => False, ⟨false, ⟨fun c1 => ⟨_, ew, fun c2 => ⟨rfl, ?_⟩, fun c2 => ⟨rfl, rfl⟩⟩, fun c1 => ⟨rfl, rfl⟩⟩, fun hB => (by cases hB), fun hB => ⟨rfl, .inr ⟨j, rfl, hj10, hjL, hall, hst⟩⟩⟩, fun _ hf => hf.elim⟩
      symm; apply decide_eq_false; omega
  · rintro last h1 ⟨rfl, hI⟩
    rcases hI with ⟨hl, hall⟩ | ⟨j, hl, hj10, hjL, hall, hst⟩
    · cases hl
      have eN : numG most 10 0 0 L = if L.length < 10 then (3, 0, 0) else (30, 0, 0) := numG_none most 10 0 0 L fun m hm hf => by rw [← getD_get hm]; exact hall m hm hf
      have ew : IntKind.i64.wrap ((s.size : Int) - (a : Int)) = (L.length : Int) := by rw [wrapI64] <;> omega
      refine ⟨fun l hr => l = [] ∧ hr = h1 ∧ ¬ L.length < 10, ⟨decide (L.length < 10), ⟨fun _ => ⟨_, ew, rfl, decide_eq_decide.2 (by omega)⟩, fun hf => absurd (of_decide_eq_false hf) (by decide)⟩, fun hB => ⟨rfl, ?_, ?_⟩, fun hB => ⟨rfl, rfl, of_decide_eq_false hB⟩⟩, ?_⟩
      · rw [eN, if_pos (of_decide_eq_true hB)]; rfl
      · rw [eN, if_pos (of_decide_eq_true hB)]; exact Nat.zero_le _
      · rintro h2 ⟨_, rfl, hge⟩
        refine ⟨fun _ _ => False, ⟨true, ⟨fun _ => ⟨rfl, rfl⟩, fun hf => absurd (of_decide_eq_false hf) (by decide)⟩, fun _ => ⟨rfl, ?_, ?_⟩, fun hf => (by cases hf)⟩, fun _ hf => hf.elim⟩
        · rw [eN, if_neg hge]; rfl
        · rw [eN, if_neg hge]; exact Nat.zero_le _
    · cases hl
      have eN := numG_stop most j 10 0 0 L rfl hjL hj10 (fun m hm => by rw [← getD_get (by omega)]; exact hall m hm) (by rw [← getD_get hjL]; exact hst)
      rw [← getD_get hjL] at eN
      simp only [Nat.zero_add, Nat.pow_zero, Nat.one_mul] at eN
      obtain ⟨cj, hcj⟩ : ∃ cj, cj = L.getD j 0 := ⟨_, rfl⟩
      rw [← hcj] at eN hst
      refine ⟨fun l hr => l = [] ∧ hr = h1, ⟨false, ⟨fun hf => absurd (of_decide_eq_true hf) (by omega), fun _ => ⟨rfl, rfl⟩⟩, fun hf => (by cases hf), fun _ => ⟨rfl, rfl⟩⟩, ?_⟩
      rintro h2 ⟨_, rfl⟩
      have ew : IntKind.i64.wrap ((a : Int) + (j : Int)) = ((a + j : Nat) : Int) := by rw [wrapI64] <;> omega
      have nine : ∀ {B : Bool}, B = decide ((cj.toNat = 0 ∧ 0 < j) ∨ (j = 9 ∧ 1 < cj.toNat)) → ¬ (cj.toNat = 0 ∧ 0 < j) → (((decide ((j : Int) = (9 : Int))) = true → ∃ x66_, IntKind.i64.wrap ((a : Int) + (9 : Int)) = x66_ ∧ 0 ≤ x66_ ∧ ∃ x67_ : UInt8, s[Int.toNat x66_]? = some x67_ ∧ h2 = h2 ∧ B = (decide ((1 : Int) < (x67_.toNat : Int)))) ∧
          ((decide ((j : Int) = (9 : Int))) = false → h2 = h2 ∧ B = false)) := by
        rintro B rfl hn
        refine ⟨fun h9 => ?_, fun h9 => ⟨rfl, decide_eq_false fun hh => ?_⟩⟩
        · have h9 : j = 9 := by have := of_decide_eq_true h9; omega
          subst h9
          refine ⟨_, ew, by omega, cj, by rw [hcj]; exact byte 9 hjL, rfl, decide_eq_decide.2 ?_⟩
          constructor
          · rintro (hh | hh)
            · exact absurd hh hn
            · omega
          · intro hh; exact .inr ⟨rfl, by omega⟩
        · have h9 := of_decide_eq_false h9
          rcases hh with hh | hh
          · exact hn hh
          · omega
      refine ⟨fun l hr => l = [] ∧ hr = h2 ∧ ¬ ((cj.toNat = 0 ∧ 0 < j) ∨ (j = 9 ∧ 1 < cj.toNat)), ⟨decide ((cj.toNat = 0 ∧ 0 < j) ∨ (j = 9 ∧ 1 < cj.toNat)), ⟨fun hf => absurd (of_decide_eq_true hf) (by omega), fun _ => ⟨_, ew, by omega, cj, by rw [hcj]; exact byte j hjL, fun z => ⟨fun z2 => ⟨rfl, ?_⟩, fun z2 => nine rfl ?_⟩, fun z => nine rfl ?_⟩⟩, fun hB => ?_, fun hB => ⟨rfl, rfl, of_decide_eq_false hB⟩⟩, ?_⟩
      · have z := of_decide_eq_true z
        have z2 := of_decide_eq_true z2
        exact decide_eq_true (.inl ⟨by omega, by omega⟩)
      · have z2 := of_decide_eq_false z2
        rintro ⟨_, hh⟩; omega
      · have z := of_decide_eq_false z
        rintro ⟨hh, _⟩; omega
      · rw [if_pos (of_decide_eq_true hB)] at eN
        rw [eN]
        exact ⟨rfl, rfl, Nat.zero_le _⟩
      rintro h3 ⟨_, rfl, hnb⟩
      rw [if_neg hnb] at eN
      obtain ⟨M, hM⟩ : ∃ M, M = L.take (j + 1) := ⟨_, rfl⟩
      have hMl : M.length = j + 1 := by rw [hM, List.length_take]; omega
      rw [← hM] at eN
      refine ⟨fun l hr => hr = h3 ∧ ∃ t : Nat, t ≤ j + 1 ∧ l = [vU (valL (M.drop t) % 18446744073709551616), .int .i64 ((t : Int) - 1)], fun l _ => (1 + numAt l 1).toNat, ⟨rfl, j + 1, Nat.le_refl _, ?_⟩, ?_⟩
      · rw [List.drop_of_length_le (by omega)]
        simp only [List.cons.injEq, and_true]
        refine ⟨rfl, ?_⟩
        congr 1; omega
      rintro n1 iv h4 ⟨rfl, t, ht, hl⟩
      cases hl
      refine ⟨fun hlt => ?_, fun hge => ?_⟩
      · obtain ⟨u, rfl⟩ : ∃ u, t = u + 1 := ⟨t - 1, by have := of_decide_eq_true hlt; omega⟩
        have ei : (((u + 1 : Nat) : Int) - 1) = (u : Int) := by omega
        rw [ei]
        have hd : M.drop u = L.getD u 0 :: M.drop (u + 1) := by
          rw [List.drop_eq_getElem_cons (by omega)]
          congr 1
          rw [getD_get (by omega)]
          simp only [hM, List.getElem_take]
        obtain ⟨cu, hcu⟩ : ∃ cu, cu = L.getD u 0 := ⟨_, rfl⟩
        rw [← hcu] at hd
        have hc256 : cu.toNat < 256 := cu.toNat_lt
        obtain ⟨V, hV⟩ : ∃ V, V = valL (M.drop (u + 1)) := ⟨_, rfl⟩
        have hv : valL (M.drop u) = cu.toNat % 128 + 128 * V := by rw [hd, valL, hV]
        rw [← hV]
        refine ⟨((V % 18446744073709551616 * 128 % 18446744073709551616 : Nat) : Int), by rw [wrapU64]; omega, ((a + u : Nat) : Int), by rw [wrapI64] <;> omega, by omega, cu, by rw [hcu]; exact byte u (by omega), by decide, ((cu.toNat % 128 : Nat) : Int), rfl, ((cu.toNat % 128 : Nat) : Int), by rw [wrapU64]; omega,
          ((valL (M.drop u) % 18446744073709551616 : Nat) : Int), by rw [hv, wrapU64]; omega, (u : Int) - 1, by rw [wrapI64] <;> omega, ⟨rfl, u, by omega, rfl⟩, by simp only [numAt]; omega⟩
      · have ht0 : t = 0 := by have := of_decide_eq_false hge; omega
        subst ht0
        rw [List.drop_zero]
        obtain ⟨V, hV⟩ : ∃ V, V = valL M % 18446744073709551616 := ⟨_, rfl⟩
        rw [← hV] at eN ⊢
        refine ⟨fun hm => ?_, fun hm => ⟨_, ew, ((a + (j + 1) : Nat) : Int), by rw [wrapI64] <;> omega, rfl, ?_, ?_⟩⟩
        · have hm : most < V := by have := of_decide_eq_true hm; omega
          rw [if_pos hm] at eN
          rw [eN]
          exact ⟨rfl, rfl, Nat.zero_le _⟩
        · have hm : ¬ most < V := by have := of_decide_eq_false hm; omega
          rw [if_neg hm] at eN
          rw [eN]
        · have hm : ¬ most < V := by have := of_decide_eq_false hm; omega
          rw [if_neg hm] at eN
          rw [eN]
          show j + 1 ≤ L.length
          omega

section
variable {h h' : Hp} {p : Nat} {r : Rd}

/-- turnoutref03.Reader.Uint -/
theorem suint_c (R : SdAt h p r) (hs : r.b.length ≤ 140737488355328) (most : Nat) : CallsH Try.prog 41 #[vP p, vU most] h fun e h' => Same (P1 p) h h' ∧ SdAt h' p (r.uint most).2 ∧ e = .returned (vU (r.uint most).1) := by
  refine V41 _ _ h _ ⟨p, 0, rfl, _, cellsAt_one (cellH_at R.cell), fun h0 => ?_, fun h0 => ?_⟩
  · have h0 : r.e ≠ 0 := of_decide_eq_true h0
    have eu : r.uint most = (0, r) := by unfold Rd.uint; rw [if_pos h0]
    rw [eu]
    exact ⟨Same.refl _ _, R, rfl⟩
  have h0 : r.e = 0 := by have := of_decide_eq_false h0; omega
  have o1 := R.ok.at_
  refine ⟨p, 0, rfl, _, cellsAt_one (cellH_at R.cell), p, 0, rfl, _, cellsAt_one (cellH_at R.cell), (snumber_c (tx r.b) r.at_ (by rw [tx_size]; omega) (by rw [tx_size]; exact hs) most h).mono ?_⟩
  rintro e h1 ⟨rfl, rfl, hle⟩
  rw [bl_tx] at hle ⊢
  have el : r.b.drop r.at_ = r.left := rfl
  rw [el] at hle ⊢
  have eu : r.uint most = if (numG most 10 0 0 r.left).1 ≠ 0 then (0, r.bad (numG most 10 0 0 r.left).1) else ((numG most 10 0 0 r.left).2.1, r.to (numG most 10 0 0 r.left).2.2) := by unfold Rd.uint; rw [if_neg (by rw [h0]; simp)]
  rw [eu]
  generalize numG most 10 0 0 r.left = N at hle ⊢
  refine ⟨_, _, _, rfl, fun hb => ?_, fun hb => ?_⟩
  · have hb : N.1 ≠ 0 := of_decide_eq_true hb
    rw [if_pos hb]
    refine (sbad_c R h0 N.1).mono ?_
    rintro e h2 ⟨y2, R2, rfl⟩
    exact ⟨rfl, y2, R2, rfl⟩
  · have hb : ¬ N.1 ≠ 0 := of_decide_eq_false hb
    rw [if_neg hb]
    refine ⟨p, 0, rfl, rfl, R.wr (k := 1) (by decide), fun h2 e2 => ?_⟩
    obtain ⟨y2, R2⟩ := R.to hle e2
    exact ⟨y2, R2, rfl⟩

/-- turnoutref03.Reader.Raw -/
theorem sraw_c (R : SdAt h p r) (hs : r.b.length ≤ 140737488355328) (k : Int) : CallsH Try.prog 45 #[vP p, vZ k] h fun e h' => Same (P1 p) h h' ∧ SdAt h' p (r.raw k).2 ∧ e = .returned (.string (tx (r.raw k).1)) := by
  have ll := r.left_length
  have o1 := R.ok.at_
  refine V45 _ _ h _ ⟨p, 0, rfl, _, cellsAt_one (cellH_at R.cell), fun h0 => ?_, fun h0 => ?_⟩
  · have h0 : r.e ≠ 0 := of_decide_eq_true h0
    have eu : r.raw k = ([], r) := by unfold Rd.raw; rw [if_pos h0]
    rw [eu]
    exact ⟨Same.refl _ _, R, rfl⟩
  have h0 : r.e = 0 := by have := of_decide_eq_false h0; omega
  refine ⟨fun h1 => ?_, fun h1 => ?_⟩
  · have h1 : k < 0 := of_decide_eq_true h1
    have eu : r.raw k = ([], r.bad 1) := by unfold Rd.raw; rw [if_neg (by rw [h0]; simp), if_pos h1]
    rw [eu]
    refine (sbad_c R h0 1).mono ?_
    rintro e h2 ⟨y2, R2, rfl⟩
    exact ⟨rfl, y2, R2, rfl⟩
  have h1 : ¬ k < 0 := of_decide_eq_false h1
  refine ⟨p, 0, rfl, _, cellsAt_one (cellH_at R.cell), p, 0, rfl, _, cellsAt_one (cellH_at R.cell), (r.left.length : Int), by rw [tx_size, wrapI64] <;> omega, fun h2 => ?_, fun h2 => ?_⟩
  · have h2 : (r.left.length : Int) < k := of_decide_eq_true h2
    have eu : r.raw k = ([], r.bad 3) := by unfold Rd.raw; rw [if_neg (by rw [h0]; simp), if_neg h1, if_pos h2]
    rw [eu]
    refine (sbad_c R h0 3).mono ?_
    rintro e h2 ⟨y2, R2, rfl⟩
    exact ⟨rfl, y2, R2, rfl⟩
  have h2 : ¬ (r.left.length : Int) < k := of_decide_eq_false h2
  obtain ⟨n, rfl⟩ := Int.eq_ofNat_of_zero_le (show 0 ≤ k by omega)
  have eu : r.raw (n : Int) = (r.left.take n, r.to n) := by unfold Rd.raw; rw [if_neg (by rw [h0]; simp), if_neg h1, if_neg h2, Int.toNat_natCast]
  rw [eu]
  have ew : IntKind.i64.wrap ((r.at_ : Int) + (n : Int)) = ((r.at_ + n : Nat) : Int) := by rw [wrapI64] <;> omega
  refine ⟨p, 0, rfl, _, cellsAt_one (cellH_at R.cell), p, 0, rfl, _, cellsAt_one (cellH_at R.cell), p, 0, rfl, _, cellsAt_one (cellH_at R.cell), _, ew, r.at_, rfl, r.at_ + n, rfl, by omega, by rw [tx_size]; omega, _, rfl,
    p, 0, rfl, _, cellsAt_one (cellH_at R.cell), _, ew, p, 0, rfl, rfl, R.wr (k := 1) (by decide), fun h3 e3 => ?_⟩
  obtain ⟨y3, R3⟩ := R.to (by omega) e3
  refine ⟨y3, R3, ?_⟩
  congr 2
  apply bl_inj
  rw [bl_extract, bl_tx, bl_tx, Nat.add_sub_cancel_left]
  rfl

/-- turnoutref03.Reader.Fixed -/
theorem sfixed_c (R : SdAt h p r) (hs : r.b.length ≤ 140737488355328) (k : Int) : CallsH Try.prog 42 #[vP p, vZ k] h fun e h' => Same (P1 p) h h' ∧ SdAt h' p (r.fixed k).2 ∧ e = .returned (vU (r.fixed k).1) := by
  refine V42 _ _ h _ ⟨fun l hr => l = [] ∧ ∃ r1 : Rd, Same (P1 p) h hr ∧ SdAt hr p r1 ∧ r1.b = r.b ∧ (r.fixed k) = (numL (r1.raw k).1, (r1.raw k).2) ∧ (r1.raw k).1.length ≤ 8, ⟨decide (r.e = 0 ∧ (k < 1 ∨ 8 < k)), ⟨p, 0, rfl, _, cellsAt_one (cellH_at R.cell), fun a => ⟨fun b => ⟨rfl, ?_⟩, fun b => ⟨rfl, ?_⟩⟩, fun a => ⟨rfl, ?_⟩⟩, fun hB => ?_, fun hB => ⟨rfl, r, Same.refl _ _, R, rfl, ?_, ?_⟩⟩, ?_⟩
  · exact decide_eq_true ⟨of_decide_eq_true a, .inl (of_decide_eq_true b)⟩
  · have a : r.e = 0 := of_decide_eq_true a
    have b := of_decide_eq_false b
    apply decide_eq_decide.2
    constructor
    · rintro ⟨_, hh | hh⟩
      · exact absurd hh b
      · exact hh
    · exact fun hh => ⟨a, .inr hh⟩
  · exact decide_eq_false fun hh => of_decide_eq_false a hh.1
  · obtain ⟨h0, hk⟩ := of_decide_eq_true hB
    refine (sbad_c R h0 1).mono ?_
    rintro e h2 ⟨y2, R2, rfl⟩
    have er : (r.bad 1).raw k = ([], r.bad 1) := by unfold Rd.raw; rw [if_pos (show (r.bad 1).e ≠ 0 by show ((1 : Int) ≠ 0); decide)]
    refine ⟨rfl, rfl, r.bad 1, y2, R2, rfl, ?_, ?_⟩
    · rw [er]; unfold Rd.fixed; rw [if_neg (by rw [h0]; simp), if_pos hk]; rfl
    · rw [er]; exact Nat.zero_le _
  · have hB := of_decide_eq_false hB
    unfold Rd.fixed Rd.raw
    by_cases h0 : r.e ≠ 0
    · rw [if_pos h0, if_pos h0]; rfl
    · have h0' : r.e = 0 := by omega
      have hk : ¬ (k < 1 ∨ 8 < k) := fun hh => hB ⟨h0', hh⟩
      rw [if_neg h0, if_neg h0, if_neg hk, if_neg (show ¬ k < 0 by omega)]
      split <;> rfl
  · have hB := of_decide_eq_false hB
    unfold Rd.raw
    by_cases h0 : r.e ≠ 0
    · rw [if_pos h0]; exact Nat.zero_le _
    · have h0' : r.e = 0 := by omega
      have hk : ¬ (k < 1 ∨ 8 < k) := fun hh => hB ⟨h0', hh⟩
      rw [if_neg h0, if_neg (by omega)]
      split
      · exact Nat.zero_le _
      · simp only [List.length_take]; omega
  rintro h1 ⟨_, r1, y1, R1, eb, ef, hlen⟩
  refine (sraw_c R1 (by rw [eb]; exact hs) k).mono ?_
  rintro e h2 ⟨y2, R2, rfl⟩
  rw [ef]
  obtain ⟨L, hL⟩ : ∃ L, L = (r1.raw k).1 := ⟨_, rfl⟩
  rw [← hL] at hlen ⊢
  have ts : (tx L).size = L.length := tx_size _
  refine ⟨_, rfl, fun l hr => hr = h2 ∧ ∃ i : Nat, i ≤ L.length ∧ l = [vU (numL (L.take i)), vI i], fun l _ => (L.length - numAt l 1).toNat, ⟨rfl, 0, Nat.zero_le _, rfl⟩, ?_⟩
  rintro n1 iv h3 ⟨rfl, i, hi, hl⟩
  cases hl
  refine ⟨fun hlt => ?_, fun hge => ?_⟩
  · have hlt : i < L.length := by have := of_decide_eq_true hlt; omega
    have hn := numL_take hlt
    have hb : numL (L.take (i + 1)) < 18446744073709551616 := by
      have h0 := numL_lt (L.take (i + 1))
      exact Nat.lt_of_lt_of_le h0 (by rw [show (18446744073709551616 : Nat) = 256 ^ 8 from rfl]; exact Nat.pow_le_pow_right (by decide) (by rw [List.length_take]; omega))
    have hby : (tx L)[i]? = some L[i] := by
      rw [byteD (by omega), bl_tx, getD_get hlt]
    have hc256 : L[i].toNat < 256 := L[i].toNat_lt
    refine ⟨((numL (L.take i) * 256 : Nat) : Int), by rw [wrapU64]; omega, by omega, L[i], hby, (L[i].toNat : Int), by rw [wrapU64]; omega, ((numL (L.take (i + 1)) : Nat) : Int), by rw [wrapU64]; omega, _, incI (by omega), ⟨rfl, i + 1, hlt, rfl⟩, by simp only [numAt]; omega⟩
  · have hil : i = L.length := by have := of_decide_eq_false hge; omega
    rw [hil, List.take_of_length_le (Nat.le_refl _)]
    exact ⟨y1.trans y2 fun _ h _ => h, R2, rfl⟩

/-- turnoutref03.Reader.Text -/
theorem stext_c (R : SdAt h p r) (hs : r.b.length ≤ 140737488355328) (k : Int) (hk1 : k ≤ 9223372036854775807) : CallsH Try.prog 43 #[vP p, vZ k] h fun e h' => Same (P1 p) h h' ∧ SdAt h' p (r.text k).2 ∧ e = .returned (.string (tx (r.text k).1)) := by
  have ll := r.left_length
  have o1 := R.ok.at_
  refine V43 _ _ h _ ⟨p, 0, rfl, _, cellsAt_one (cellH_at R.cell), fun h0 => ?_, fun h0 => ⟨fun h1 => ?_, fun h1 => ?_⟩⟩
  · have h0 : r.e ≠ 0 := of_decide_eq_true h0
    have eu : r.text k = ([], r) := by unfold Rd.text; rw [if_pos h0]
    rw [eu]
    exact ⟨Same.refl _ _, R, rfl⟩
  · have h0 : r.e = 0 := by have := of_decide_eq_false h0; omega
    have h1 : k < 0 := of_decide_eq_true h1
    have eu : r.text k = ([], r.bad 1) := by unfold Rd.text; rw [if_neg (by rw [h0]; simp), if_pos h1]
    rw [eu]
    refine (sbad_c R h0 1).mono ?_
    rintro e h2 ⟨y2, R2, rfl⟩
    exact ⟨rfl, y2, R2, rfl⟩
  have h0 : r.e = 0 := by have := of_decide_eq_false h0; omega
  have h1 : ¬ k < 0 := of_decide_eq_false h1
  obtain ⟨m, rfl⟩ := Int.eq_ofNat_of_zero_le (show 0 ≤ k by omega)
  refine ⟨p, 0, rfl, _, cellsAt_one (cellH_at R.cell), p, 0, rfl, _, cellsAt_one (cellH_at R.cell), (m : Int), by rw [wrapU64]; omega, (snumber_c (tx r.b) r.at_ (by rw [tx_size]; omega) (by rw [tx_size]; exact hs) m h).mono ?_⟩
  rintro e h2 ⟨rfl, rfl, hle⟩
  rw [bl_tx] at hle ⊢
  have el : r.b.drop r.at_ = r.left := rfl
  rw [el] at hle ⊢
  have hN64 := numG_lt m 10 0 0 r.left
  have eu : r.text (m : Int) = if (numG m 10 0 0 r.left).1 ≠ 0 then ([], r.bad (numG m 10 0 0 r.left).1)
      else if r.left.length < (numG m 10 0 0 r.left).2.2 + (numG m 10 0 0 r.left).2.1 then ([], r.bad 3)
      else ((r.left.drop (numG m 10 0 0 r.left).2.2).take (numG m 10 0 0 r.left).2.1, r.to ((numG m 10 0 0 r.left).2.2 + (numG m 10 0 0 r.left).2.1)) := by
    unfold Rd.text; rw [if_neg (by rw [h0]; simp), if_neg h1, Int.toNat_natCast]
  rw [eu]
  generalize numG m 10 0 0 r.left = N at hle hN64 ⊢
  refine ⟨_, _, _, rfl, fun l hr => hr = h2 ∧ l = [vZ (if N.1 = 0 ∧ r.left.length < N.2.2 + N.2.1 then 3 else N.1)], ⟨decide (N.1 = 0 ∧ r.left.length < N.2.2 + N.2.1), ⟨fun a => ⟨p, 0, rfl, _, cellsAt_one (cellH_at R.cell), ((r.left.length - N.2.2 : Nat) : Int), by rw [tx_size, wrapI64] <;> omega, ((r.left.length - N.2.2 : Nat) : Int), by rw [wrapU64]; omega, rfl, ?_⟩, fun a => ⟨rfl, ?_⟩⟩, fun hB => ⟨rfl, ?_⟩, fun hB => ⟨rfl, ?_⟩⟩, ?_⟩
  · have a : N.1 = 0 := of_decide_eq_true a
    apply decide_eq_decide.2
    constructor
    · rintro ⟨_, hh⟩; omega
    · intro hh; exact ⟨a, by omega⟩
  · exact decide_eq_false fun hh => of_decide_eq_false a hh.1
  · rw [if_pos (of_decide_eq_true hB)]
  · rw [if_neg (of_decide_eq_false hB)]
  rintro ev h3 ⟨rfl, hl⟩
  cases hl
  refine ⟨fun he => ?_, fun he => ?_⟩
  · refine (sbad_c R h0 _).mono ?_
    rintro e h4 ⟨y4, R4, rfl⟩
    by_cases a : N.1 = 0
    · by_cases b : r.left.length < N.2.2 + N.2.1
      · rw [if_pos ⟨a, b⟩] at R4
        rw [if_neg (by omega), if_pos b]
        exact ⟨rfl, y4, R4, rfl⟩
      · rw [if_neg (fun hh => b hh.2)] at he
        exact absurd a (of_decide_eq_true he)
    · rw [if_neg (fun hh => a hh.1)] at R4
      rw [if_pos a]
      exact ⟨rfl, y4, R4, rfl⟩
  · have he := of_decide_eq_false he
    have a : N.1 = 0 := by
      by_cases a : N.1 = 0
      · exact a
      · rw [if_neg (fun hh => a hh.1)] at he; omega
    have b : ¬ r.left.length < N.2.2 + N.2.1 := fun b => by
      rw [if_pos ⟨a, b⟩] at he; exact he (by decide)
    rw [if_neg (by omega), if_neg b]
    have e1 : IntKind.i64.wrap ((N.2.1 : Nat) : Int) = ((N.2.1 : Nat) : Int) := by rw [wrapI64] <;> omega
    have e2 : IntKind.i64.wrap (((r.at_ + N.2.2 : Nat) : Int) + ((N.2.1 : Nat) : Int)) = ((r.at_ + (N.2.2 + N.2.1) : Nat) : Int) := by rw [wrapI64] <;> omega
    refine ⟨_, e1, _, e2, p, 0, rfl, rfl, R.wr (k := 1) (by decide), fun h4 e4 => ?_⟩
    obtain ⟨y4, R4⟩ := R.to (by omega) e4
    refine ⟨p, 0, rfl, _, cellsAt_one (cellH_at R4.cell), _, e1, _, e2, r.at_ + N.2.2, rfl, r.at_ + (N.2.2 + N.2.1), rfl, by omega, by show _ ≤ (tx r.b).size; rw [tx_size]; omega, _, rfl, y4, R4, ?_⟩
    congr 2
    apply bl_inj
    show bl ((tx r.b).extract _ _) = _
    rw [bl_extract, bl_tx, bl_tx, show r.at_ + (N.2.2 + N.2.1) - (r.at_ + N.2.2) = N.2.1 by omega]
    unfold Rd.left
    rw [List.drop_drop]

set_option maxHeartbeats 1000000 in
/-- turnoutref03.Reader.Bits -/
theorem sbits_c (R : SdAt h p r) (hs : r.b.length ≤ 140737488355328) (k : Int) : CallsH Try.prog 44 #[vP p, vZ k] h fun e h' => Same (P1 p) h h' ∧ SdAt h' p (r.bits k).2 ∧ e = .returned (bv (r.bits k).1) := by
  have ll := r.left_length
  have o1 := R.ok.at_
  have lp := R.lt
  refine V44 _ _ h _ ?_
  intro b h1 hb e1
  have x1 : Ext h h1 := by rw [e1]; exact Ext.push _ _
  have c1 : h1[b]? = some (.cells #[vU 0, vU 0] 34) := by rw [e1, hb, zerosBits]; exact push_last
  have s1 : h1.size = h.size + 1 := by rw [e1]; simp
  clear e1
  have hb : b = h.size := hb
  have R1 := R.ext x1
  refine ⟨infoBits, p, 0, rfl, _, cellsAt_one (cellH_at R1.cell), fun h0 => ?_, fun h0 => ?_⟩
  · have h0 : r.e ≠ 0 := of_decide_eq_true h0
    have eu : r.bits k = (0, r) := by unfold Rd.bits; rw [if_pos h0]
    rw [eu]
    exact bits_putS c1 0 0 fun h2 e2 => ⟨sameP x1 (Same.refl _ _) (by omega) e2, R1.ne (by omega) e2, ret_zero⟩
  have h0 : r.e = 0 := by have := of_decide_eq_false h0; omega
  refine (qwidth_c k h1).mono ?_
  rintro e h1' ⟨rfl, rfl⟩
  have eu0 : r.bits k = if isW k = false then (0, r.bad 10) else if r.left.length < (k.toNat + 7) / 8 then (0, r.bad 3)
      else if (fromF (r.left.take ((k.toNat + 7) / 8)) k).2 ≠ 0 then ((fromF (r.left.take ((k.toNat + 7) / 8)) k).1, r.bad (fromF (r.left.take ((k.toNat + 7) / 8)) k).2)
      else ((fromF (r.left.take ((k.toNat + 7) / 8)) k).1, r.to ((k.toNat + 7) / 8)) := by unfold Rd.bits; rw [if_neg (by rw [h0]; simp)]
  have badc : ∀ c : Int, r.bits k = (0, r.bad c) → CallsH Try.prog 65 #[vP p, vZ c] h1' fun en_1 hp_3 => en_1 = .returned (Value.tuple #[]) ∧
      List.length [(Value.int .u64 (0 : Int)), (Value.int .u64 (0 : Int))] = 2 ∧ (∀ c ∈ [(Value.int .u64 (0 : Int)), (Value.int .u64 (0 : Int))], c.oneCell' = true) ∧ wrAt hp_3 b 0 2 ∧ ∀ hp_4, hp_4 = setsH hp_3 b 0 [(Value.int .u64 (0 : Int)), (Value.int .u64 (0 : Int))] →
      ∃ r0 : Int, ∃ r1 : Int, cellsAt hp_4 b 0 [(Value.int .u64 r0), (Value.int .u64 r1)] ∧
      (Same (P1 p) h hp_4 ∧ SdAt hp_4 p (r.bits k).2 ∧ Ending.returned (Value.agg #[(Value.int .u64 r0), (Value.int .u64 r1)]) = .returned (bv (r.bits k).1)) := by
    intro c eu
    refine (sbad_c R1 h0 c).mono ?_
    rintro e h2 ⟨y2, R2, rfl⟩
    refine ⟨rfl, bits_putS ((y2.old b (Array.getElem?_eq_some_iff.1 c1).1 (fun hh => by have hh : b = p := hh; omega)).trans c1) 0 0 fun h3 e3 => ?_⟩
    rw [eu]
    exact ⟨sameP x1 y2 (by omega) e3, R2.ne (by omega) e3, ret_zero⟩
  refine ⟨_, rfl, fun hw => badc 10 ?_, fun hw => ?_⟩
  · have hw : isW k = false := by simpa using hw
    rw [eu0, if_pos hw]
  have hw : isW k = true := by simpa using hw
  rw [if_neg (by rw [hw]; simp)] at eu0
  obtain ⟨w0, w1⟩ := isW_iff.1 hw
  obtain ⟨m, rfl⟩ := Int.eq_ofNat_of_zero_le (show 0 ≤ k by omega)
  obtain ⟨m8, hm8⟩ : ∃ m8, m8 = (m + 7) / 8 := ⟨_, rfl⟩
  have hm16 : m8 ≤ 16 := by omega
  rw [Int.toNat_natCast, ← hm8] at eu0
  refine (qlong_c m (by omega) h1').mono ?_
  rintro e h1'' ⟨rfl, rfl⟩
  rw [← hm8]
  refine ⟨_, rfl, p, 0, rfl, _, cellsAt_one (cellH_at R1.cell), p, 0, rfl, _, cellsAt_one (cellH_at R1.cell), (r.left.length : Int), by rw [tx_size, wrapI64] <;> omega, fun hl => badc 3 ?_, fun hl => ?_⟩
  · have hl : r.left.length < m8 := by have := of_decide_eq_true hl; omega
    rw [eu0, if_pos hl]
  have hl : ¬ r.left.length < m8 := by have := of_decide_eq_false hl; omega
  rw [if_neg hl] at eu0
  obtain ⟨L, hL⟩ : ∃ L, L = r.left.take m8 := ⟨_, rfl⟩
  rw [← hL] at eu0
  obtain ⟨k, hk⟩ : ∃ k : Int, k = (m : Int) := ⟨_, rfl⟩
  rw [← hk] at eu0 ⊢
  have eR : (r.bits k).2 = if (fromF L k).2 ≠ 0 then r.bad (fromF L k).2 else r.to m8 := by rw [eu0]; split <;> rfl
  have eV : (r.bits k).1 = (fromF L k).1 := by rw [eu0]; split <;> rfl
  have hex : bl ((tx r.b).extract r.at_ (r.at_ + m8)) = L := by
    rw [bl_extract, bl_tx, Nat.add_sub_cancel_left, hL]; rfl
  have ew : IntKind.i64.wrap ((r.at_ : Int) + (m8 : Int)) = ((r.at_ + m8 : Nat) : Int) := by rw [wrapI64] <;> omega
  refine ⟨⟨fun hr => SdAt hr p r, R1, p, 0, rfl, _, fun hr hc => cellsAt_one (cellH_at hc.cell), p, 0, rfl, _, fun hr hc => cellsAt_one (cellH_at hc.cell), p, 0, rfl, _, fun hr hc => cellsAt_one (cellH_at hc.cell), _, ew, r.at_, rfl, r.at_ + m8, rfl, by omega, by rw [tx_size]; omega, _, rfl, (qfrom_c _ k h1'').mono ?_⟩,
    ⟨fun hr => SdAt hr p r, R1, p, 0, rfl, _, fun hr hc => cellsAt_one (cellH_at hc.cell), p, 0, rfl, _, fun hr hc => cellsAt_one (cellH_at hc.cell), p, 0, rfl, _, fun hr hc => cellsAt_one (cellH_at hc.cell), _, ew, r.at_, rfl, r.at_ + m8, rfl, by omega, by rw [tx_size]; omega, _, rfl, ?_⟩⟩
  · rintro e h2 ⟨x2, rfl⟩
    rw [hex]
    have sx2 := x2.size
    refine ⟨_, _, _, rfl, R1.ext x2, ?_⟩
    intro b7 h3 hb7 e3
    have x3 : Ext h2 h3 := by rw [e3]; exact Ext.push _ _
    have c3 : h3[b7]? = some (.cells #[vU 0, vU 0] 34) := by rw [e3, hb7, zerosBits]; exact push_last
    have hb7 : b7 = h2.size := hb7
    clear e3
    obtain ⟨p1, p2, p3, p4⟩ := two_put c3 (((fromF L k).1 / 2 ^ 64 : Nat) : Int) (((fromF L k).1 % 2 ^ 64 : Nat) : Int)
    refine ⟨infoBits, R1.ext (x2.trans x3), p1, p2, p3, fun hz ez => ?_⟩
    have Rz : SdAt hz p r := (R1.ext (x2.trans x3)).ne (by omega) ez
    have c7 : hz[b7]? = some (.cells #[vU ((fromF L k).1 / 2 ^ 64), vU ((fromF L k).1 % 2 ^ 64)] 34) := by rw [ez]; exact p4
    have cz : hz[b]? = some (.cells #[vU 0, vU 0] 34) := by rw [ez]; exact (setsH_ne (by omega)).trans (((x2.trans x3).old b (by omega)).trans c1)
    have xz : Ext h hz := by rw [ez]; exact ((x1.trans x2).trans x3).over (setsH_same (B := fun x => x = b7) rfl) fun x hx => by omega
    clear ez
    refine ⟨Rz, fun he => ?_, fun he => ?_⟩
    · have he' : (fromF L k).2 ≠ 0 := of_decide_eq_true he
      refine (sbad_c Rz h0 (fromF L k).2).mono ?_
      rintro e h9 ⟨y9, R9, rfl⟩
      refine ⟨rfl, bits_putS (y9.old b (by have := xz.size; have := (Array.getElem?_eq_some_iff.1 cz).1; omega) (fun hh => by have hh : b = p := hh; omega) |>.trans cz) 0 0 fun h10 e10 => ?_⟩
      refine ⟨sameP xz y9 (by omega) e10, ?_, ?_⟩
      · rw [eR, if_pos he']
        exact R9.ne (by omega) e10
      · rw [eV, from_bad he']; rfl
    · have he' : (fromF L k).2 = 0 := by have := of_decide_eq_false he; omega
      refine ⟨p, 0, rfl, _, cellsAt_one (cellH_at Rz.cell), ((r.at_ + m8 : Nat) : Int), by rw [wrapI64] <;> omega, p, 0, rfl, rfl, Rz.wr (k := 1) (by decide), fun h9 e9 => ?_⟩
      obtain ⟨y9, R9⟩ := Rz.to (k := m8) (by omega) e9
      have c79 := (y9.old b7 (Array.getElem?_eq_some_iff.1 c7).1 (fun hh => by have hh : b7 = p := hh; omega)).trans c7
      have cb9 := (y9.old b (Array.getElem?_eq_some_iff.1 cz).1 (fun hh => by have hh : b = p := hh; omega)).trans cz
      refine ⟨_, _, cellsAt_all (vs := [vU ((fromF L k).1 / 2 ^ 64), vU ((fromF L k).1 % 2 ^ 64)]) c79, bits_putS cb9 _ _ fun h10 e10 => ?_⟩
      refine ⟨sameP xz y9 (by omega) e10, ?_, ?_⟩
      · rw [eR, if_neg (by rw [he']; simp)]
        exact R9.ne (by omega) e10
      · rw [eV]; rfl
  · intro b7 h3 hb7 e3
    have x3 : Ext h1'' h3 := by rw [e3]; exact Ext.push _ _
    have c3 : h3[b7]? = some (.cells #[vU 0, vU 0] 34) := by rw [e3, hb7, zerosBits]; exact push_last
    have hb7 : b7 = h1''.size := hb7
    have s3 : h3.size = h1''.size + 1 := by rw [e3]; simp
    clear e3
    refine ⟨infoBits, R1.ext x3, (qfrom_c _ k h3).mono ?_⟩
    rintro e h2 ⟨x2, rfl⟩
    rw [hex]
    have c2 := (x2.old b7 (by omega)).trans c3
    obtain ⟨p1, p2, p3, p4⟩ := two_put c2 (((fromF L k).1 / 2 ^ 64 : Nat) : Int) (((fromF L k).1 % 2 ^ 64 : Nat) : Int)
    refine ⟨_, _, _, rfl, R1.ext (x3.trans x2), p1, p2, p3, fun hz ez => ?_⟩
    have Rz : SdAt hz p r := (R1.ext (x3.trans x2)).ne (by omega) ez
    have c7 : hz[b7]? = some (.cells #[vU ((fromF L k).1 / 2 ^ 64), vU ((fromF L k).1 % 2 ^ 64)] 34) := by rw [ez]; exact p4
    have cz : hz[b]? = some (.cells #[vU 0, vU 0] 34) := by rw [ez]; exact (setsH_ne (by omega)).trans (((x3.trans x2).old b (by omega)).trans c1)
    have xz : Ext h hz := by rw [ez]; exact ((x1.trans x3).trans x2).over (setsH_same (B := fun x => x = b7) rfl) fun x hx => by omega
    clear ez
    refine ⟨Rz, fun he => ?_, fun he => ?_⟩
    · have he' : (fromF L k).2 ≠ 0 := of_decide_eq_true he
      refine (sbad_c Rz h0 (fromF L k).2).mono ?_
      rintro e h9 ⟨y9, R9, rfl⟩
      refine ⟨rfl, bits_putS (y9.old b (by have := xz.size; have := (Array.getElem?_eq_some_iff.1 cz).1; omega) (fun hh => by have hh : b = p := hh; omega) |>.trans cz) 0 0 fun h10 e10 => ?_⟩
      refine ⟨sameP xz y9 (by omega) e10, ?_, ?_⟩
      · rw [eR, if_pos he']
        exact R9.ne (by omega) e10
      · rw [eV, from_bad he']; rfl
    · have he' : (fromF L k).2 = 0 := by have := of_decide_eq_false he; omega
      refine ⟨p, 0, rfl, _, cellsAt_one (cellH_at Rz.cell), ((r.at_ + m8 : Nat) : Int), by rw [wrapI64] <;> omega, p, 0, rfl, rfl, Rz.wr (k := 1) (by decide), fun h9 e9 => ?_⟩
      obtain ⟨y9, R9⟩ := Rz.to (k := m8) (by omega) e9
      have c79 := (y9.old b7 (Array.getElem?_eq_some_iff.1 c7).1 (fun hh => by have hh : b7 = p := hh; omega)).trans c7
      have cb9 := (y9.old b (Array.getElem?_eq_some_iff.1 cz).1 (fun hh => by have hh : b = p := hh; omega)).trans cz
      refine ⟨_, _, cellsAt_all (vs := [vU ((fromF L k).1 / 2 ^ 64), vU ((fromF L k).1 % 2 ^ 64)]) c79, bits_putS cb9 _ _ fun h10 e10 => ?_⟩
      refine ⟨sameP xz y9 (by omega) e10, ?_, ?_⟩
      · rw [eR, if_neg (by rw [he']; simp)]
        exact R9.ne (by omega) e10
      · rw [eV]; rfl

/-- turnoutref03.Reader.End -/
theorem send_c (R : SdAt h p r) : CallsH Try.prog 46 #[vP p] h fun e h' => h' = h ∧ e = .returned (vZ r.fin) := by
  have ts : (tx r.b).size = r.b.length := tx_size _
  refine V46 _ h _ ⟨decide (r.e = 0 ∧ r.at_ < r.b.length), ⟨p, 0, rfl, _, cellsAt_one (cellH_at R.cell), fun a => ⟨p, 0, rfl, _, cellsAt_one (cellH_at R.cell), p, 0, rfl, _, cellsAt_one (cellH_at R.cell), rfl, ?_⟩, fun a => ⟨rfl, ?_⟩⟩, fun hB => ⟨rfl, ?_⟩, fun hB => ⟨p, 0, rfl, _, cellsAt_one (cellH_at R.cell), rfl, ?_⟩⟩
  · have a : r.e = 0 := of_decide_eq_true a
    apply decide_eq_decide.2
    constructor
    · rintro ⟨_, hh⟩; omega
    · intro hh; exact ⟨a, by omega⟩
  · exact decide_eq_false fun hh => of_decide_eq_false a hh.1
  · unfold Rd.fin; rw [if_pos (of_decide_eq_true hB)]
  · unfold Rd.fin; rw [if_neg (of_decide_eq_false hB)]

end

end Go.Vc
