/- The packer's writer: the rest of it. -/
import Derived.Test.YtloieaoglpjffaaS3PkA
import Derived.Test.YtloieaoglpjffaaS3PkB
set_option maxRecDepth 10000
namespace Go.Vc
open Go Go.Proofs

theorem or8h (m : Nat) : orI .u8 ((m % 256 : Nat) : Int) 128 = ((UInt8.ofNat (m % 128 + 128)).toNat : Int) := by
  have key : ∀ x : Fin 256, orI .u8 ((x.val : Nat) : Int) 128 = ((x.val % 128 + 128 : Nat) : Int) := by decide +kernel
  have := key ⟨m % 256, Nat.mod_lt _ (by decide)⟩
  rw [u8_nat, this]
  show ((m % 256 % 128 + 128 : Nat) : Int) = _
  congr 1; omega

/-- pack.uint -/
theorem uint_c {h : Hp} {q : Option Addr} {c n : Nat} {L : List UInt8} (hn : L.length = n) (o : Own h 0 5 1 (.slice q n c) n (byteVs L)) (m : Nat) (hm : m < 18446744073709551616) (hl : n ≤ 140737488355000) :
    CallsH Try.prog 58 #[.slice q n c, vU m] h fun e h' => ∃ q' c', e = .returned (.slice q' (n + (uintL m).length) c') ∧ Own h' 0 5 1 (.slice q' (n + (uintL m).length) c') (n + (uintL m).length) (byteVs (L ++ uintL m)) ∧ RowTo h h' (.slice q n c) (.slice q' (n + (uintL m).length) c') := by
  refine V58 _ _ _ _ h _ ⟨fun l hr => ∃ (q' : Option Addr) (c' : Nat) (L' : List UInt8) (k j : Nat), l = [.slice q' L'.length c', vU j] ∧ Own hr 0 5 1 (.slice q' L'.length c') L'.length (byteVs L') ∧ RowTo h hr (.slice q n c) (.slice q' L'.length c') ∧ L' ++ uintG k j = L ++ uintL m ∧ j < 128 ^ (k + 1) ∧ j < 18446744073709551616 ∧ L'.length + k ≤ n + 9,
    fun l _ => (numAt l 1).toNat, ⟨q, c, L, 9, m, by rw [hn], by rw [hn]; exact o, by rw [hn]; exact RowTo.refl _ _, rfl, by omega, hm, by omega⟩, ?_⟩
  rintro q1 n1 c1 j1 h1 ⟨q', c', L', k, j, hl1, o1, r1, e1, hj, hj64, hk⟩
  cases hl1
  refine ⟨fun hge => ?_, fun hlt => ?_⟩
  · have hge : 128 ≤ j := by simp at hge; omega
    cases k with
    | zero => simp at hj; omega
    | succ k =>
      refine ⟨((j % 256 : Nat) : Int), by rw [wrapU8]; omega, _, or8h j, semH_push rowB o1 (vs := [vB (UInt8.ofNat (j % 128 + 128))]) (m := 1) rfl rfl (by simp) (by simp) (by simp [Value.oneCell']) (by omega) (by simp only [maxLen]; omega) (Nat.zero_le _) fun p' c2 h2 o2 g2 _ b2 => ?_⟩
      have e2 : byteVs L' ++ [vB (UInt8.ofNat (j % 128 + 128))] = byteVs (L' ++ [UInt8.ofNat (j % 128 + 128)]) := by simp [byteVs]
      have el : (L' ++ [UInt8.ofNat (j % 128 + 128)]).length = L'.length + 1 := by simp
      refine ⟨by decide, _, sr64n (n := 7) (by decide), ⟨p', c2, L' ++ [UInt8.ofNat (j % 128 + 128)], k, j / 2 ^ 7, by rw [el], by rw [el, ← e2]; exact o2, by rw [el]; exact r1.trans ⟨g2, b2⟩, ?_, ?_, by omega, by omega⟩, ?_⟩
      · rw [← e1, uintG, if_neg (by omega), List.append_assoc]; rfl
      · rw [Nat.pow_succ] at hj
        omega
      · simp only [numAt]; omega
  · have hlt : j < 128 := by simp at hlt; omega
    refine ⟨((j : Nat) : Int), by rw [wrapU8]; omega, ?_⟩
    have ev : Value.int .u8 (j : Int) = vB (UInt8.ofNat j) := by rw [vB, u8_nat]; congr 2; omega
    rw [ev]
    refine semH_push rowB o1 (vs := [vB (UInt8.ofNat j)]) (m := 1) rfl rfl (by simp) (by simp) (by simp [Value.oneCell']) (by omega) (by simp only [maxLen]; omega) (Nat.zero_le _) fun p' c2 h2 o2 g2 _ b2 => ?_
    have e2 : byteVs L' ++ [vB (UInt8.ofNat j)] = byteVs (L ++ uintL m) := by rw [← e1, uintG_small k hlt]; simp [byteVs]
    have el : L'.length + 1 = n + (uintL m).length := by
      have := congrArg List.length e1
      rw [uintG_small k hlt] at this
      simp only [List.length_append, List.length_singleton] at this
      omega
    rw [e2, el] at o2
    rw [el] at b2 ⊢
    exact ⟨_, _, rfl, o2, r1.trans ⟨g2, b2⟩⟩

section
variable {h : Hp} {B : Nat → Prop} {p : Nat} {w : Wr}

/-- pack.Writer.Uint -/
theorem wuint_c (W : WrAt h B p w) (n : Nat) (hn : n < 18446744073709551616) (hl : w.b.length ≤ 140737488355000) :
    CallsH Try.prog 26 #[vP p, vU n] h fun e h' => Same B h h' ∧ WrAt h' (GrowB B h h') p (w.uint n) ∧ e = .returned (.tuple #[]) := by
  refine V26 _ _ h _ ((ready_c W).mono ?_)
  rintro e h1 ⟨rfl, rfl⟩
  refine ⟨_, rfl, fun h0 => ?_, fun h0 => ?_⟩
  · have h0 : w.e = 0 := of_decide_eq_true h0
    obtain ⟨q, c, W⟩ := W
    refine ⟨p, 0, rfl, _, _, _, cellsAt_one (cellH_at W.cell), (uint_c rfl W.row n hn hl).mono ?_⟩
    rintro e h2 ⟨q', c', rfl, o2, r2⟩
    have el : w.b.length + (uintL n).length = (w.b ++ uintL n).length := by simp
    rw [el] at o2 r2 ⊢
    obtain ⟨_, k2, k3⟩ := W.put o2 r2
    refine ⟨_, _, _, rfl, p, 0, rfl, rfl, k2, fun h3 e3 => ?_⟩
    obtain ⟨k4, k5⟩ := k3 h3 e3
    refine ⟨k4, ?_, rfl⟩
    unfold Wr.uint
    rw [if_pos h0]
    exact k5
  · have h0 : w.e ≠ 0 := of_decide_eq_false h0
    refine ⟨Same.refl _ _, ?_, rfl⟩
    unfold Wr.uint
    rw [if_neg h0]
    exact W.grow

theorem wuint_nil (n : Nat) : CallsH Try.prog 26 #[.pointer none, vU n] h fun e h' => h' = h ∧ e = .returned (.tuple #[]) := by
  refine V26 _ _ h _ (ready_nil.mono ?_)
  rintro e h1 ⟨rfl, rfl⟩
  exact ⟨_, rfl, fun h0 => (by cases h0), fun _ => ⟨rfl, rfl⟩⟩

/-- pack.Writer.Text -/
theorem wtext_c (W : WrAt h B p w) (s : ByteArray) (hl : w.b.length + s.size ≤ 140737488355000) :
    CallsH Try.prog 28 #[vP p, .string s] h fun e h' => Same B h h' ∧ WrAt h' (GrowB B h h') p (w.text (bl s)) ∧ e = .returned (.tuple #[]) := by
  refine V28 _ _ h _ ((ready_c W).mono ?_)
  rintro e h1 ⟨rfl, rfl⟩
  refine ⟨_, rfl, fun h0 => ?_, fun h0 => ?_⟩
  · have h0 : w.e = 0 := of_decide_eq_true h0
    obtain ⟨q, c, W⟩ := W
    have hu := uintG_len 9 s.size
    refine ⟨p, 0, rfl, _, _, _, cellsAt_one (cellH_at W.cell), (s.size : Int), by rw [wrapU64]; omega, (uint_c rfl W.row s.size (by omega) (by omega)).mono ?_⟩
    rintro e h2 ⟨q', c', rfl, o2, r2⟩
    have hu : (uintL s.size).length ≤ 10 := hu.2
    refine ⟨_, _, _, rfl, semH_appendStr rowB uStr zeroU8 o2 (by simp only [maxLen]; omega) (by omega) (Nat.zero_le _) fun p3 c3 h3 o3 g3 _ b3 => ?_⟩
    have el : w.b.length + (uintL s.size).length + s.size = (w.b ++ (uintL s.size ++ bl s)).length := by simp only [List.length_append, bl_length]; omega
    have ev : byteVs (w.b ++ uintL s.size) ++ byteVs s.data.toList = byteVs (w.b ++ (uintL s.size ++ bl s)) := by simp [byteVs]
    rw [ev, el] at o3
    rw [el] at b3 ⊢
    obtain ⟨_, k2, k3⟩ := W.put o3 (r2.trans ⟨g3, b3⟩)
    refine ⟨p, 0, rfl, rfl, k2, fun h4 e4 => ?_⟩
    obtain ⟨k4, k5⟩ := k3 h4 e4
    refine ⟨k4, ?_, rfl⟩
    unfold Wr.text
    rw [if_pos h0, bl_length]
    exact k5
  · have h0 : w.e ≠ 0 := of_decide_eq_false h0
    refine ⟨Same.refl _ _, ?_, rfl⟩
    unfold Wr.text
    rw [if_neg h0]
    exact W.grow

theorem wtext_nil (s : ByteArray) : CallsH Try.prog 28 #[.pointer none, .string s] h fun e h' => h' = h ∧ e = .returned (.tuple #[]) := by
  refine V28 _ _ h _ (ready_nil.mono ?_)
  rintro e h1 ⟨rfl, rfl⟩
  exact ⟨_, rfl, fun h0 => (by cases h0), fun _ => ⟨rfl, rfl⟩⟩

/-- pack.Writer.Raw -/
theorem wraw_c (W : WrAt h B p w) (s : ByteArray) (hl : w.b.length + s.size ≤ 140737488355000) :
    CallsH Try.prog 30 #[vP p, .string s] h fun e h' => Same B h h' ∧ WrAt h' (GrowB B h h') p (w.raw (bl s)) ∧ e = .returned (.tuple #[]) := by
  refine V30 _ _ h _ ((ready_c W).mono ?_)
  rintro e h1 ⟨rfl, rfl⟩
  refine ⟨_, rfl, fun h0 => ?_, fun h0 => ?_⟩
  · have h0 : w.e = 0 := of_decide_eq_true h0
    obtain ⟨q, c, W⟩ := W
    refine ⟨p, 0, rfl, _, _, _, cellsAt_one (cellH_at W.cell), semH_appendStr rowB uStr zeroU8 W.row (by simp only [maxLen]; omega) (by omega) (Nat.zero_le _) fun p3 c3 h3 o3 g3 _ b3 => ?_⟩
    have el : w.b.length + s.size = (w.b ++ bl s).length := by simp only [List.length_append, bl_length]
    have ev : byteVs w.b ++ byteVs s.data.toList = byteVs (w.b ++ bl s) := by simp [byteVs]
    rw [ev, el] at o3
    rw [el] at b3 ⊢
    obtain ⟨_, k2, k3⟩ := W.put o3 ⟨g3, b3⟩
    refine ⟨p, 0, rfl, rfl, k2, fun h4 e4 => ?_⟩
    obtain ⟨k4, k5⟩ := k3 h4 e4
    refine ⟨k4, ?_, rfl⟩
    unfold Wr.raw
    rw [if_pos h0]
    exact k5
  · have h0 : w.e ≠ 0 := of_decide_eq_false h0
    refine ⟨Same.refl _ _, ?_, rfl⟩
    unfold Wr.raw
    rw [if_neg h0]
    exact W.grow

theorem wraw_nil (s : ByteArray) : CallsH Try.prog 30 #[.pointer none, .string s] h fun e h' => h' = h ∧ e = .returned (.tuple #[]) := by
  refine V30 _ _ h _ (ready_nil.mono ?_)
  rintro e h1 ⟨rfl, rfl⟩
  exact ⟨_, rfl, fun h0 => (by cases h0), fun _ => ⟨rfl, rfl⟩⟩

/-- pack.Writer.Len -/
theorem wlen_c (W : WrAt h B p w) : CallsH Try.prog 16 #[vP p] h fun e h' => h' = h ∧ e = .returned (vI w.b.length) := by
  obtain ⟨q, c, W⟩ := W
  exact V16 _ h _ ⟨false, eqv_ptr uPW _, fun hf => (by cases hf), fun _ => ⟨p, 0, rfl, _, _, _, cellsAt_one (cellH_at W.cell), rfl, rfl⟩⟩

theorem wlen_nil : CallsH Try.prog 16 #[.pointer none] h fun e h' => h' = h ∧ e = .returned (vI 0) :=
  V16 _ h _ ⟨true, eqv_nil uPW, fun _ => ⟨rfl, rfl⟩, fun hf => by cases hf⟩

/-- pack.Writer.Bits -/
theorem wbits_c (W : WrAt h B p w) (N : Nat) (hN : N < 2 ^ 128) (k : Int) (hl : w.b.length ≤ 140737488355000) :
    CallsH Try.prog 29 #[vP p, bv N, vZ k] h fun e h' => Same B h h' ∧ WrAt h' (GrowB B h h') p (w.bits N k) ∧ e = .returned (.tuple #[]) := by
  refine V29 _ _ _ _ h _ ?_
  intro b h1 hb e1
  have x1 : Ext h h1 := by rw [e1]; exact Ext.push _ _
  have c1 : h1[b]? = some (.cells #[vU (N / 2 ^ 64), vU (N % 2 ^ 64)] 34) := by rw [e1, hb]; exact push_last
  clear e1
  refine (ready_c (W.ext x1)).mono ?_
  rintro e h1 ⟨rfl, rfl⟩
  refine ⟨_, rfl, fun h0 => ?_, fun h0 => ?_⟩
  · have h0 : w.e ≠ 0 := by simpa using h0
    refine ⟨x1.same B, ?_, rfl⟩
    unfold Wr.bits
    rw [if_neg h0]
    exact (W.ext x1).more (fun _ hb => .inl hb) (GrowB.lt W.lt x1.size)
  have h0 : w.e = 0 := by simpa using h0
  refine ⟨_, _, cellsAt_all (vs := [vU (N / 2 ^ 64), vU (N % 2 ^ 64)]) c1, (bytes_c N hN k h1).mono ?_⟩
  rintro e h2 ⟨x2, rfl⟩
  obtain ⟨q, c, W2⟩ := (W.ext x1).ext x2
  obtain ⟨k1, k2⟩ := W2.err (bytesF N k).2
  refine ⟨_, _, rfl, p, 0, rfl, rfl, k1, fun h3 e3 => ?_⟩
  obtain ⟨y3, W3⟩ := k2 h3 e3
  obtain ⟨q3, c3, W3⟩ := W3
  have hbl : (bytesF N k).1.length ≤ 16 := by
    unfold bytesF
    split
    · simp
    · rename_i hw
      have hw : isW k = true := by simpa using hw
      have := isW_iff.1 hw
      split
      · simp
      · simp only [beL_length]; omega
  have row : Own h3 0 5 1 (.slice q3 w.b.length c3) w.b.length (byteVs w.b) := W3.row
  refine ⟨p, 0, rfl, _, _, _, cellsAt_one (cellH_at W3.cell), semH_appendStr rowB uStr zeroU8 row (by rw [tx_size]; simp only [maxLen]; omega) (by rw [tx_size]; omega) (Nat.zero_le _) fun p4 c4 h4 o4 g4 _ b4 => ?_⟩
  have el : w.b.length + (tx (bytesF N k).1).size = (w.b ++ (bytesF N k).1).length := by rw [tx_size, List.length_append]
  have ev : byteVs w.b ++ byteVs (tx (bytesF N k).1).data.toList = byteVs (w.b ++ (bytesF N k).1) := by
    rw [show (tx (bytesF N k).1).data.toList = (bytesF N k).1 from bl_tx _]; simp [byteVs]
  rw [ev, el] at o4
  rw [el] at b4 ⊢
  obtain ⟨_, k4, k5⟩ := W3.put o4 ⟨g4, b4⟩
  refine ⟨p, 0, rfl, rfl, k4, fun h5 e5 => ?_⟩
  obtain ⟨y5, W5⟩ := k5 h5 e5
  have y05 : Same B h h5 := (((x1.trans x2).same B).trans y3 fun _ h _ => h).trans y5 fun _ h _ => h
  refine ⟨y05, ?_, rfl⟩
  unfold Wr.bits
  rw [if_pos h0]
  refine W5.more (fun b hb => ?_) (GrowB.lt W.lt y05.size)
  rcases hb with hb | hb
  · exact .inl hb
  · have := (x1.trans x2).size
    have := y3.size
    exact .inr ⟨by omega, hb.2⟩

theorem wbits_nil (N : Nat) (k : Int) : CallsH Try.prog 29 #[.pointer none, bv N, vZ k] h fun e h' => Ext h h' ∧ e = .returned (.tuple #[]) := by
  refine V29 _ _ _ _ h _ ?_
  intro b h1 hb e1
  have x1 : Ext h h1 := by rw [e1]; exact Ext.push _ _
  clear e1
  refine ready_nil.mono ?_
  rintro e h1 ⟨rfl, rfl⟩
  exact ⟨_, rfl, fun _ => ⟨x1, rfl⟩, fun h0 => (by cases h0)⟩

end

end Go.Vc
