/- The packer's reader: values. -/
import Derived.Test.YtloieaoglpjffaaS3PkS
set_option maxRecDepth 10000
namespace Go.Vc
open Go Go.Proofs

section
variable {h h' : Hp} {p : Nat} {r : Rd}

theorem ret_zero : Ending.returned (Value.agg #[(Value.int .u64 (0 : Int)), (Value.int .u64 (0 : Int))]) = .returned (bv 0) := rfl

theorem from_bad {l : List UInt8} {k : Int} (h : (fromF l k).2 ≠ 0) : (fromF l k).1 = 0 := by
  unfold fromF at h ⊢
  split
  · rfl
  · split
    · rfl
    · split
      · rfl
      · rename_i h1 h2 h3
        rw [if_neg h1, if_neg h2, if_neg h3] at h
        exact (h rfl).elim

/-- pack.Reader.Bits -/
theorem rbits_c (R : RdAt h p r) (k : Int) : CallsH Try.prog 24 #[vP p, vZ k] h fun e h' => Same (P1 p) h h' ∧ RdAt h' p (r.bits k).2 ∧ e = .returned (bv (r.bits k).1) := by
  refine V24 _ _ h _ ?_
  intro a h1 ha e1
  have x1 : Ext h h1 := by rw [e1]; exact Ext.push _ _
  have ca1 : h1[a]? = some (.cells #[vP p] 39) := by rw [e1, ha]; exact push_last
  have s1 : h1.size = h.size + 1 := by rw [e1]; simp
  clear e1
  intro z h1' hz e1'
  have x1' : Ext h1 h1' := by rw [e1']; exact Ext.push _ _
  have cz1 : h1'[z]? = some (.cells #[vU 0, vU 0] 34) := by rw [e1', hz, zerosBits]; exact push_last
  have s1' : h1'.size = h.size + 2 := by rw [e1']; simp [s1]
  have ca1 := (x1'.old a (by omega)).trans ca1
  have x1 := x1.trans x1'
  clear e1' x1'
  have lp := R.lt
  refine ⟨infoBits, _, cellsAt_one (cellH_at ca1), (begin_c (R.ext x1)).mono ?_⟩
  rintro e hb' ⟨rfl, rfl⟩
  refine ⟨_, rfl, fun h0 => ?_, fun h0 => ?_⟩
  · have h0 : r.e ≠ 0 := by simpa using h0
    have e0 : r.bits k = (0, r) := by unfold Rd.bits; rw [if_pos h0]
    rw [e0]
    exact bits_put x1 cz1 (by omega) 0 0 fun h3 x3 => ⟨x3.same _, R.ext x3, ret_zero⟩
  have h0 : r.e = 0 := by simpa using h0
  refine ⟨_, cellsAt_one (cellH_at ca1), p, 0, rfl, _, cellsAt_one (cellH_at (R.ext x1).cell), ?_⟩
  intro b h2 hb e2
  have x2 : Ext hb' h2 := by rw [e2]; exact Ext.push _ _
  have cb2 : h2[b]? = some (.cells #[vZ 0] 3) := by rw [e2, hb, zerosNum]; exact push_last
  clear e2
  obtain ⟨q1, q2, q3⟩ := num_set cb2 (r.at_ : Int)
  refine ⟨infoNum, q1, q2, ?_⟩
  intro h3 e3
  have cb3 : h3[b]? = some (.cells #[vI r.at_] 3) := by rw [e3]; exact q3
  have ca3 : h3[a]? = some (.cells #[vP p] 39) := by rw [e3]; exact (setsH_ne (by omega)).trans ((x2.old a (by omega)).trans ca1)
  have cz3 : h3[z]? = some (.cells #[vU 0, vU 0] 34) := by rw [e3]; exact (setsH_ne (by omega)).trans ((x2.old z (by omega)).trans cz1)
  have x3 : Ext h h3 := by rw [e3]; exact (x1.trans x2).over (setsH_same (B := fun x => x = b) rfl) fun x hx => by omega
  have R3 : RdAt h3 p r := R.ext x3
  clear e3
  have la := (Array.getElem?_eq_some_iff.1 ca3).1
  have lb := (Array.getElem?_eq_some_iff.1 cb3).1
  have lz := (Array.getElem?_eq_some_iff.1 cz3).1
  -- all but the reader and the result stays
  have fail : ∀ (hq : Hp) (rq : Rd) (c : Int), Same (fun x => x = p ∨ x = z) h3 hq → Same (P1 p) h hq → hq[z]? = some (.cells #[vU 0, vU 0] 34) → RdAt hq p rq → rq.b = r.b → r.bits k = (0, r.bad c) →
      DefH Try.prog 54 #[vP a, vP b] (.panicking (gone c)) hq fun md hr => settle md = .returning ∧ ∃ r0 : Int, ∃ r1 : Int, cellsAt hr z 0 [(Value.int .u64 r0), (Value.int .u64 r1)] ∧ (Same (P1 p) h hr ∧ RdAt hr p (r.bits k).2 ∧ Ending.returned (Value.agg #[(Value.int .u64 r0), (Value.int .u64 r1)]) = .returned (bv (r.bits k).1)) := by
    intro hq rq c y yh cz Rq eb ek
    have ca := (y.old a la (by rintro (e | e) <;> omega)).trans ca3
    have cb := (y.old b lb (by rintro (e | e) <;> omega)).trans cb3
    refine catch_bad catBits ca cb Rq (by rw [eb]; exact R.ok.at_) c fun hr yr Rr => ⟨rfl, 0, 0, cellsAt_all (vs := [vU 0, vU 0]) ((yr.old z (Array.getElem?_eq_some_iff.1 cz).1 (by show ¬ z = p; omega)).trans cz), yh.trans yr fun _ h _ => h, ?_, by rw [ek]; exact ret_zero⟩
    rw [ek]
    have : (⟨rq.b, r.at_, c, r.at_⟩ : Rd) = r.bad c := by rw [eb]; rfl
    rw [← this]
    exact Rr
  refine ⟨fun _ hr => hr = h3 ∧ isW k = true, ⟨!(isW k), ⟨fun g => ⟨rfl, ?_⟩, fun g => ⟨rfl, ?_⟩⟩, fun hB => ?_, fun hB => ⟨rfl, by simpa using hB⟩⟩, ?_⟩
  · have g := of_decide_eq_true g
    simp only [isW, Bool.not_eq_true', decide_eq_false_iff_not]; omega
  · have g := of_decide_eq_false g
    simp only [isW]
    rw [← decide_not]
    apply decide_eq_decide.2; omega
  · have hB : isW k = false := by simpa using hB
    exact fail h3 r 10 (Same.refl _ _) (x3.same _) cz3 R3 rfl (by unfold Rd.bits; rw [if_neg (by simpa using h0), if_pos hB])
  rintro h3' ⟨rfl, hw⟩
  obtain ⟨w0, w1⟩ := isW_iff.1 hw
  obtain ⟨m, rfl⟩ := Int.eq_ofNat_of_zero_le (show 0 ≤ k by omega)
  obtain ⟨n, hn⟩ : ∃ n, n = (m + 7) / 8 := ⟨_, rfl⟩
  have etd : IntKind.u64.wrap (Int.tdiv ((m + 7 : Nat) : Int) 8) = (n : Int) := by
    have : Int.tdiv ((m + 7 : Nat) : Int) 8 = (((m + 7) / 8 : Nat) : Int) := (Int.ofNat_tdiv _ 8).symm
    rw [this, ← hn, wrapU64]; omega
  have eb : r.bits (m : Int) = (if r.left.length < n then (0, r.bad 3) else if (fromF (r.left.take n) m).2 ≠ 0 then ((fromF (r.left.take n) m).1, r.bad (fromF (r.left.take n) m).2) else ((fromF (r.left.take n) m).1, r.to n)) := by
    unfold Rd.bits
    rw [if_neg (by simpa using h0), if_neg (by rw [hw]; simp), Int.toNat_natCast, ← hn]
  refine ⟨_, cellsAt_one (cellH_at ca3), ((m + 7 : Nat) : Int), by rw [wrapI64] <;> omega, ((m + 7 : Nat) : Int), by rw [wrapU64]; omega, by decide, (n : Int), etd, (take_c R3 n (by omega)).mono ?_⟩
  rintro e h4 (⟨hle, rfl, y4, R4⟩ | ⟨hlt, rfl, rfl⟩)
  · refine .inl ⟨_, rfl, (from_c (tx (r.left.take n)) (by rw [tx_size, List.length_take]; omega) m h4).mono ?_⟩
    rintro e h5 ⟨x5, rfl⟩
    rw [bl_tx]
    have y5 : Same (P1 p) h3' h5 := y4.trans (x5.same _) fun _ h _ => h
    have cz5 := (y5.old z lz (by show ¬ z = p; omega)).trans cz3
    have R5 := R4.ext x5
    obtain ⟨p1, p2, p3, p4⟩ := two_put cz5 (((fromF (r.left.take n) m).1 / 2 ^ 64 : Nat) : Int) (((fromF (r.left.take n) m).1 % 2 ^ 64 : Nat) : Int)
    refine .inl ⟨_, _, _, rfl, p1, p2, p3, ?_⟩
    intro h6 e6
    have cz6 : h6[z]? = some (.cells #[vU ((fromF (r.left.take n) m).1 / 2 ^ 64), vU ((fromF (r.left.take n) m).1 % 2 ^ 64)] 34) := by rw [e6]; exact p4
    have y6z : Same (fun x => x = z) h5 h6 := by rw [e6]; exact setsH_same rfl
    have y6 : Same (fun x => x = p ∨ x = z) h3' h6 := (y5.more fun _ h _ => .inl h).trans y6z fun _ h _ => .inr h
    have yh6 : Same (P1 p) h h6 := (((x3.same (P1 p)).trans y5 fun _ h _ => h)).trans y6z fun x hx hl => by omega
    have R6 : RdAt h6 p (r.to n) := R5.other y6z (by omega)
    refine ⟨fun hf => ?_, fun hf => ?_⟩
    · have hf : (fromF (r.left.take n) m).2 ≠ 0 := of_decide_eq_true hf
      have e0 := from_bad hf
      rw [e0] at cz6
      refine fail h6 _ _ y6 yh6 cz6 R6 rfl ?_
      rw [eb, if_neg (by omega), if_pos hf, e0]
    · have hf : (fromF (r.left.take n) m).2 = 0 := by have := of_decide_eq_false hf; simpa using this
      obtain ⟨p1, p2, p3, p4⟩ := two_put cz6 (((fromF (r.left.take n) m).1 / 2 ^ 64 : Nat) : Int) (((fromF (r.left.take n) m).1 % 2 ^ 64 : Nat) : Int)
      refine ⟨_, _, cellsAt_all (vs := [vU ((fromF (r.left.take n) m).1 / 2 ^ 64), vU ((fromF (r.left.take n) m).1 % 2 ^ 64)]) cz6, p1, p2, p3, ?_⟩
      intro h7 e7
      have cz7 : h7[z]? = some (.cells #[vU ((fromF (r.left.take n) m).1 / 2 ^ 64), vU ((fromF (r.left.take n) m).1 % 2 ^ 64)] 34) := by rw [e7]; exact p4
      have y7z : Same (fun x => x = z) h6 h7 := by rw [e7]; exact setsH_same rfl
      have y7 : Same (fun x => x = p ∨ x = z) h3' h7 := y6.trans y7z fun _ h _ => .inr h
      have ek : r.bits (m : Int) = ((fromF (r.left.take n) m).1, r.to n) := by rw [eb, if_neg (by omega), if_neg (by simpa using hf)]
      refine catch_ok catBits ((y7.old a la (by rintro (e | e) <;> omega)).trans ca3) ((y7.old b lb (by rintro (e | e) <;> omega)).trans cb3) ⟨rfl, _, _, cellsAt_all (vs := [vU ((fromF (r.left.take n) m).1 / 2 ^ 64), vU ((fromF (r.left.take n) m).1 % 2 ^ 64)]) cz7, ?_, ?_, by rw [ek]; rfl⟩
      · exact yh6.trans y7z fun x hx hl => by omega
      · rw [ek]; exact R6.other y7z (by omega)
  · exact .inr ⟨_, rfl, fail _ r 3 (Same.refl _ _) (x3.same _) cz3 R3 rfl (by rw [eb, if_pos hlt])⟩

theorem rbits_nil (k : Int) : CallsH Try.prog 24 #[.pointer none, vZ k] h fun e h' => Ext h h' ∧ e = .returned (bv 0) := by
  refine V24 _ _ h _ ?_
  intro a h1 ha e1
  have x1 : Ext h h1 := by rw [e1]; exact Ext.push _ _
  have ca1 : h1[a]? = some (.cells #[.pointer none] 39) := by rw [e1, ha]; exact push_last
  have s1 : h1.size = h.size + 1 := by rw [e1]; simp
  clear e1
  intro z h1' hz e1'
  have x1' : Ext h1 h1' := by rw [e1']; exact Ext.push _ _
  have cz1 : h1'[z]? = some (.cells #[vU 0, vU 0] 34) := by rw [e1', hz, zerosBits]; exact push_last
  have ca1 := (x1'.old a (by omega)).trans ca1
  have x1 := x1.trans x1'
  clear e1' x1'
  refine ⟨infoBits, _, cellsAt_one (cellH_at ca1), begin_nil.mono ?_⟩
  rintro e h2 ⟨rfl, rfl⟩
  exact ⟨_, rfl, fun _ => bits_put x1 cz1 (by omega) 0 0 fun h3 x3 => ⟨x3, rfl⟩, fun hf => by cases hf⟩

end

end Go.Vc
