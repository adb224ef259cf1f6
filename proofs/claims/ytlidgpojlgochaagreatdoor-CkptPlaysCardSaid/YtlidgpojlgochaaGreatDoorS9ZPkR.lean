import Derived.Test.YtlidgpojlgochaaGreatDoorS9ZFrC
import Derived.Test.YtlidgpojlgochaaGreatDoorVcL
import Derived.Test.YtlidgpojlgochaaGreatDoorPkM
set_option maxRecDepth 10000


/- Where the packer's writer lies. -/
namespace Go.Vc
open Go Go.Proofs

theorem uPW : Tryz.prog.underlying 118 = some (.pointer 138) := by kernel_rfl
theorem uPR : Tryz.prog.underlying 142 = some (.pointer 153) := by kernel_rfl
theorem zeroU8 : (Tryz.prog.info? 5).bind (·.zero) = some (.int .u8 0) := by kernel_rfl

/-- A row that became another one. -/
structure RowTo (h h' : Hp) (v v' : Value) : Prop where
  g : Grown h h' v.ownBlock
  n : v'.ownBlock = v.ownBlock ∨ ∃ b, v'.ownBlock = some b ∧ h.size ≤ b

theorem RowTo.refl (h : Hp) (v : Value) : RowTo h h v v := ⟨⟨Nat.le_refl _, fun _ _ _ => rfl⟩, .inl rfl⟩
theorem RowTo.trans {a b c : Hp} {u v w : Value} (x : RowTo a b u v) (y : RowTo b c v w) : RowTo a c u w := by
  refine ⟨⟨Nat.le_trans x.g.size y.g.size, fun k hk hne => ?_⟩, ?_⟩
  · refine (y.g.block k (Nat.lt_of_lt_of_le hk x.g.size) ?_).trans (x.g.block k hk hne)
    rcases x.n with e | ⟨b', e, hb⟩
    · rw [e]; exact hne
    · rw [e]; intro hh; injection hh with hh; omega
  · rcases y.n with e | ⟨b', e, hb⟩
    · rw [e]; exact x.n
    · exact .inr ⟨b', e, Nat.le_trans x.g.size hb⟩

structure WrIs (h : Hp) (B : Nat → Prop) (p : Nat) (w : Wr) (q : Option Addr) (c : Nat) : Prop where
  cell : h[p]? = some (.cells #[.slice q w.b.length c, vZ w.e] 138)
  row : Own h 0 5 1 (.slice q w.b.length c) w.b.length (byteVs w.b)
  bp : B p
  bq : ∀ b, (Value.slice q w.b.length c).ownBlock = some b → B b ∧ b ≠ p
  lt : ∀ b, B b → b < h.size

/-- At 'p' lies a writer; all that it needs lies in these blocks. -/
def WrAt (h : Hp) (B : Nat → Prop) (p : Nat) (w : Wr) : Prop := ∃ q c, WrIs h B p w q c

section
variable {h h' : Hp} {B C : Nat → Prop} {p : Nat} {w : Wr} {q : Option Addr} {c : Nat}

theorem WrIs.keep (W : WrIs h B p w q c) (hs : h.size ≤ h'.size) (k : ∀ b, B b → h'[b]? = h[b]?) : WrIs h' B p w q c :=
  ⟨(k p W.bp).trans W.cell, W.row.keep fun b hb => k b (W.bq b hb).1, W.bp, W.bq, fun b hb => Nat.lt_of_lt_of_le (W.lt b hb) hs⟩
theorem WrIs.more (W : WrIs h B p w q c) (hC : ∀ b, B b → C b) (hl : ∀ b, C b → b < h.size) : WrIs h C p w q c :=
  { W with bp := hC _ W.bp, bq := fun b hb => ⟨hC _ (W.bq b hb).1, (W.bq b hb).2⟩, lt := hl }
theorem WrAt.ext (W : WrAt h B p w) (x : Ext h h') : WrAt h' B p w := let ⟨q, c, W⟩ := W; ⟨q, c, W.keep x.size fun b hb => x.old b (W.lt b hb)⟩
theorem WrAt.other (W : WrAt h B p w) (x : Same C h h') (hC : ∀ b, B b → ¬ C b) : WrAt h' B p w := let ⟨q, c, W⟩ := W; ⟨q, c, W.keep x.size fun b hb => x.old b (W.lt b hb) (hC b hb)⟩
theorem WrAt.more (W : WrAt h B p w) (hC : ∀ b, B b → C b) (hl : ∀ b, C b → b < h.size) : WrAt h C p w := let ⟨q, c, W⟩ := W; ⟨q, c, W.more hC hl⟩
theorem WrAt.lt (W : WrAt h B p w) : ∀ b, B b → b < h.size := let ⟨_, _, W⟩ := W; W.lt
theorem WrAt.grow (W : WrAt h B p w) : WrAt h (GrowB B h h) p w := W.more (fun _ hb => .inl hb) (GrowB.lt W.lt (Nat.le_refl _))

/-- The writer's row became another one, and is put there. -/
theorem WrIs.put (W : WrIs h B p w q c) {h1 : Hp} {q' : Option Addr} {c' : Nat} {L' : List UInt8} (o : Own h1 0 5 1 (.slice q' L'.length c') L'.length (byteVs L')) (r : RowTo h h1 (.slice q w.b.length c) (.slice q' L'.length c')) :
    h1[p]? = some (.cells #[.slice q w.b.length c, vZ w.e] 138) ∧ wrAt h1 p (0 + 0) 1 ∧ ∀ h2, h2 = setsH h1 p (0 + 0) [.slice q' L'.length c'] → Same B h h2 ∧ WrAt h2 (GrowB B h h2) p ⟨L', w.e⟩ := by
  have lp : p < h.size := W.lt p W.bp
  have c1 : h1[p]? = some (.cells #[.slice q w.b.length c, vZ w.e] 138) := (r.g.block p lp fun e => (W.bq p e.symm).2 rfl).trans W.cell
  refine ⟨c1, wrAt_of c1 (by show 0 + 0 + 1 ≤ 2; decide) (.inl (Nat.zero_le _)), ?_⟩
  rintro h2 rfl
  have y : Same B h (setsH h1 p (0 + 0) [.slice q' L'.length c']) := (r.g.same B fun b hb => (W.bq b hb).1).trans (setsH_same (B := B) W.bp) fun _ h _ => h
  have hne : ∀ b, (Value.slice q' L'.length c').ownBlock = some b → b ≠ p := by
    intro b hb e
    rcases r.n with e1 | ⟨b', e1, hb'⟩
    · rw [e1] at hb; exact (W.bq b hb).2 e
    · rw [e1] at hb; injection hb with hb; omega
  refine ⟨y, q', c', ⟨?_, ?_, .inl W.bp, ?_, GrowB.lt W.lt y.size⟩⟩
  · rw [setsH_at c1]; rfl
  · exact o.keep fun b hb => setsH_ne (hne b hb)
  · intro b hb
    refine ⟨?_, hne b hb⟩
    have hl : b < h1.size := (o.lt hb).2
    rcases r.n with e1 | ⟨b', e1, hb'⟩
    · rw [e1] at hb; exact .inl (W.bq b hb).1
    · rw [e1] at hb; injection hb with hb
      exact .inr ⟨by omega, by rw [setsH_size]; omega⟩

/-- The writer's error is set. -/
theorem WrIs.err (W : WrIs h B p w q c) (e : Int) : wrAt h p (0 + 1) 1 ∧ ∀ h1, h1 = setsH h p (0 + 1) [vZ e] → Same B h h1 ∧ WrAt h1 B p ⟨w.b, e⟩ := by
  refine ⟨wrAt_of W.cell (by show 0 + 1 + 1 ≤ 2; decide) (.inl (Nat.zero_le _)), ?_⟩
  rintro h1 rfl
  refine ⟨setsH_same W.bp, q, c, ⟨?_, W.row.keep fun b hb => setsH_ne (W.bq b hb).2, W.bp, W.bq, fun b hb => by rw [setsH_size]; exact W.lt b hb⟩⟩
  rw [setsH_at W.cell]; rfl

end

end Go.Vc

/- The packer's writer: contracts. -/
namespace Go.Vc
open Go Go.Proofs

section
variable {h : Hp} {B : Nat → Prop} {p : Nat} {w : Wr}

/-- pack.New -/
theorem wnew_c (h : Hp) : CallsH Tryz.prog 64 #[] h fun e h' => Ext h h' ∧ WrAt h' (GrowB NoB h h') h.size Wr.new ∧ e = .returned (vP h.size) := by
  refine V64 h _ ?_
  intro b h1 hb e1
  subst hb
  refine ⟨by rw [e1]; exact Ext.push _ _, ⟨none, 0, ?_⟩, rfl⟩
  have s1 : h1.size = h.size + 1 := by rw [e1]; simp
  exact ⟨by rw [e1]; exact push_last, Own.nil _ _ _ _, .inr ⟨Nat.le_refl _, by omega⟩, fun b hb => by simp [Value.ownBlock] at hb, fun b hb => by rcases hb with hb | hb; exact hb.elim; exact hb.2⟩

theorem ready_c (W : WrAt h B p w) : CallsH Tryz.prog 84 #[vP p] h fun e h' => h' = h ∧ e = .returned (.bool (decide (w.e = 0))) := by
  obtain ⟨q, c, W⟩ := W
  exact V84 _ h _ ⟨_, ⟨false, eqv_ptr uPW _, fun _ => ⟨p, 0, rfl, _, cellsAt_one (cellH_at W.cell), rfl, rfl⟩, fun hf => by simp at hf⟩, rfl, rfl⟩

theorem ready_nil : CallsH Tryz.prog 84 #[.pointer none] h fun e h' => h' = h ∧ e = .returned (.bool false) :=
  V84 _ h _ ⟨_, ⟨true, eqv_nil uPW, fun hf => (by simp at hf), fun _ => ⟨rfl, rfl⟩⟩, rfl, rfl⟩

/-- pack.Writer.Fixed -/
theorem wfixed_c (W : WrAt h B p w) (n : Nat) (k : Int) (hk0 : -9223372036854775808 ≤ k) (hl : w.b.length ≤ 140737488355000) :
    CallsH Tryz.prog 65 #[vP p, vU n, vZ k] h fun e h' => Same B h h' ∧ WrAt h' (GrowB B h h') p (w.fixed n k) ∧ e = .returned (.tuple #[]) := by
  refine V65 _ _ _ h _ ((ready_c W).mono ?_)
  rintro e h1 ⟨rfl, rfl⟩
  refine ⟨_, rfl, fun h0 => ?_, fun h0 => ?_⟩
  · have h0 : w.e ≠ 0 := by simpa using h0
    refine ⟨Same.refl _ _, ?_, rfl⟩
    unfold Wr.fixed
    rw [if_pos h0]
    exact W.grow
  have h0 : w.e = 0 := by simpa using h0
  refine ⟨decide (k < 1 ∨ 8 < k), ⟨fun a => ⟨rfl, ?_⟩, fun a => ⟨rfl, ?_⟩⟩, fun hB => ?_, fun hB => ?_⟩
  · have a := of_decide_eq_true a; simp [a]
  · have a := of_decide_eq_false a
    apply decide_eq_decide.2; omega
  · have hB := of_decide_eq_true hB
    obtain ⟨q, c, W⟩ := W
    obtain ⟨k1, k2⟩ := W.err 1
    refine ⟨p, 0, rfl, rfl, k1, fun h2 e2 => ?_⟩
    obtain ⟨k3, k4⟩ := k2 h2 e2
    refine ⟨k3, ?_, rfl⟩
    unfold Wr.fixed
    rw [if_neg (by simpa using h0), if_pos hB]
    exact k4.more (fun b hb => .inl hb) (GrowB.lt W.lt k3.size)
  have hB := of_decide_eq_false hB
  obtain ⟨m, rfl⟩ := Int.eq_ofNat_of_zero_le (show 0 ≤ k by omega)
  have hm1 : 1 ≤ m := by omega
  have hm8 : m ≤ 8 := by omega
  refine ⟨decide (m < 8 ∧ n / 2 ^ (8 * m) ≠ 0), ⟨fun a => ⟨((8 * m : Nat) : Int), by rw [wrapI64] <;> omega, by omega, _, sr64n (by omega), rfl, ?_⟩, fun a => ⟨rfl, ?_⟩⟩, fun hC => ?_, fun hC => ?_⟩
  · have a : m < 8 := by have := of_decide_eq_true a; omega
    apply decide_eq_decide.2
    constructor
    · intro hh; have := hh.2; omega
    · intro hh; exact ⟨a, by omega⟩
  · have a : ¬ m < 8 := by have := of_decide_eq_false a; omega
    simp [a]
  · have hC := of_decide_eq_true hC
    obtain ⟨q, c, W⟩ := W
    obtain ⟨k1, k2⟩ := W.err 11
    refine ⟨p, 0, rfl, rfl, k1, fun h2 e2 => ?_⟩
    obtain ⟨k3, k4⟩ := k2 h2 e2
    refine ⟨k3, ?_, rfl⟩
    unfold Wr.fixed
    rw [if_neg (by simpa using h0), if_neg hB, if_pos ⟨by omega, by rw [Int.toNat_natCast]; exact hC.2⟩]
    exact k4.more (fun b hb => .inl hb) (GrowB.lt W.lt k3.size)
  have hC := of_decide_eq_false hC
  have eW : w.fixed n (m : Int) = ⟨w.b ++ beL m n, w.e⟩ := by
    unfold Wr.fixed
    rw [if_neg (by simpa using h0), if_neg hB, if_neg (fun hh => hC ⟨by omega, by have := hh.2; rwa [Int.toNat_natCast] at this⟩), Int.toNat_natCast]
  rw [eW]
  refine ⟨((m : Int) - 1), by rw [wrapI64] <;> omega, fun l hr => ∃ i : Nat, i ≤ m ∧ l = [vZ ((m : Int) - 1 - i)] ∧ Same B h1 hr ∧ WrAt hr (GrowB B h1 hr) p ⟨w.b ++ (beL m n).take i, w.e⟩, fun l _ => (numAt l 0 + 1).toNat,
    ⟨0, Nat.zero_le _, by simp, Same.refl _ _, by simpa using W.grow⟩, ?_⟩
  rintro iv h2 ⟨i, hi, hli, y2, W2⟩
  cases hli
  refine ⟨fun hc => ?_, fun hc => ?_⟩
  · have hc : i < m := by have := of_decide_eq_true hc; omega
    obtain ⟨q, c, W2⟩ := W2
    have hbl : (beL m n).length = m := beL_length m n
    have hlen : (w.b ++ (beL m n).take i).length = w.b.length + i := by rw [List.length_append, List.length_take, hbl]; omega
    obtain ⟨x, hx⟩ : ∃ x, (beL m n)[i]? = some x := ⟨_, List.getElem?_eq_getElem (by omega)⟩
    have hxv : ((n / 2 ^ (8 * (m - 1 - i)) % 256 : Nat) : Int) = (x.toNat : Int) := by
      have e1 : (beL m n).take (i + 1) = beL (i + 1) (n / 256 ^ (m - (i + 1))) := beL_take m (i + 1) n (by omega)
      have e2 : ((beL m n).take (i + 1))[i]? = some (UInt8.ofNat (n / 256 ^ (m - (i + 1)))) := by
        rw [e1, beL, List.getElem?_append_right (by rw [beL_length]; exact Nat.le_refl _), beL_length, Nat.sub_self]; rfl
      rw [List.getElem?_take_of_lt (by omega), hx] at e2
      cases e2
      rw [u8_nat, show (256 : Nat) ^ (m - (i + 1)) = 2 ^ (8 * (m - 1 - i)) by rw [show (256 : Nat) = 2 ^ 8 from rfl, ← Nat.pow_mul]; congr 2; omega]
    refine ⟨fun hr => hr[p]? = some (.cells #[.slice q (w.b ++ (beL m n).take i).length c, vZ w.e] 138), W2.cell, p, 0, rfl, _, _, _, fun hr hc => cellsAt_one (cellH_at hc), ((8 * (m - 1 - i) : Nat) : Int), by rw [wrapI64] <;> omega, by omega, _, sr64n (by omega), (x.toNat : Int), by rw [← hxv, wrapU8]; omega, ?_⟩
    have lp : p < h2.size := (Array.getElem?_eq_some_iff.1 W2.cell).1
    have np : (Value.slice q (w.b ++ (beL m n).take i).length c).ownBlock ≠ some p := fun e => (W2.bq p e).2 rfl
    have row : Own h2 0 5 1 (.slice q (w.b ++ (beL m n).take i).length c) (w.b ++ (beL m n).take i).length (byteVs (w.b ++ (beL m n).take i)) := W2.row
    refine semH_pushC rowB row (vs := [vB x]) (m := 1) rfl rfl (by simp) (by simp) (by simp [Value.oneCell']) (by omega) (by simp only [maxLen]; omega) (Nat.zero_le _) (fun h' x' => (x'.old p lp).trans W2.cell) (fun h' g => (g.block p lp fun e => np e.symm).trans W2.cell) fun p6 q6 h6 ho6 hg6 _ hb6 => ?_
    have eL : w.b ++ (beL m n).take i ++ [x] = w.b ++ (beL m n).take (i + 1) := by
      rw [List.take_add_one, hx, List.append_assoc]; rfl
    have el : (w.b ++ (beL m n).take i).length + 1 = (w.b ++ (beL m n).take (i + 1)).length := by rw [← eL]; simp only [List.length_append, List.length_singleton]
    have ev : byteVs (w.b ++ (beL m n).take i) ++ [vB x] = byteVs (w.b ++ (beL m n).take (i + 1)) := by rw [← eL]; simp [byteVs]
    rw [ev, el] at ho6
    rw [el] at hb6 ⊢
    obtain ⟨_, k2, k3⟩ := W2.put ho6 ⟨hg6, hb6⟩
    refine ⟨p, 0, rfl, rfl, k2, fun h7 e7 => ?_⟩
    obtain ⟨k4, k5⟩ := k3 h7 e7
    refine ⟨((m : Int) - 1 - (i + 1 : Nat)), by rw [wrapI64] <;> omega, ⟨i + 1, hc, rfl, y2.grow k4, k5.more (fun b hb => ?_) (GrowB.lt W.lt (y2.grow k4).size)⟩, by simp only [numAt]; omega⟩
    have := y2.size
    rcases hb with (hb | hb) | hb
    · exact .inl hb
    · exact .inr ⟨hb.1, by have := k4.size; omega⟩
    · exact .inr ⟨by omega, hb.2⟩
  · have hc : i = m := by have := of_decide_eq_false hc; omega
    subst hc
    rw [List.take_of_length_le (by rw [beL_length]; exact Nat.le_refl _)] at W2
    exact ⟨y2, W2, rfl⟩

theorem wfixed_nil (n : Nat) (k : Int) : CallsH Tryz.prog 65 #[.pointer none, vU n, vZ k] h fun e h' => h' = h ∧ e = .returned (.tuple #[]) := by
  refine V65 _ _ _ h _ (ready_nil.mono ?_)
  rintro e h1 ⟨rfl, rfl⟩
  exact ⟨_, rfl, fun _ => ⟨rfl, rfl⟩, fun h0 => (by cases h0)⟩

/-- pack.Writer.Out -/
theorem wout_c (W : WrAt h B p w) : CallsH Tryz.prog 66 #[vP p] h fun e h' => Ext h h' ∧ e = .returned (.tuple #[.string (tx w.out.1), vZ w.out.2]) := by
  obtain ⟨q, c, W⟩ := W
  refine V66 _ h _ ⟨false, eqv_ptr uPW _, fun hf => (by cases hf), fun _ => ⟨p, 0, rfl, _, cellsAt_one (cellH_at W.cell), fun h0 => ?_, fun h0 => ?_⟩⟩
  · have h0 : w.e ≠ 0 := of_decide_eq_true h0
    refine ⟨p, 0, rfl, _, cellsAt_one (cellH_at W.cell), Ext.refl _, ?_⟩
    unfold Wr.out; rw [if_pos h0]; rfl
  · have h0 : w.e = 0 := by have := of_decide_eq_false h0; omega
    have sg : Seg h q w.b.length (byteVs (tx w.b).data.toList) := by
      rw [show (tx w.b).data.toList = w.b from bl_tx _]; exact W.row.seg
    refine ⟨p, 0, rfl, _, _, _, cellsAt_one (cellH_at W.cell), semH_toText uBs uB uStr sg ⟨_, rfl, Ext.refl _, ?_⟩⟩
    unfold Wr.out; rw [if_neg (by simpa using h0)]

theorem wout_nil : CallsH Tryz.prog 66 #[.pointer none] h fun e h' => h' = h ∧ e = .returned (.tuple #[.string ⟨#[]⟩, vZ 1]) :=
  V66 _ h _ ⟨true, eqv_nil uPW, fun _ => ⟨rfl, rfl⟩, fun hf => by cases hf⟩

end

end Go.Vc

/- The packer's reader: contracts. -/
namespace Go.Vc
open Go Go.Proofs

theorem zerosNum : zeros Tryz.prog 3 = #[vZ 0] := by kernel_rfl
theorem infoNum : ∃ i z, Tryz.prog.info? 3 = some i ∧ i.zero = some z := by
  have : ((Tryz.prog.info? 3).bind (·.zero)).isSome = true := by kernel_rfl
  obtain ⟨z, hz⟩ := Option.isSome_iff_exists.1 this
  obtain ⟨i, hi, hz⟩ := Option.bind_eq_some_iff.1 hz
  exact ⟨i, z, hi, hz⟩

abbrev P1 (p : Nat) : Nat → Prop := fun x => x = p
/-- What a reader gives up with. -/
abbrev gone (c : Int) : List PanicEntry := [{ v := .iface 27 (vZ c), recovered := false }]
abbrev seen (c : Int) : List PanicEntry := [{ v := .iface 27 (vZ c), recovered := true }]

/-- At 'p' lies a reader. -/
structure RdAt (h : Hp) (p : Nat) (r : Rd) : Prop where
  cell : h[p]? = some (.cells #[.string (tx r.b), vI r.at_, vZ r.e, vI r.place] 153)
  ok : r.Ok

section
variable {h h' : Hp} {p : Nat} {r : Rd}

theorem RdAt.lt (R : RdAt h p r) : p < h.size := (Array.getElem?_eq_some_iff.1 R.cell).1
theorem RdAt.ext (R : RdAt h p r) (x : Ext h h') : RdAt h' p r := ⟨(x.old p R.lt).trans R.cell, R.ok⟩
theorem RdAt.other {C : Nat → Prop} (R : RdAt h p r) (x : Same C h h') (hC : ¬ C p) : RdAt h' p r := ⟨(x.old p R.lt hC).trans R.cell, R.ok⟩
theorem RdAt.wr (R : RdAt h p r) {k : Nat} (hk : k < 4) : wrAt h p (0 + k) 1 := wrAt_of R.cell (show 0 + k + 1 ≤ 4 by omega) (.inl (Nat.zero_le _))

theorem Rd.left_length (r : Rd) : r.left.length = r.b.length - r.at_ := by unfold Rd.left; rw [List.length_drop]
theorem Rd.Ok.to (ok : r.Ok) {k : Nat} (hk : k ≤ r.left.length) : (r.to k).Ok := ⟨by have := r.left_length; have := ok.at_; show r.at_ + k ≤ r.b.length; omega, ok.max, ok.place⟩
theorem Rd.Ok.bad (ok : r.Ok) (c : Int) : (r.bad c).Ok := ⟨ok.at_, ok.max, ok.at_⟩

/-- pack.Open -/
theorem ropen_c (s : ByteArray) (hs : s.size ≤ 9223372036854775807) (h : Hp) : CallsH Tryz.prog 86 #[.string s] h fun e h' => Ext h h' ∧ RdAt h' h.size (Rd.open (bl s)) ∧ e = .returned (vP h.size) := by
  refine V86 _ h _ ?_
  intro b h1 hb e1
  subst hb
  refine ⟨by rw [e1]; exact Ext.push _ _, ⟨?_, ⟨Nat.zero_le _, by show (bl s).length ≤ _; rw [bl_length]; exact hs, Nat.zero_le _⟩⟩, rfl⟩
  rw [e1, push_last]
  have : tx (bl s) = s := bl_inj (bl_tx _)
  show some _ = some (Obj.cells #[.string (tx (bl s)), vI 0, vZ 0, vI 0] 153 _)
  rw [this]; rfl

theorem begin_c (R : RdAt h p r) : CallsH Tryz.prog 98 #[vP p] h fun e h' => h' = h ∧ e = .returned (.bool (decide (r.e = 0))) :=
  V98 _ h _ ⟨_, ⟨false, eqv_ptr uPR _, fun _ => ⟨p, 0, rfl, _, cellsAt_one (cellH_at R.cell), rfl, rfl⟩, fun hf => by simp at hf⟩, rfl, rfl⟩

theorem begin_nil : CallsH Tryz.prog 98 #[.pointer none] h fun e h' => h' = h ∧ e = .returned (.bool false) :=
  V98 _ h _ ⟨_, ⟨true, eqv_nil uPR, fun hf => (by simp at hf), fun _ => ⟨rfl, rfl⟩⟩, rfl, rfl⟩

/-- pack.Reader.take -/
theorem take_c (R : RdAt h p r) (n : Nat) (hn : n < 18446744073709551616) : CallsH Tryz.prog 101 #[vP p, vU n] h fun e h' =>
    (n ≤ r.left.length ∧ e = .returned (.string (tx (r.left.take n))) ∧ Same (P1 p) h h' ∧ RdAt h' p (r.to n)) ∨ (r.left.length < n ∧ e = .panicked (gone 3) ∧ h' = h) := by
  have o1 := R.ok.at_
  have o2 := R.ok.max
  have ll := r.left_length
  have sz : (tx r.b).size = r.b.length := tx_size _
  refine V101 _ _ h _ ⟨fun _ hr => hr = h ∧ n ≤ r.left.length, ⟨p, 0, rfl, _, cellsAt_one (cellH_at R.cell), p, 0, rfl, _, cellsAt_one (cellH_at R.cell), ((r.left.length : Nat) : Int), by rw [sz, wrapI64] <;> omega, ((r.left.length : Nat) : Int), by rw [wrapU64]; omega, fun hc => ?_, fun hc => ?_⟩, ?_⟩
  · have hc := of_decide_eq_true hc
    exact .inr ⟨by omega, rfl, rfl⟩
  · have hc := of_decide_eq_false hc
    exact ⟨rfl, by omega⟩
  · rintro hq ⟨rfl, hle⟩
    refine ⟨p, 0, rfl, _, cellsAt_one (cellH_at R.cell), p, 0, rfl, _, cellsAt_one (cellH_at R.cell), p, 0, rfl, _, cellsAt_one (cellH_at R.cell), (n : Int), by rw [wrapI64] <;> omega, ((r.at_ + n : Nat) : Int), by rw [wrapI64] <;> omega, r.at_, rfl, r.at_ + n, rfl, by omega, by omega, _, rfl,
      p, 0, rfl, _, cellsAt_one (cellH_at R.cell), (n : Int), by rw [wrapI64] <;> omega, ((r.at_ + n : Nat) : Int), by rw [wrapI64] <;> omega, p, 0, rfl, rfl, R.wr (k := 1) (by decide), ?_⟩
    rintro h1 rfl
    refine .inl ⟨hle, ?_, setsH_same rfl, ?_, R.ok.to hle⟩
    · congr 2
      apply bl_inj
      rw [bl_extract, bl_tx, bl_tx, Nat.add_sub_cancel_left]
      rfl
    · rw [setsH_at R.cell]; rfl

/-- pack.Reader.caught -/
theorem caught_ok (p : Nat) (f : Nat) : CallsH Tryz.prog 100 #[vP p, vI f, .nilIface] h fun e h' => h' = h ∧ e = .returned (.tuple #[]) :=
  V100n _ _ h _ ⟨fun hf => (by cases hf), fun _ => ⟨rfl, rfl⟩⟩

theorem caught_bad (R : RdAt h p r) (c : Int) (f : Nat) (hf : f ≤ r.b.length) : CallsH Tryz.prog 100 #[vP p, vI f, .iface 27 (vZ c)] h fun e h' => Same (P1 p) h h' ∧ RdAt h' p ⟨r.b, f, c, f⟩ ∧ e = .returned (.tuple #[]) := by
  refine V100p _ _ c h _ ⟨fun _ => ?_, fun hf => (by cases hf)⟩
  refine ⟨p, 0, rfl, rfl, R.wr (k := 2) (by decide), ?_⟩
  intro h1 e1
  have c1 : h1[p]? = some (.cells #[.string (tx r.b), vI r.at_, vZ c, vI r.place] 153) := by rw [e1, setsH_at R.cell]; rfl
  refine ⟨p, 0, rfl, rfl, wrAt_of c1 (by show 0 + 1 + 1 ≤ 4; decide) (.inl (Nat.zero_le _)), ?_⟩
  intro h2 e2
  have c2 : h2[p]? = some (.cells #[.string (tx r.b), vI f, vZ c, vI r.place] 153) := by rw [e2, setsH_at c1]; rfl
  refine ⟨p, 0, rfl, rfl, wrAt_of c2 (by show 0 + 3 + 1 ≤ 4; decide) (.inl (Nat.zero_le _)), ?_⟩
  intro h3 e3
  have c3 : h3[p]? = some (.cells #[.string (tx r.b), vI f, vZ c, vI f] 153) := by rw [e3, setsH_at c2]; rfl
  refine ⟨?_, ⟨c3, ⟨hf, R.ok.max, hf⟩⟩, rfl⟩
  rw [e3, e2, e1]
  exact ((setsH_same (B := P1 p) rfl).trans (setsH_same (B := P1 p) rfl) fun _ h _ => h).trans (setsH_same (B := P1 p) rfl) fun _ h _ => h

/-- A closure that hands on what is caught. -/
def Catches (F : FuncId) : Prop := ∀ (a0 a1 : Option Addr) (X : Value) (u u' : FrameMode), recU u = (X, u') → ∀ (h : Hp) (K : FrameMode → Hp → Prop),
  (∃ b_ o_, a0 = some ⟨b_, o_, none⟩ ∧ ∃ x_ : Option Addr, cellsAt h b_ o_ [(Value.pointer x_)] ∧ ∃ b_1 o_1, a1 = some ⟨b_1, o_1, none⟩ ∧ ∃ y_ : Int, cellsAt h b_1 o_1 [(Value.int .i64 y_)] ∧
    CallsH Tryz.prog 100 #[(Value.pointer x_), (Value.int .i64 y_), X] h fun en_ hp_ => en_ = .returned (Value.tuple #[]) ∧ K u' hp_) → DefH Tryz.prog F #[(Value.pointer a0), (Value.pointer a1)] u h K

variable {F : FuncId} {a b f : Nat} {t t' : TypeId}

theorem catch_ok (C : Catches F) (ha : h[a]? = some (.cells #[vP p] t)) (hb : h[b]? = some (.cells #[vI f] t')) {K : FrameMode → Hp → Prop} (hK : K .returning h) : DefH Tryz.prog F #[vP a, vP b] .returning h K := by
  refine C _ _ .nilIface .returning .returning rfl h K ⟨a, 0, rfl, _, cellsAt_one (cellH_at ha), b, 0, rfl, _, cellsAt_one (cellH_at hb), (caught_ok p f).mono ?_⟩
  rintro e h1 ⟨rfl, rfl⟩
  exact ⟨rfl, hK⟩

theorem catch_bad (C : Catches F) (ha : h[a]? = some (.cells #[vP p] t)) (hb : h[b]? = some (.cells #[vI f] t')) (R : RdAt h p r) (hf : f ≤ r.b.length) (c : Int) {K : FrameMode → Hp → Prop}
    (hK : ∀ h', Same (P1 p) h h' → RdAt h' p ⟨r.b, f, c, f⟩ → K (.panicking (seen c)) h') : DefH Tryz.prog F #[vP a, vP b] (.panicking (gone c)) h K := by
  refine C _ _ (.iface 27 (vZ c)) (.panicking (gone c)) (.panicking (seen c)) rfl h K ⟨a, 0, rfl, _, cellsAt_one (cellH_at ha), b, 0, rfl, _, cellsAt_one (cellH_at hb), (caught_bad R c f hf).mono ?_⟩
  rintro e h1 ⟨y1, R1, rfl⟩
  exact ⟨rfl, hK h1 y1 R1⟩

theorem num_set {x : Int} (c : h[b]? = some (.cells #[vZ x] t)) (y : Int) : (Value.int .i64 y).oneCell' = true ∧ wrAt h b 0 1 ∧ (setsH h b 0 [vZ y])[b]? = some (.cells #[vZ y] t) :=
  ⟨rfl, wrAt_of c (by show 0 + 1 ≤ 1; decide) (.inl (Nat.zero_le _)), setsH_at c⟩

theorem catF : Catches 99 := fun a0 a1 X u u' hx h K H => V99 a0 a1 X u u' hx h K H

theorem and127 (c : UInt8) : andI .u8 (c.toNat : Int) 127 = ((c.toNat % 128 : Nat) : Int) := by
  have key : ∀ x : Fin 256, andI .u8 ((x.val : Nat) : Int) 127 = ((x.val % 128 : Nat) : Int) := by decide +kernel
  exact key ⟨c.toNat, c.toNat_lt⟩

/-- Eight bits more. -/
theorem more8 {n : Nat} (hn : n < 2 ^ 56) (c : UInt8) : n * 2 ^ 8 % 18446744073709551616 ||| c.toNat = 256 * n + c.toNat := by
  have h8 : c.toNat < 2 ^ 8 := c.toNat_lt
  rw [show n * 2 ^ 8 % 18446744073709551616 = 2 ^ 8 * n by omega, Nat.or_comm, or_low h8]

/-- pack.Reader.Fixed -/
theorem rfixed_c (R : RdAt h p r) (k : Int) (hk1 : k ≤ 9223372036854775807) : CallsH Tryz.prog 87 #[vP p, vZ k] h fun e h' => Same (P1 p) h h' ∧ RdAt h' p (r.fixed k).2 ∧ e = .returned (vU (r.fixed k).1) := by
  refine V87 _ _ h _ ?_
  intro a h1 ha e1
  have x1 : Ext h h1 := by rw [e1]; exact Ext.push _ _
  have ca1 : h1[a]? = some (.cells #[vP p] 142) := by rw [e1, ha]; exact push_last
  have s1 : h1.size = h.size + 1 := by rw [e1]; simp
  clear e1
  refine ⟨_, cellsAt_one (cellH_at ca1), (begin_c (R.ext x1)).mono ?_⟩
  rintro e h1 ⟨rfl, rfl⟩
  refine ⟨_, rfl, fun h0 => ?_, fun h0 => ?_⟩
  · have h0 : r.e ≠ 0 := by simpa using h0
    have e0 : r.fixed k = (0, r) := by unfold Rd.fixed; rw [if_pos h0]
    rw [e0]
    exact ⟨x1.same _, R.ext x1, rfl⟩
  have h0 : r.e = 0 := by simpa using h0
  refine ⟨_, cellsAt_one (cellH_at ca1), p, 0, rfl, _, cellsAt_one (cellH_at (R.ext x1).cell), ?_⟩
  intro b h2 hb e2
  have x2 : Ext h1 h2 := by rw [e2]; exact Ext.push _ _
  have cb2 : h2[b]? = some (.cells #[vZ 0] 3) := by rw [e2, hb, zerosNum]; exact push_last
  clear e2
  obtain ⟨q1, q2, q3⟩ := num_set cb2 (r.at_ : Int)
  refine ⟨infoNum, q1, q2, ?_⟩
  intro h3 e3
  have cb3 : h3[b]? = some (.cells #[vI r.at_] 3) := by rw [e3]; exact q3
  have ca3 : h3[a]? = some (.cells #[vP p] 142) := by rw [e3]; exact (setsH_ne (by omega)).trans ((x2.old a (by omega)).trans ca1)
  have x3 : Ext h h3 := by rw [e3]; exact (x1.trans x2).over (setsH_same (B := fun x => x = b) rfl) fun x hx => by omega
  have R3 : RdAt h3 p r := R.ext x3
  have lp := R.lt
  clear e3
  have fail : ∀ (hq : Hp) (rq : Rd) (c : Int), Same (P1 p) h hq → hq[a]? = some (.cells #[vP p] 142) → hq[b]? = some (.cells #[vI r.at_] 3) → RdAt hq p rq → rq.b = r.b → r.fixed k = (0, r.bad c) →
      DefH Tryz.prog 99 #[vP a, vP b] (.panicking (gone c)) hq fun md hr => settle md = .returning ∧ (Same (P1 p) h hr ∧ RdAt hr p (r.fixed k).2 ∧ Ending.returned (Value.int .u64 (0 : Int)) = .returned (vU (r.fixed k).1)) := by
    intro hq rq c y ca cb Rq eb ek
    refine catch_bad catF ca cb Rq (by rw [eb]; exact R.ok.at_) c fun hr yr Rr => ⟨rfl, y.trans yr fun _ h _ => h, ?_, by rw [ek]; rfl⟩
    rw [ek]
    have : (⟨rq.b, r.at_, c, r.at_⟩ : Rd) = r.bad c := by rw [eb]; rfl
    rw [← this]
    exact Rr
  refine ⟨fun _ hr => hr = h3 ∧ ¬ (k < 1 ∨ 8 < k), ⟨decide (k < 1 ∨ 8 < k), ⟨fun g => ⟨rfl, ?_⟩, fun g => ⟨rfl, ?_⟩⟩, fun hB => ?_, fun hB => ⟨rfl, of_decide_eq_false hB⟩⟩, ?_⟩
  · have g := of_decide_eq_true g; simp [g]
  · have g := of_decide_eq_false g
    apply decide_eq_decide.2; omega
  · have hB := of_decide_eq_true hB
    refine fail h3 r 1 (x3.same _) ca3 cb3 R3 rfl ?_
    unfold Rd.fixed; rw [if_neg (by simpa using h0), if_pos hB]
  rintro h3' ⟨rfl, hB⟩
  obtain ⟨m, rfl⟩ := Int.eq_ofNat_of_zero_le (show 0 ≤ k by omega)
  refine ⟨_, cellsAt_one (cellH_at ca3), (m : Int), by rw [wrapU64]; omega, (take_c R3 m (by omega)).mono ?_⟩
  rintro e h4 (⟨hle, rfl, y4, R4⟩ | ⟨hlt, rfl, rfl⟩)
  · obtain ⟨L, hL⟩ : ∃ L, L = r.left.take m := ⟨_, rfl⟩
    have hLl : L.length = m := by rw [hL, List.length_take]; omega
    rw [← hL]
    have sz : (tx L).size = m := by rw [tx_size, hLl]
    have la := (Array.getElem?_eq_some_iff.1 ca3).1
    have lb := (Array.getElem?_eq_some_iff.1 cb3).1
    have ca4 := (y4.old a la (by show ¬ a = p; omega)).trans ca3
    have cb4 := (y4.old b lb (by show ¬ b = p; omega)).trans cb3
    have y04 : Same (P1 p) h h4 := (x3.same _).trans y4 fun _ h _ => h
    have hlt : ∀ j, numL (L.take j) < 256 ^ (min j m) := fun j => by
      have := numL_lt (L.take j)
      rwa [List.length_take, hLl] at this
    refine .inl ⟨_, rfl, fun l hr => ∃ i : Nat, i ≤ m ∧ l = [vU (numL (L.take i)), vI i] ∧ hr = h4, fun l _ => (m - numAt l 1).toNat, ⟨0, Nat.zero_le _, rfl, rfl⟩, ?_⟩
    rintro n iv h5 ⟨i, hi, hl, rfl⟩
    cases hl
    refine ⟨fun hc => ?_, fun hc => ?_⟩
    · have hc : i < m := by have := of_decide_eq_true hc; omega
      have hA : numL (L.take i) < 2 ^ 56 := by
        have := hlt i
        rw [Nat.min_eq_left hi] at this
        exact Nat.lt_of_lt_of_le this (by rw [show (2 : Nat) ^ 56 = 256 ^ 7 from rfl]; exact Nat.pow_le_pow_right (by decide) (by omega))
      have h8 : (L[i]'(by omega)).toNat < 256 := (L[i]'(by omega)).toNat_lt
      refine ⟨by decide, _, shl64n (n := 8) (by decide), by omega, L[i]'(by omega), ?_, ((L[i]'(by omega)).toNat : Int), by rw [wrapU64]; omega, _, or64n (Nat.mod_lt _ (by decide)) (by omega), _, incI (by omega), ⟨i + 1, hc, ?_, rfl⟩, by simp only [numAt]; omega⟩
      · rw [Int.toNat_natCast, byteD (by omega), bl_tx, List.getD_eq_getElem?_getD, List.getElem?_eq_getElem (by omega)]; rfl
      · rw [more8 hA, numL_take (by omega)]
    · have hc : i = m := by have := of_decide_eq_false hc; omega
      have ek : r.fixed (m : Int) = (numL L, r.to m) := by
        unfold Rd.fixed
        rw [if_neg (by simpa using h0), if_neg hB, if_neg (by omega), Int.toNat_natCast, hL]
      rw [hc, List.take_of_length_le (by omega)]
      refine catch_ok catF ca4 cb4 ⟨rfl, y04, ?_, by rw [ek]⟩
      rw [ek]; exact R4
  · refine .inr ⟨_, rfl, fail _ r 3 (x3.same _) ca3 cb3 R3 rfl ?_⟩
    unfold Rd.fixed; rw [if_neg (by simpa using h0), if_neg hB, if_pos (by omega)]

theorem rfixed_nil (k : Int) : CallsH Tryz.prog 87 #[.pointer none, vZ k] h fun e h' => Ext h h' ∧ e = .returned (vU 0) := by
  refine V87 _ _ h _ ?_
  intro a h1 ha e1
  have x1 : Ext h h1 := by rw [e1]; exact Ext.push _ _
  have ca1 : h1[a]? = some (.cells #[.pointer none] 142) := by rw [e1, ha]; exact push_last
  clear e1
  refine ⟨_, cellsAt_one (cellH_at ca1), begin_nil.mono ?_⟩
  rintro e h1 ⟨rfl, rfl⟩
  exact ⟨_, rfl, fun _ => ⟨x1, rfl⟩, fun hf => by cases hf⟩

end

end Go.Vc

