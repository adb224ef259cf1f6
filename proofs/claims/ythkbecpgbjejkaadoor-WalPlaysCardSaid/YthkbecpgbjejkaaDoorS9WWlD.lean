/- The log is read: a body's pieces. -/
import Derived.Test.YthkbecpgbjejkaaDoorS9WWlC
set_option maxRecDepth 10000
namespace Go.Vc
open Go Go.Proofs Go.MapKept

theorem setO_at {h : Hp} {b : Nat} {o : Obj} (hb : b < h.size) : (setO h b o)[b]? = some o := by
  unfold setO; rw [Array.getElem?_setIfInBounds_self]; simp [hb]
theorem setO_ne {h : Hp} {b c : Nat} {o : Obj} (hc : c ≠ b) : (setO h b o)[c]? = h[c]? := by
  unfold setO; rw [Array.getElem?_setIfInBounds_ne (Ne.symm hc)]
theorem setO_size {h : Hp} {b : Nat} {o : Obj} : (setO h b o).size = h.size := by unfold setO; simp

theorem shl8i (a : Nat) (ha : a < 256) : shlI .i64 (a : Int) (8 : Int) = ((256 * a : Nat) : Int) := by
  unfold shlI
  rw [show min (8 : Int).toNat IntKind.i64.bits = 8 from by decide]
  rw [show (a : Int) * 2 ^ 8 = ((256 * a : Nat) : Int) by push_cast; omega]
  exact wrapI64 (by omega) (by omega)
theorem or8i (a : Nat) (c : UInt8) (ha : a < 256) : orI .i64 ((256 * a : Nat) : Int) (c.toNat : Int) = ((256 * a + c.toNat : Nat) : Int) := by
  have hc := c.toNat_lt
  have h := or8 a c (by omega)
  unfold orI at h ⊢
  rw [show IntKind.u64.bits = 64 from rfl] at h
  rw [show IntKind.i64.bits = 64 from rfl]
  generalize BitVec.ofInt 64 ((256 * a : Nat) : Int) ||| BitVec.ofInt 64 (c.toNat : Int) = x at h ⊢
  have hx := x.isLt
  rw [wrapU64] at h
  have e : (x.toNat : Int) = ((256 * a + c.toNat : Nat) : Int) := by omega
  rw [e]; exact wrapI64 (by omega) (by omega)

/-! ## The rounds -/

structure Aw (E S D L b : Nat) : Prop where
  e : b ≠ E
  s : b ≠ S
  d : b ≠ D
  l : b ≠ L

/-- Where the parts lie. -/
structure Plc (h : Hp) (E N S D L : Nat) (p0 : Option Addr) (n0 c0 : Nat) : Prop where
  e : h.size ≤ E
  n : h.size ≤ N
  s : h.size ≤ S
  d : h.size ≤ D
  l : h.size ≤ L
  aN : Aw E S D L N
  es : E ≠ S
  ed : E ≠ D
  el : E ≠ L
  sd : S ≠ D
  sl : S ≠ L
  dl : D ≠ L
  row : ∀ b, (Value.slice p0 n0 c0).ownBlock = some b → b < h.size

structure RSt (h : Hp) (oR : Obj) (E N S D L : Nat) (p0 : Option Addr) (n0 c0 : Nat) (xs0 : List Value) (hq : Hp) (M : Rd) (s : ByteArray) (p' : Option Addr) (c' : Nat) (q' : Option Addr) (k' : Nat) : Prop where
  y : Same (fun b => (Value.slice p0 n0 c0).ownBlock = some b) h hq
  cE : hq[E]? = some (.cells #[.nilIface] 98)
  cS : hq[S]? = some (.cells #[.string s] 9)
  cD : hq[D]? = some (.deferred (some []))
  cL : hq[L]? = some oR
  W : RdX hq N M p' c' q' k'
  held : Held hq p0 n0 c0 xs0 p' M.recs.length c' (M.recs.map Value.string)
  bp : ∀ b, (Value.slice p' M.recs.length c').ownBlock = some b → (Value.slice p0 n0 c0).ownBlock = some b ∨ (h.size ≤ b ∧ Aw E S D L b)
  bq : ∀ b, (Value.slice q' M.half.length k').ownBlock = some b → h.size ≤ b ∧ Aw E S D L b

structure Bad (h : Hp) (oX : Obj) (E D L : Nat) (p0 : Option Addr) (n0 c0 : Nat) (xs0 : List Value) (a : Addr) (hq : Hp) : Prop where
  y : Same (fun b => (Value.slice p0 n0 c0).ownBlock = some b) h hq
  cE : hq[E]? = some (.cells #[errV a] 98)
  cD : hq[D]? = some (.deferred (some []))
  cL : hq[L]? = some oX
  own : Own hq 0 9 1 (.slice p0 n0 c0) n0 xs0

section
variable {h hq hs : Hp} {oR oX o : Obj} {E N S D L : Nat} {p0 : Option Addr} {n0 c0 : Nat} {xs0 : List Value} {M : Rd} {s t : ByteArray} {p' : Option Addr} {c' : Nat} {q' : Option Addr} {k' : Nat} {a0 a1 a : Addr}

theorem RSt.lt (T : RSt h oR E N S D L p0 n0 c0 xs0 hq M s p' c' q' k') : E < hq.size ∧ S < hq.size ∧ D < hq.size ∧ L < hq.size :=
  ⟨(Array.getElem?_eq_some_iff.1 T.cE).1, (Array.getElem?_eq_some_iff.1 T.cS).1, (Array.getElem?_eq_some_iff.1 T.cD).1, (Array.getElem?_eq_some_iff.1 T.cL).1⟩

theorem RSt.ext (T : RSt h oR E N S D L p0 n0 c0 xs0 hq M s p' c' q' k') (x : Ext hq hs) : RSt h oR E N S D L p0 n0 c0 xs0 hs M s p' c' q' k' := by
  obtain ⟨l1, l2, l3, l4⟩ := T.lt
  refine ⟨T.y.trans (x.same NoB) fun _ h _ => h.elim, (x.old _ l1).trans T.cE, (x.old _ l2).trans T.cS, (x.old _ l3).trans T.cD, (x.old _ l4).trans T.cL, T.W.ext x, ?_, T.bp, T.bq⟩
  refine T.held.keep fun b hb _ => x.old b ?_
  exact ((T.held.own T.W.recs).lt hb).2

theorem RSt.setS (T : RSt h oR E N S D L p0 n0 c0 xs0 hq M s p' c' q' k') (F : Plc h E N S D L p0 n0 c0) : RSt h oR E N S D L p0 n0 c0 xs0 (setsH hq S 0 [.string t]) M t p' c' q' k' := by
  have kk : ∀ b, b ≠ S → (setsH hq S 0 [.string t])[b]? = hq[b]? := fun b hb => setsH_ne hb
  have fs := F.s
  refine ⟨T.y.trans (setsH_same (B := fun x => x = S) rfl) fun x hx hl => by omega, (kk _ F.es).trans T.cE, ?_, (kk _ (Ne.symm F.sd)).trans T.cD, (kk _ (Ne.symm F.sl)).trans T.cL, T.W.keep fun b hb => kk b ?_, T.held.keep fun b hb _ => kk b fun e => by have := F.row b hb; omega, T.bp, T.bq⟩
  · rw [setsH_at T.cS]; rfl
  · rcases hb with rfl | hb | hb
    · exact F.aN.s
    · rcases T.bp b hb with hb | hb
      · have := F.row b hb; omega
      · exact hb.2.s
    · exact (T.bq b hb).2.s

/-- The loop's own mark is another one. -/
theorem RSt.mark (T : RSt h oR E N S D L p0 n0 c0 xs0 hq M s p' c' q' k') (F : Plc h E N S D L p0 n0 c0) : RSt h o E N S D L p0 n0 c0 xs0 (setO hq L o) M s p' c' q' k' := by
  have kk : ∀ b, b ≠ L → (setO hq L o)[b]? = hq[b]? := fun b hb => setO_ne hb
  have fl := F.l
  refine ⟨⟨by rw [setO_size]; exact T.y.size, fun b hb hn => (kk b (by omega)).trans (T.y.old b hb hn)⟩, (kk _ F.el).trans T.cE, (kk _ F.sl).trans T.cS, (kk _ F.dl).trans T.cD, setO_at T.lt.2.2.2, T.W.keep fun b hb => kk b ?_, T.held.keep fun b hb _ => kk b fun e => by have := F.row b hb; omega, T.bp, T.bq⟩
  rcases hb with rfl | hb | hb
  · exact F.aN.l
  · rcases T.bp b hb with hb | hb
    · have := F.row b hb; omega
    · exact hb.2.l
  · exact (T.bq b hb).2.l

/-- It ends with an error. -/
theorem RSt.fail (T : RSt h oR E N S D L p0 n0 c0 xs0 hq M s p' c' q' k') (F : Plc h E N S D L p0 n0 c0) (y : Same (fun b => b = N) hq hs) : Bad h oX E D L p0 n0 c0 xs0 a (setO (setsH hs E 0 [errV a]) L oX) := by
  obtain ⟨l1, l2, l3, l4⟩ := T.lt
  have fe := F.e
  have fl := F.l
  have fn := F.n
  have hsz := y.size
  have hy := T.y.size
  have kk : ∀ b, b < hq.size → b ≠ E → b ≠ L → b ≠ N → (setO (setsH hs E 0 [errV a]) L oX)[b]? = hq[b]? := fun b hb h1 h2 h3 => (setO_ne h2).trans ((setsH_ne h1).trans (y.old b hb h3))
  have cE : hs[E]? = some (.cells #[.nilIface] 98) := (y.old E l1 (Ne.symm F.aN.e)).trans T.cE
  refine ⟨⟨by rw [setO_size, setsH_size]; omega, fun b hb hn => (kk b (by omega) (by omega) (by omega) (by omega)).trans (T.y.old b hb hn)⟩, ?_, (kk D l3 (Ne.symm F.ed) F.dl (Ne.symm F.aN.d)).trans T.cD, setO_at (by rw [setsH_size]; omega), ?_⟩
  · rw [setO_ne F.el, setsH_at cE]; rfl
  · refine (T.held.own T.W.recs).keep fun b hb => ?_
    have := F.row b hb
    exact kk b (by omega) (by omega) (by omega) (by omega)

theorem RSt.errs (T : RSt h oR E N S D L p0 n0 c0 xs0 hq M s p' c' q' k') (F : Errs h a0 a1) (hE : ∀ b, (b = 0 ∨ b = 1 ∨ b = a0.block ∨ b = a1.block) → (Value.slice p0 n0 c0).ownBlock ≠ some b) : Errs hq a0 a1 :=
  F.keep fun b _ e hb => (T.y.old b (Array.getElem?_eq_some_iff.1 e).1 (hE b hb)).trans e

theorem infoErrI : ∃ i z, Tryd.prog.info? 98 = some i ∧ i.zero = some z := by
  have : ((Tryd.prog.info? 98).bind (·.zero)).isSome = true := by kernel_rfl
  obtain ⟨z, hz⟩ := Option.isSome_iff_exists.1 this
  obtain ⟨i, hi, hz⟩ := Option.bind_eq_some_iff.1 hz
  exact ⟨i, z, hi, hz⟩
theorem infoRead : ∃ i z, Tryd.prog.info? 92 = some i ∧ i.zero = some z := by
  have : ((Tryd.prog.info? 92).bind (·.zero)).isSome = true := by kernel_rfl
  obtain ⟨z, hz⟩ := Option.isSome_iff_exists.1 this
  obtain ⟨i, hi, hz⟩ := Option.bind_eq_some_iff.1 hz
  exact ⟨i, z, hi, hz⟩
theorem infoPiece : ∃ i z, Tryd.prog.info? 132 = some i ∧ i.zero = some z := by
  have : ((Tryd.prog.info? 132).bind (·.zero)).isSome = true := by kernel_rfl
  obtain ⟨z, hz⟩ := Option.isSome_iff_exists.1 this
  obtain ⟨i, hi, hz⟩ := Option.bind_eq_some_iff.1 hz
  exact ⟨i, z, hi, hz⟩
theorem zerosErrI : zeros Tryd.prog 98 = #[.nilIface] := by kernel_rfl
theorem zerosRead : zeros Tryd.prog 92 = #[.slice none 0 0, .slice none 0 0, .bool false] := by kernel_rfl
theorem zerosPiece : zeros Tryd.prog 132 = #[.int .u8 0, .string ⟨#[]⟩, .bool false] := by kernel_rfl

/-- A new block, set whole. -/
theorem new_set {h h1 h2 : Hp} {b : Nat} {t : TypeId} {zs vs : List Value} (hb : b = h.size) (e1 : h1 = h.push (.cells zs.toArray t)) (hl : vs.length = zs.length) (e2 : h2 = setsH h1 b 0 vs) : Ext h h2 ∧ h2[b]? = some (.cells vs.toArray t) ∧ h2.size = h.size + 1 := by
  have c : h1[b]? = some (.cells zs.toArray t) := by rw [e1, hb]; exact push_last
  have x : Ext h h1 := by rw [e1]; exact Ext.push _ _
  refine ⟨?_, ?_, by rw [e2, setsH_size, e1]; simp⟩
  · rw [e2]; exact x.over (setsH_same (B := fun x => x = b) rfl) fun y hy => by omega
  · rw [e2, setsH_at c, layC_all (by simpa using hl)]

theorem wr_new {h h1 : Hp} {b z : Nat} {t : TypeId} {zs : List Value} (hb : b = h.size) (e1 : h1 = h.push (.cells zs.toArray t)) (hz : z = zs.length) : wrAt h1 b 0 z := by
  refine wrAt_of (cs := zs.toArray) (t := t) (lo := 0) (hi := 0) (by rw [e1, hb]; exact push_last) (by simp [hz]) (.inr (.inr (Nat.le_refl _)))

/-- The measure of the rounds. -/
def leftM (S : Nat) (hq : Hp) : Nat := match cellH hq ⟨S, 0, none⟩ with
  | some (.string s) => s.size
  | _ => 0
theorem leftM_at (c : hq[S]? = some (.cells #[.string s] 9)) : leftM S hq = s.size := by
  unfold leftM
  rw [cellH_at c]
  rfl
end

set_option maxHeartbeats 4000000 in
/-- wal.reading.body -/
theorem body_c {h : Hp} {r : Nat} {R : Rd} {p : Option Addr} {c : Nat} {q : Option Addr} {k : Nat} {a0 a1 : Addr} (W : RdX h r R p c q k) (G : Errs h a0 a1) (s : ByteArray) (hs : s.size ≤ 1000000) (hr : R.recs.length + s.size ≤ 1000000000)
    (hE : ∀ b, (b = 0 ∨ b = 1 ∨ b = a0.block ∨ b = a1.block) → b ≠ r ∧ (Value.slice p R.recs.length c).ownBlock ≠ some b) :
    CallsH Tryd.prog 44 #[vP r, .string s] h fun en hs =>
      (bodyF (bl s) R = none ∧ (en = .returned (errV a0) ∨ en = .returned (errV a1)) ∧ RdX hs r R p c q k ∧ Same (fun b => (Value.slice p R.recs.length c).ownBlock = some b) h hs) ∨
      (∃ M p' c' q' k', bodyF (bl s) R = some M ∧ en = .returned .nilIface ∧ RdX hs r M p' c' q' k' ∧ Same (fun b => b = r ∨ (Value.slice p R.recs.length c).ownBlock = some b) h hs ∧
        Into h p R.recs.length c p' M.recs.length c' ∧ ∀ b, (Value.slice q' M.half.length k').ownBlock = some b → h.size ≤ b) := by
  have hhl := W.hl
  have hrl := W.lt
  have hrow : ∀ b, (Value.slice p R.recs.length c).ownBlock = some b → b < h.size := fun b hb => (W.recs.lt hb).2
  have hE0 : ∀ {b}, (b = 0 ∨ b = 1 ∨ b = a0.block ∨ b = a1.block) → b < h.size := fun {b} hb => by
    obtain ⟨⟨_, e0⟩, ⟨_, e1⟩, ⟨_, _, f0⟩, ⟨_, _, f1⟩⟩ := G
    rcases hb with rfl | rfl | rfl | rfl
    · exact (Array.getElem?_eq_some_iff.1 e0).1
    · exact (Array.getElem?_eq_some_iff.1 e1).1
    · exact (Array.getElem?_eq_some_iff.1 f0).1
    · exact (Array.getElem?_eq_some_iff.1 f1).1
  have kr : ∀ {hq : Hp}, Ext h hq → hq[r]? = some (.cells (rdV R p c q k).toArray 92) := fun x => (x.old r hrl).trans W.cell
  have at_ : ∀ {hq : Hp} {i : Nat} {v : Value}, hq[r]? = some (.cells (rdV R p c q k).toArray 92) → (rdV R p c q k)[i]? = some v → cellsAt hq r (0 + i) [v] := fun cc hv => by
    refine cellsAt_one (cellH_at cc |>.trans ?_)
    rw [Nat.zero_add, ← hv]; simp
  refine V44 _ _ h _ ?_
  intro E h1 hEb e1
  rw [zerosErrI] at e1
  have x1 : Ext h h1 := by rw [e1]; exact Ext.push _ _
  have cE1 : h1[E]? = some (.cells #[.nilIface] 98) := by rw [e1, hEb]; exact push_last
  have sz1 : h1.size = h.size + 1 := by rw [e1]; simp
  clear e1
  refine ⟨infoErrI, ⟨fun hq => hq[r]? = some (.cells (rdV R p c q k).toArray 92), kr x1, r, 0, rfl, p, R.recs.length, c, fun _ cc => at_ cc rfl, r, 0, rfl, q, R.half.length, k, fun _ cc => at_ cc rfl, ?_⟩,
    ⟨fun hq => hq[r]? = some (.cells (rdV R p c q k).toArray 92), kr x1, r, 0, rfl, p, R.recs.length, c, fun _ cc => at_ cc rfl, r, 0, rfl, q, R.half.length, k, fun _ cc => at_ cc rfl, ?_⟩⟩
  focus
    refine semH_appendSeg rowB (Own.nil h1 h1.size 5 1) (W.half.ext x1).seg ?_ (by show ((0 + R.half.length) + (0 + R.half.length) / 4 + 192) * 1 ≤ _; omega) (by show 0 + R.half.length ≤ maxLen; simp only [maxLen]; omega) (Nat.le_refl _) fun q2 k2 h2 o2 g2 _ _ => ?_
    · intro v hv; obtain ⟨_, _, rfl⟩ := List.mem_map.1 hv; rfl
    rw [Nat.zero_add, List.nil_append] at o2
    rw [Nat.zero_add]
    have x2 : Ext h1 h2 := (Ext.refl h1).grown g2 fun k hk => (by cases hk)
    refine ⟨kr (x1.trans x2), r, 0, rfl, R.goes, fun _ cc => at_ cc rfl, ?_⟩
    intro N h3 hN e3
    rw [zerosRead] at e3
    refine ⟨infoRead, kr ((x1.trans x2).trans (by rw [e3]; exact Ext.push _ _)), rfl, by simp [Value.oneCell'], wr_new (zs := [_, _, _]) hN e3 rfl, ?_⟩
    intro h4 e4
    obtain ⟨x3, c4, sz4⟩ := new_set (zs := [_, _, _]) hN e3 (by rfl) e4
    have x4 : Ext h1 h4 := x2.trans x3
    have o4 := o2.ext x3
    have lE : E ≠ N := by have := x2.size; omega
    have lN : h.size ≤ N := by have := x2.size; omega
    have lN4 : N < h4.size := by have := x2.size; omega
    clear e3 e4 hN x3 x2 g2 o2 sz4
    refine ⟨kr (x1.trans x4), ?_⟩
  rotate_left
  focus
    intro N h2 hN e2
    rw [zerosRead] at e2
    have x2 : Ext h1 h2 := by rw [e2]; exact Ext.push _ _
    have c2 : h2[N]? = some (.cells [Value.slice none 0 0, .slice none 0 0, .bool false].toArray 92) := by rw [e2, hN]; exact push_last
    have s2 : h2.size = h1.size + 1 := by rw [e2]; simp
    refine ⟨infoRead, kr (x1.trans x2), ?_⟩
    clear e2
    refine semH_appendSeg rowB (Own.nil h2 h1.size 5 1) (W.half.ext (x1.trans x2)).seg ?_ (by show ((0 + R.half.length) + (0 + R.half.length) / 4 + 192) * 1 ≤ _; omega) (by show 0 + R.half.length ≤ maxLen; simp only [maxLen]; omega) (by omega) fun q2 k2 h3 o3 g3 _ _ => ?_
    · intro v hv; obtain ⟨_, _, rfl⟩ := List.mem_map.1 hv; rfl
    rw [Nat.zero_add, List.nil_append] at o3
    rw [Nat.zero_add]
    have x3 : Ext h2 h3 := (Ext.refl h2).grown g3 fun k hk => (by cases hk)
    have c3 := (x3.old N (by omega)).trans c2
    refine ⟨kr ((x1.trans x2).trans x3), r, 0, rfl, R.goes, fun _ cc => at_ cc rfl, rfl, by simp [Value.oneCell'], wrAt_of c3 (by show 0 + 3 ≤ 3; omega) (.inr (.inr (Nat.le_refl _))), ?_⟩
    intro h4 e4
    have x4 : Ext h1 h4 := by rw [e4]; exact (x2.trans x3).over (setsH_same (B := fun x => x = N) rfl) fun x hx => by omega
    have c4 : h4[N]? = some (.cells [Value.slice p R.recs.length c, .slice q2 R.half.length k2, .bool R.goes].toArray 92) := by rw [e4, setsH_at c3, layC_all (by rfl)]
    have hne : ∀ b, (Value.slice q2 R.half.length k2).ownBlock = some b → b ≠ N := by
      rintro b hb rfl
      obtain ⟨cur, hc⟩ := o3.blk hb
      rw [c3] at hc
      cases hc
    have o4 : Own h4 h1.size 5 1 (.slice q2 R.half.length k2) R.half.length (byteVs R.half) := o3.keep fun b hb => by rw [e4]; exact setsH_ne (hne b hb)
    have lE : E ≠ N := by omega
    have lN : h.size ≤ N := by omega
    have lN4 : N < h4.size := by have := x3.size; rw [e4, setsH_size]; omega
    clear e4 hne c3 x3 c2 x2 g3 o3 s2 hN
    refine ⟨kr (x1.trans x4), ?_⟩
  all_goals
    have x04 := x1.trans x4
    have W4 : RdX h4 N R p c q2 k2 := ⟨c4, W.recs.ext x04, o4.rebase fun b hb => Nat.zero_le _, hhl⟩
    refine V71 _ h4 _ ?_
    intro S h5 hS e5
    have x5 : Ext h4 h5 := by rw [e5]; exact Ext.push _ _
    have cS5 : h5[S]? = some (.cells #[.string s] 9) := by rw [e5, hS]; exact push_last
    have s5 : h5.size = h4.size + 1 := by rw [e5]; simp
    clear e5
    refine ⟨_, rfl, 88, #[vP S], rfl, by kernel_rfl, ?_⟩
    intro D L hv oR oB oE oD oX hD hL ev HY
    have xv : Ext h5 hv := by rw [ev]; exact (Ext.push _ _).trans (Ext.push _ _)
    have sv : hv.size = h5.size + 2 := by rw [ev]; simp
    have cDv : hv[D]? = some (.deferred (some [])) := by
      rw [ev, hD, Array.getElem?_push_lt (by simp)]
      simp
    have cLv : hv[L]? = some oR := by
      rw [ev, hL, show h5.size + 1 = (h5.push (.deferred (some []))).size by simp]
      exact push_last
    clear ev
    have l04 := x04.size
    have lE4 : E < h4.size := by have := x4.size; omega
    have F : Plc h E N S D L p R.recs.length c := ⟨by omega, lN, by omega, by omega, by omega, ⟨Ne.symm lE, by omega, by omega, by omega⟩, by omega, by omega, by omega, by omega, by omega, by omega, hrow⟩
    have T0 : RSt h oR E N S D L p R.recs.length c (R.recs.map Value.string) hv R s p c q2 k2 := by
      refine ⟨((x04.trans x5).trans xv).same _, ((x4.trans (x5.trans xv)).old E (by omega)).trans cE1, (xv.old S (by omega)).trans cS5, cDv, cLv, W4.ext (x5.trans xv), (W4.ext (x5.trans xv)).recs.held, fun b hb => .inl hb, fun b hb => ?_⟩
      have := o4.lt hb
      refine ⟨by omega, by omega, by omega, by omega, by omega⟩
    clear x4 x5 xv o4 c4 W4 cS5 cDv cLv x04
    have bad : ∀ {hk : Hp} {M : Rd} {s' : ByteArray} {p' : Option Addr} {c' : Nat} {q' : Option Addr} {k' : Nat} {Rv : Ending → Hp → Prop}, RSt h oR E N S D L p R.recs.length c (R.recs.map Value.string) hk M s' p' c' q' k' →
        (∀ hz, Bad h (oD .ret) E D L p R.recs.length c (R.recs.map Value.string) a0 hz → Rv (.returned (.bool false)) hz) → YieldH Tryd.prog L [.agg #[.int .u8 0, .string ⟨#[]⟩, .bool false], errV a0] hk Rv := by
      intro hk M s' p' c' q' k' Rv T hbad
      refine HY _ _ _ _ _ _ T.cL ?_
      intro b g5 hb e
      rw [zerosPiece] at e
      refine ⟨infoPiece, rfl, by simp [Value.oneCell'], wr_new (zs := [_, _, _]) hb e rfl, ?_⟩
      intro g6 e6
      obtain ⟨x6, _, _⟩ := new_set (zs := [_, _, _]) hb e (by rfl) e6
      have T6 := T.ext x6
      refine ⟨T6.cL, ?_⟩
      rintro g7 rfl
      have T7 := T6.mark (o := oB) F
      refine .inr ⟨⟨_, _, rfl⟩, .inr ⟨⟨_, _, rfl⟩, rfl, wrAt_of T7.cE (by show 0 + 1 ≤ 1; omega) (.inr (.inr (Nat.le_refl _))), ?_⟩⟩
      rintro g8 rfl
      exact ⟨(setsH_ne (Ne.symm F.el)).trans T7.cL, hbad _ (T7.fail F (Same.refl _ _))⟩
    have good : ∀ {hk : Hp} {M : Rd} {s' : ByteArray} {p' : Option Addr} {c' : Nat} {q' : Option Addr} {k' : Nat} (n : UInt8) (t : ByteArray) (e : Bool) {Rv : Ending → Hp → Prop}, RSt h oR E N S D L p R.recs.length c (R.recs.map Value.string) hk M s' p' c' q' k' → M.recs.length ≤ 1000000000 → t.size ≤ 1000000000 →
        (takeR M n.toNat (bl t) e = none → ∀ hz, Bad h (oD .ret) E D L p R.recs.length c (R.recs.map Value.string) a1 hz → Rv (.returned (.bool false)) hz) →
        (∀ M' p'' c'' q'' k'' hz, takeR M n.toNat (bl t) e = some M' → RSt h oR E N S D L p R.recs.length c (R.recs.map Value.string) hz M' s' p'' c'' q'' k'' → Rv (.returned (.bool true)) hz) →
        YieldH Tryd.prog L [.agg #[.int .u8 (n.toNat : Int), .string t, .bool e], .nilIface] hk Rv := by
      intro hk M s' p' c' q' k' n t e Rv T hm ht hbad hgood
      refine HY _ _ _ _ _ _ T.cL ?_
      intro b g5 hb e5
      rw [zerosPiece] at e5
      refine ⟨infoPiece, rfl, by simp [Value.oneCell'], wr_new (zs := [_, _, _]) hb e5 rfl, ?_⟩
      intro g6 e6
      obtain ⟨x6, c6, _⟩ := new_set (zs := [_, _, _]) hb e5 (by rfl) e6
      have T6 := T.ext x6
      refine ⟨T6.cL, ?_⟩
      rintro g7 rfl
      have T7 := T6.mark (o := oB) F
      have c7 : (setO g6 L oB)[b]? = some (.cells [Value.int .u8 (n.toNat : Int), .string t, .bool e].toArray 132) := (setO_ne (by have := T.lt.2.2.2; omega)).trans c6
      refine .inl ⟨rfl, _, _, _, cellsAt_all c7, (take_c T7.W (T7.errs G fun b hb => (hE b hb).2) n t e hm ht fun b hb => by have := hE0 hb; have := F.n; omega).mono ?_⟩
      rintro en g8 (⟨hn, rfl, y8⟩ | ⟨M', p'', c'', q'', k'', hn, rfl, W8, y8, i1, i2, hh⟩)
      · refine ⟨_, rfl, .inr ⟨⟨_, _, rfl⟩, rfl, wrAt_of ((y8.old E T7.lt.1 (Ne.symm F.aN.e)).trans T7.cE) (by show 0 + 1 ≤ 1; omega) (.inr (.inr (Nat.le_refl _))), ?_⟩⟩
        rintro g9 rfl
        exact ⟨(setsH_ne (Ne.symm F.el)).trans ((y8.old L T7.lt.2.2.2 (Ne.symm F.aN.l)).trans T7.cL), hbad hn _ (T7.fail F y8)⟩
      · have n8 : ∀ {x}, x < (setO g6 L oB).size → x ≠ N → ((Value.slice p' M.recs.length c').ownBlock ≠ some x) → ((Value.slice q' M.half.length k').ownBlock ≠ some x) → g8[x]? = (setO g6 L oB)[x]? := fun hx h1 h2 h3 => y8.old _ hx fun ho => ho.elim h1 fun ho => ho.elim h2 h3
        have far : ∀ {x : Nat}, (x = E ∨ x = S ∨ x = D ∨ x = L) → h.size ≤ x → (Value.slice p' M.recs.length c').ownBlock ≠ some x ∧ (Value.slice q' M.half.length k').ownBlock ≠ some x := by
          intro x hx hl
          have na : ¬ Aw E S D L x := fun a => by
            rcases hx with e | e | e | e
            · exact a.e e
            · exact a.s e
            · exact a.d e
            · exact a.l e
          refine ⟨fun e => ?_, fun e => na (T7.bq x e).2⟩
          rcases T7.bp x e with e | e
          · have := F.row x e; omega
          · exact na e.2
        obtain ⟨l1, l2, l3, l4⟩ := T7.lt
        have fE := far (.inl rfl) F.e
        have fS := far (.inr (.inl rfl)) F.s
        have fD := far (.inr (.inr (.inl rfl))) F.d
        have fL := far (.inr (.inr (.inr rfl))) F.l
        have hsz7 : h.size ≤ (setO g6 L oB).size := T7.y.size
        have T8 : RSt h oB E N S D L p R.recs.length c (R.recs.map Value.string) g8 M' s' p'' c'' q'' k'' := by
          refine ⟨T7.y.trans y8 fun x hx hl => ?_, (n8 l1 (Ne.symm F.aN.e) fE.1 fE.2).trans T7.cE, (n8 l2 (Ne.symm F.aN.s) fS.1 fS.2).trans T7.cS, (n8 l3 (Ne.symm F.aN.d) fD.1 fD.2).trans T7.cD, (n8 l4 (Ne.symm F.aN.l) fL.1 fL.2).trans T7.cL, W8, ?_, fun x hx => ?_, fun x hx => ?_⟩
          · rcases hx with rfl | hx | hx
            · have := F.n; omega
            · exact (T7.bp x hx).elim id fun h => by have := h.1; omega
            · have := (T7.bq x hx).1; omega
          · refine hh _ _ _ _ (fun x hx => ?_) T7.held
            have := F.row x hx
            have := F.n
            exact ⟨by omega, by omega, fun e => by have := (T7.bq x e).1; omega⟩
          · rcases i1 x hx with e | e
            · exact T7.bp x e
            · exact .inr ⟨by omega, by omega, by omega, by omega, by omega⟩
          · rcases i2 x hx with e | e
            · exact T7.bq x e
            · exact ⟨by omega, by omega, by omega, by omega, by omega⟩
        exact ⟨_, rfl, .inl ⟨rfl, T8.cL, hgood M' p'' c'' q'' k'' _ hn (T8.mark F)⟩⟩
    have iter : CallsH Tryd.prog 88 #[.func (.yield L) #[] #[], vP S] hv fun en hz => en = .returned (.tuple #[]) ∧
        ((∃ a, (a = a0 ∨ a = a1) ∧ bodyF (bl s) R = none ∧ Bad h (oD .ret) E D L p R.recs.length c (R.recs.map Value.string) a hz) ∨
         (∃ M p' c' q' k', bodyF (bl s) R = some M ∧ RSt h oR E N S D L p R.recs.length c (R.recs.map Value.string) hz M ⟨#[]⟩ p' c' q' k')) := by
      clear HY
      refine V88 _ _ hv _ ⟨S, 0, rfl, s, cellsAt_one (cellH_at T0.cS), fun he => ⟨errV a0, (T0.errs G fun b hb => (hE b hb).2).at0, rfl, bad T0 fun hz B => ⟨_, rfl, rfl, .inl ⟨a0, .inl rfl, ?_, B⟩⟩⟩, fun he => ?_⟩
      · have he : s = ⟨#[]⟩ := of_decide_eq_true he
        rw [he]; rfl
      have hsne : s ≠ ⟨#[]⟩ := of_decide_eq_false he
      refine ⟨fun _ hq => ∃ M s' p' c' q' k', RSt h oR E N S D L p R.recs.length c (R.recs.map Value.string) hq M s' p' c' q' k' ∧ M.recs.length + s'.size ≤ R.recs.length + s.size ∧ s'.size ≤ s.size ∧
        ((s' = ⟨#[]⟩ ∧ bodyF (bl s) R = some M) ∨ (s' ≠ ⟨#[]⟩ ∧ ∃ f, bodyF (bl s) R = bodyR (f + 1) (bl s') M ∧ s'.size ≤ f)), fun _ hq => leftM S hq, ⟨R, s, p, c, q2, k2, T0, Nat.le_refl _, Nat.le_refl _, .inr ⟨hsne, _, rfl, by rw [bl_length]; exact Nat.le_refl _⟩⟩, ?_⟩
      rintro hq ⟨M, s', p', c', q', k', T, hm, hss, hI⟩
      refine ⟨S, 0, rfl, s', cellsAt_one (cellH_at T.cS), fun hne => ?_, fun hne => ?_⟩
      rotate_left
      · have hne : s' = ⟨#[]⟩ := by simpa using hne
        rcases hI with ⟨_, hI⟩ | ⟨hI, _⟩
        · rw [hne] at T
          exact ⟨rfl, .inr ⟨M, p', c', q', k', hI, T⟩⟩
        · exact (hI hne).elim
      have hne : s' ≠ ⟨#[]⟩ := of_decide_eq_true hne
      obtain ⟨f, hrun, hf⟩ : ∃ f, bodyF (bl s) R = bodyR (f + 1) (bl s') M ∧ s'.size ≤ f := by
        rcases hI with ⟨hI, _⟩ | ⟨_, hI⟩
        · exact (hne hI).elim
        · exact hI
      rw [bodyR] at hrun
      have G' := T.errs G fun b hb => (hE b hb).2
      have lbl : (bl s').length = s'.size := bl_length s'
      refine ⟨S, 0, rfl, s', cellsAt_one (cellH_at T.cS), fun h3 => ⟨errV a0, G'.at0, rfl, bad T fun hz B => ⟨_, rfl, rfl, .inl ⟨a0, .inl rfl, ?_, B⟩⟩⟩, fun h3 => ?_⟩
      · have h3 : (s'.size : Int) ≤ 3 := of_decide_eq_true h3
        rw [hrun, if_pos (show badP (bl s') = true from decide_eq_true (.inl (by omega)))]
      have h3 : ¬ (s'.size : Int) ≤ 3 := of_decide_eq_false h3
      have b1 := ((bl s').getD 1 0).toNat_lt
      have b2 := ((bl s').getD 2 0).toNat_lt
      obtain ⟨n, hn⟩ : ∃ n, n = lenP (bl s') := ⟨_, rfl⟩
      have hnl : n < 65536 := by rw [hn]; unfold lenP; omega
      refine ⟨S, 0, rfl, s', cellsAt_one (cellH_at T.cS), by decide, _, byteD (i := 1) (by omega), _, wrapI64 (by omega) (by omega), by decide, _, shl8i _ b1, S, 0, rfl, s', cellsAt_one (cellH_at T.cS), by decide, _, byteD (i := 2) (by omega), _, wrapI64 (by omega) (by omega), (n : Int), ?_, ?_⟩
      · rw [hn]; exact or8i _ _ b1
      have hB0 : badP (bl s') = decide (n = 0 ∨ 488 < n ∨ s'.size - 3 < n) := by
        unfold badP
        rw [← hn, lbl]
        apply decide_eq_decide.2
        constructor
        · rintro (h | h)
          · omega
          · exact h
        · exact .inr
      refine ⟨fun _ h4 => h4 = hq ∧ ¬ (n = 0 ∨ 488 < n ∨ s'.size - 3 < n), ⟨decide (n = 0 ∨ 488 < n ∨ s'.size - 3 < n), ⟨fun z => ⟨rfl, decide_eq_true (.inl (by have := of_decide_eq_true z; omega))⟩, fun z => ⟨fun z2 => ⟨rfl, decide_eq_true (.inr (.inl (by have := of_decide_eq_true z2; omega)))⟩, fun z2 => ⟨S, 0, rfl, s', cellsAt_one (cellH_at T.cS), _, wrapI64 (by omega) (by omega), rfl, ?_⟩⟩⟩, fun hB => ⟨errV a0, G'.at0, rfl, bad T fun hz B => ⟨_, rfl, rfl, .inl ⟨a0, .inl rfl, ?_, B⟩⟩⟩, fun hB => ⟨rfl, of_decide_eq_false hB⟩⟩, ?_⟩
      · have z := of_decide_eq_false z
        have z2 := of_decide_eq_false z2
        apply decide_eq_decide.2
        omega
      · rw [hrun, if_pos (by rw [hB0]; exact hB)]
      rintro h4 ⟨rfl, hok⟩
      have hb0 : badP (bl s') = false := by rw [hB0]; exact decide_eq_false hok
      rw [if_neg (by rw [hb0]; decide)] at hrun
      have hrl := restP_lt hb0
      refine ⟨fun g => g[S]? = some (.cells #[.string s'] 9), T.cS, S, 0, rfl, s', fun g cc => cellsAt_one (cellH_at cc), by decide, _, byteD (i := 0) (by omega), S, 0, rfl, s', fun g cc => cellsAt_one (cellH_at cc), ((3 + n : Nat) : Int), by rw [wrapI64] <;> omega, 3, rfl, 3 + n, rfl, by omega, by omega, _, rfl, ?_⟩
      intro b g5 hb e5
      rw [zerosPiece] at e5
      refine ⟨infoPiece, ?_, rfl, by simp [Value.oneCell'], wr_new (zs := [_, _, _]) hb e5 rfl, ?_⟩
      · rw [e5]; exact ((Ext.push _ _).old S T.lt.2.1).trans T.cS
      intro g6 e6
      obtain ⟨x6, c6, _⟩ := new_set (zs := [_, _, _]) hb e5 (by rfl) e6
      have T6 := T.ext x6
      have hbS : b ≠ S := by have := T.lt.2.1; omega
      refine ⟨S, 0, rfl, s', cellsAt_one (cellH_at T6.cS), ((3 + n : Nat) : Int), by rw [wrapI64] <;> omega, 3 + n, rfl, by omega, Nat.le_refl _, _, rfl, S, 0, rfl, rfl, wrAt_of T6.cS (by show 0 + 1 ≤ 1; omega) (.inr (.inr (Nat.le_refl _))), ?_⟩
      rintro g7 rfl
      obtain ⟨rest, hrest⟩ : ∃ x, x = s'.extract (3 + n) s'.size := ⟨_, rfl⟩
      rw [← hrest]
      have hbr : bl rest = restP (bl s') := by
        rw [hrest, bl_extract]
        unfold restP
        rw [← hn, List.take_of_length_le]
        rw [List.length_drop, lbl]; omega
      have T7 := T6.setS (t := rest) F
      have c7 : (setsH g6 S 0 [.string rest])[b]? = some (.cells [Value.int .u8 (((bl s').getD 0 0).toNat : Int), .string (s'.extract 3 (3 + n)), .bool false].toArray 132) := (setsH_ne hbS).trans c6
      refine ⟨S, 0, rfl, rest, cellsAt_one (cellH_at T7.cS), rfl, wrAt_of c7 (by show 0 + 2 + 1 ≤ 3; omega) (.inr (.inr (Nat.le_refl _))), ?_⟩
      intro g8 e8
      have c8 : g8[b]? = some (.cells [Value.int .u8 (((bl s').getD 0 0).toNat : Int), .string (s'.extract 3 (3 + n)), .bool (decide (rest = ⟨#[]⟩))].toArray 132) := by rw [e8, setsH_at c7]; rfl
      have x8 : Ext h4 g8 ∨ True := .inr trivial
      have hbl4 : h4.size ≤ b := by omega
      have T8 : RSt h oR E N S D L p R.recs.length c (R.recs.map Value.string) g8 M rest p' c' q' k' := by
        obtain ⟨l1, l2, l3, l4⟩ := T.lt
        have kk : ∀ x, x ≠ b → g8[x]? = (setsH g6 S 0 [.string rest])[x]? := fun x hx => by rw [e8]; exact setsH_ne hx
        have hlt := T.W.lt
        have hy := T.y.size
        refine ⟨⟨by rw [e8, setsH_size]; exact T7.y.size, fun x hx hn => (kk x (by omega)).trans (T7.y.old x hx hn)⟩, (kk _ (by omega)).trans T7.cE, (kk _ (Ne.symm hbS)).trans T7.cS, (kk _ (by omega)).trans T7.cD, (kk _ (by omega)).trans T7.cL, T7.W.keep fun x hx => kk x ?_, T7.held.keep fun x hx _ => kk x (by have := F.row x hx; omega), T7.bp, T7.bq⟩
        rcases hx with rfl | hx | hx
        · omega
        · have := (T.W.recs.lt hx).2; omega
        · have := (T.W.half.lt hx).2; omega
      have htx : bl (s'.extract 3 (3 + n)) = textP (bl s') := by
        rw [bl_extract]; unfold textP; rw [← hn, Nat.add_sub_cancel_left]
      have hde : decide (rest = ⟨#[]⟩) = decide (restP (bl s') = []) := by
        apply decide_eq_decide.2
        rw [← hbr]
        exact ⟨fun e => by rw [e], fun e => bl_inj e⟩
      have hrsz : rest.size = (restP (bl s')).length := by rw [← hbr, bl_length]
      have htk : takeR M ((bl s').getD 0 0).toNat (bl (s'.extract 3 (3 + n))) (decide (rest = ⟨#[]⟩)) = takeR M (kindP (bl s')) (textP (bl s')) (decide (restP (bl s') = [])) := by rw [htx, hde]; rfl
      rw [← htk] at hrun
      refine ⟨_, _, _, cellsAt_all c8, rfl, good _ _ _ T8 (by omega) (by rw [ByteArray.size_extract]; omega) ?_ ?_⟩
      · intro hnn hz B
        rw [hnn] at hrun
        exact ⟨_, rfl, fun _ => ⟨rfl, .inl ⟨a1, .inr rfl, hrun, B⟩⟩, fun hf => (by cases hf)⟩
      · intro M' p'' c'' q'' k'' hz hnn T9
        rw [hnn] at hrun
        have hlen := (takeR_half hnn).2
        refine ⟨_, rfl, fun hf => (by cases hf), fun _ => ⟨⟨M', rest, p'', c'', q'', k'', T9, by omega, by omega, ?_⟩, ?_⟩⟩
        · by_cases hre : rest = ⟨#[]⟩
          · refine .inl ⟨hre, ?_⟩
            rw [hrun]
            show (if restP (bl s') = [] then _ else _) = _
            rw [if_pos (by rw [← hbr, hre])]
          · refine .inr ⟨hre, ?_⟩
            obtain ⟨f', rfl⟩ : ∃ f', f = f' + 1 := ⟨f - 1, by omega⟩
            refine ⟨f', ?_, by omega⟩
            rw [hrun, hbr]
            show (if restP (bl s') = [] then _ else _) = _
            rw [if_neg (by rw [← hbr]; exact fun e => hre (bl_inj e))]
        · show leftM S hz < leftM S h4
          rw [leftM_at T9.cS, leftM_at T.cS]; omega
    clear bad good HY
    refine iter.mono ?_
    rintro en hz ⟨rfl, ⟨a, ha, hb, B⟩ | ⟨M, p', c', q', k', hb, T⟩⟩
    · refine ⟨⟨_, rfl⟩, .inr (.inl ⟨B.cL, ?_⟩)⟩
      intro z1 ez1
      have sz1' : z1.size = hz.size := by rw [ez1]; exact setO_size
      have kz1 : ∀ x, x ≠ L → z1[x]? = hz[x]? := fun x hx => by rw [ez1]; exact setO_ne hx
      refine ⟨(kz1 D F.dl).trans B.cD, ?_⟩
      intro z2 ez2
      have sz2 : z2.size = z1.size := by rw [ez2]; exact setO_size
      have kz2 : ∀ x, x ≠ L → x ≠ D → z2[x]? = hz[x]? := fun x hx hd => by rw [ez2, setO_ne hd]; exact kz1 x hx
      refine ⟨errV a, cellsAt_one (cellH_at ((kz2 E F.el F.ed).trans B.cE)), .inl ⟨hb, ?_, ?_, ?_⟩⟩
      · rcases ha with rfl | rfl
        · exact .inl rfl
        · exact .inr rfl
      · have hF := F.d
        have hF2 := F.l
        have kk : ∀ x, x < h.size → z2[x]? = hz[x]? := fun x hx => kz2 x (by omega) (by omega)
        refine ⟨(kk r hrl).trans ((B.y.old r hrl fun e => W.ne1 e rfl).trans W.cell), B.own.keep fun x hx => kk x (hrow x hx), W.half.keep fun x hx => (kk x (W.half.lt hx).2).trans (B.y.old x (W.half.lt hx).2 fun e => W.ne3 e hx rfl), hhl⟩
      · have hF := F.d
        have hF2 := F.l
        exact ⟨by rw [sz2, sz1']; exact B.y.size, fun x hx hn => (kz2 x (by omega) (by omega)).trans (B.y.old x hx hn)⟩
    · refine ⟨⟨_, rfl⟩, .inl ⟨T.cL, ?_⟩⟩
      intro z1 ez1
      have T1 : RSt h oE E N S D L p R.recs.length c (R.recs.map Value.string) z1 M ⟨#[]⟩ p' c' q' k' := by rw [ez1]; exact T.mark F
      clear ez1
      have hlz : r < z1.size := by have := T1.y.size; omega
      have cr1 : z1[r]? = some (.cells (rdV R p c q k).toArray 92) := (T1.y.old r hrl fun e => W.ne1 e rfl).trans W.cell
      refine ⟨p', M.recs.length, c', q', M.half.length, k', M.goes, cellsAt_all (vs := rdV M p' c' q' k') T1.W.cell, r, 0, rfl, rfl, by simp [Value.oneCell'], wrAt_of cr1 (by show 0 + 3 ≤ 3; omega) (.inr (.inr (Nat.le_refl _))), ?_⟩
      intro z2 ez2
      have cr2 : z2[r]? = some (.cells (rdV M p' c' q' k').toArray 92) := by rw [ez2, setsH_at cr1, layC_all (by rfl)]; rfl
      have kz2 : ∀ x, x ≠ r → z2[x]? = z1[x]? := fun x hx => by rw [ez2]; exact setsH_ne hx
      have sz2 : z2.size = z1.size := by rw [ez2]; exact setsH_size
      have hFe := F.e
      have hFd := F.d
      have hEr : E ≠ r := by omega
      have cE2 := (kz2 E hEr).trans T1.cE
      refine ⟨rfl, wrAt_of cE2 (by show 0 + 1 ≤ 1; omega) (.inr (.inr (Nat.le_refl _))), ?_⟩
      intro z3 ez3
      have cE3 : z3[E]? = some (.cells #[.nilIface] 98) := by rw [ez3, setsH_at cE2]; rfl
      have kz3 : ∀ x, x ≠ E → z3[x]? = z2[x]? := fun x hx => by rw [ez3]; exact setsH_ne hx
      have sz3 : z3.size = z2.size := by rw [ez3]; exact setsH_size
      refine ⟨(kz3 D (Ne.symm F.ed)).trans ((kz2 D (by omega)).trans T1.cD), ?_⟩
      intro z4 ez4
      have kz4 : ∀ x, x ≠ D → z4[x]? = z3[x]? := fun x hx => by rw [ez4]; exact setO_ne hx
      have sz4 : z4.size = z3.size := by rw [ez4]; exact setO_size
      refine ⟨.nilIface, cellsAt_one (cellH_at ((kz4 E F.ed).trans cE3)), .inr ⟨M, p', c', q', k', hb, rfl, ?_, ?_, ?_, ?_⟩⟩
      · have kk : ∀ x, x ≠ D → x ≠ E → x ≠ r → z4[x]? = z1[x]? := fun x h1 h2 h3 => (kz4 x h1).trans ((kz3 x h2).trans (kz2 x h3))
        refine ⟨(kz4 r (by omega)).trans ((kz3 r (Ne.symm hEr)).trans cr2), T1.W.recs.keep fun x hx => ?_, T1.W.half.keep fun x hx => ?_, T1.W.hl⟩
        · rcases T1.bp x hx with e | ⟨e1, e2⟩
          · have := F.row x e
            exact kk x (by omega) (by omega) (W.ne1 e)
          · exact kk x e2.d e2.e (by omega)
        · obtain ⟨e1, e2⟩ := T1.bq x hx
          exact kk x e2.d e2.e (by omega)
      · have hyz := T1.y.size
        exact ⟨by omega, fun x hx hn => (kz4 x (by omega)).trans ((kz3 x (by omega)).trans ((kz2 x fun e => hn (.inl e)).trans (T1.y.old x hx fun e => hn (.inr e))))⟩
      · intro x hx
        rcases T1.bp x hx with e | e
        · exact .inl e
        · exact .inr e.1
      · exact fun x hx => (T1.bq x hx).1

end Go.Vc
