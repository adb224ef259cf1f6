/- TopLongest: what an entry may be. -/
import Derived.Test.YtamhpfdcnfgngaaGreatTmH
set_option maxRecDepth 10000
namespace Go.Vc
open Go Go.Proofs Go.MapKept

theorem eqB (x y : B128) : EqV Tryz.prog 40 (vB x) (vB y) (decide (x = y)) := by
  have h := eqv_ints (P := Tryz.prog) (t := 40) (n := 2) (k := .u64) (by kernel_rfl) [((hiW x).toNat : Int), ((loW x).toNat : Int)] [((hiW y).toNat : Int), ((loW y).toNat : Int)] rfl rfl
  have e : decide ([((hiW x).toNat : Int), ((loW x).toNat : Int)] = [((hiW y).toNat : Int), ((loW y).toNat : Int)]) = decide (x = y) := by
    apply decide_eq_decide.2
    rw [bits_inj]
    simp only [List.cons.injEq, and_true, Int.natCast_inj, BitVec.toNat_inj]
  rw [e] at h
  exact h

theorem hi_0 : hiW 0 = 0 := by decide +kernel
theorem lo_0 : loW 0 = 0 := by decide +kernel
theorem msk_ones (w n : Nat) : msk w n &&& onesB w = msk w n := by
  unfold msk
  rw [BitVec.and_comm, ← BitVec.and_assoc, BitVec.and_self]

abbrev mcells (k : Bool) (w n : Nat) (v : B128) : List Value := [vW (hiW v), vW (loW v), vW (hiW (cond k (msk w n) 0)), vW (loW (cond k (msk w n) 0)), vI (cond k 0 n)]

def MayOk (h : Hp) (w : Nat) (k : Bool) (f : Value) : Prop := match k with
  | false => ∃ bw bz, f = .func (.func 114) #[] #[vP bw, vP bz] ∧ cellsAt h bw 0 [vI w] ∧ cellsAt h bz 0 (bitsL 0)
  | true => ∃ bf ba, f = .func (.func 119) #[] #[vP bf] ∧ cellsAt h bf 0 [.func (.func 109) #[] #[vP ba]] ∧ cellsAt h ba 0 (bitsL (onesB w))
theorem MayOk.ext {h h' : Hp} {w : Nat} {k : Bool} {f : Value} (m : MayOk h w k f) (x : Ext h h') : MayOk h' w k f := by
  cases k
  · obtain ⟨a, b, h1, h2, h3⟩ := m; exact ⟨a, b, h1, x.cells h2, x.cells h3⟩
  · obtain ⟨a, b, h1, h2, h3⟩ := m; exact ⟨a, b, h1, x.cells h2, x.cells h3⟩
theorem MayOk.one {h : Hp} {w : Nat} {k : Bool} {f : Value} (m : MayOk h w k f) : f.oneCell' = true := by
  cases k
  · obtain ⟨a, b, rfl, _⟩ := m; rfl
  · obtain ⟨a, b, rfl, _⟩ := m; rfl

theorem bits_of {h : Hp} {b : Nat} {cs : Array Value} {t : TypeId} (c : h[b]? = some (.cells cs t)) {o : Nat} {x y : Value} (hx : cs[o]? = some x) (hy : cs[o + 1]? = some y) : cellsAt h b o [x, y] :=
  ⟨(cellH_at c).trans hx, (cellH_at c).trans hy, trivial⟩

section
variable {h : Hp} {w : Nat} {s : SB}

theorem fits1_c {ba : Nat} (ha : cellsAt h ba 0 (bitsL (onesB w))) (x : B128) : CallsH Tryz.prog 109 #[vB x, vP ba] h (RetX (.bool (decide (x &&& onesB w = x))) h) := by
  refine V109 _ _ _ h _ ?_
  rintro b0 h0 rfl rfl
  have x0 : Ext h (h.push (.cells #[vW (hiW x), vW (loW x)] 40)) := Ext.push _ _
  have c0 := push_last (h := h) (o := .cells #[vW (hiW x), vW (loW x)] 40)
  refine ⟨fun q => Ext (h.push (.cells #[vW (hiW x), vW (loW x)] 40)) q, Ext.refl _, _, _, cellsAt_all (vs := bitsL x) c0, _, _, rfl, _, _, x0.cells ha, (mand_c _ _).mono ?_⟩
  rintro en h1 ⟨rfl, x1⟩
  exact ⟨_, _, rfl, x1, _, _, fun h' x' => cellsAt_all (vs := bitsL x) (x'.at c0), _, eqB _ _, rfl, x0.trans x1⟩

theorem may_c {k : Bool} {f : Value} (m : MayOk h w k f) {n : Nat} {v : B128} (hw : w ≤ 128) (hn : n ≤ w) (hv : v &&& msk w n = v) :
    ∃ g cap, f = .func (.func g) #[] cap ∧ bodied Tryz.prog g = true ∧ CallsH Tryz.prog g (.agg (mcells k w n v).toArray :: cap.toList).toArray h (RetX (.bool true) h) := by
  cases k
  · obtain ⟨bw, bz, rfl, h1, h2⟩ := m
    refine ⟨114, _, rfl, by kernel_rfl, V114 _ _ _ _ _ _ _ h _ ?_⟩
    rintro b0 h0 rfl rfl
    have x0 : Ext h (h.push (.cells (mcells false w n v).toArray 50)) := Ext.push _ _
    have c0 := push_last (h := h) (o := .cells (mcells false w n v).toArray 50)
    refine ⟨fun q => Ext (h.push (.cells (mcells false w n v).toArray 50)) q, Ext.refl _, _, cellsAt_one (cellH_at c0), fun _ => ⟨_, cellsAt_one (cellH_at c0), _, _, rfl, _, x0.cells h1, fun _ => ?_, fun hf => ?_⟩, fun hf => ?_⟩
    · refine ⟨_, _, bits_of c0 rfl rfl, _, _, rfl, _, _, x0.cells h2, _, eqB 0 0, fun _ => ?_, fun hf => (by simp at hf)⟩
      refine ⟨_, _, fun h' x' => bits_of (x'.at c0) rfl rfl, _, _, rfl, _, x0.cells h1, _, cellsAt_one (cellH_at c0), (top_c w n hw hn).mono ?_⟩
      rintro en h1' ⟨rfl, x1⟩
      refine ⟨_, _, rfl, x1, (mand_c _ _).mono ?_⟩
      rintro en h2' ⟨rfl, x2⟩
      exact ⟨_, _, rfl, x1.trans x2, _, _, fun h' x' => bits_of (x'.at c0) rfl rfl, _, eqB _ _, by rw [decide_eq_true hv], (x0.trans x1).trans x2⟩
    · have := of_decide_eq_false hf
      simp only [cond_false] at this
      omega
    · have := of_decide_eq_false hf
      simp only [cond_false] at this
      omega
  · obtain ⟨bf, ba, rfl, h1, h2⟩ := m
    refine ⟨119, _, rfl, by kernel_rfl, V119 _ _ _ _ _ _ h _ ?_⟩
    rintro b0 h0 rfl rfl
    have x0 : Ext h (h.push (.cells (mcells true w n v).toArray 50)) := Ext.push _ _
    have c0 := push_last (h := h) (o := .cells (mcells true w n v).toArray 50)
    refine ⟨fun q => Ext (h.push (.cells (mcells true w n v).toArray 50)) q, Ext.refl _, _, cellsAt_one (cellH_at c0), fun _ => ?_, fun hf => absurd (show decide ((0 : Int) = 0) = false from hf) (by decide)⟩
    refine ⟨_, _, rfl, _, x0.cells h1, _, _, bits_of c0 rfl rfl, 109, #[], #[vP ba], rfl, by kernel_rfl, (fits1_c (x0.cells h2) (msk w n)).mono ?_⟩
    rintro en h1' ⟨rfl, x1⟩
    refine ⟨_, rfl, x1, fun _ => ?_, fun hf => ?_⟩
    · refine ⟨_, _, bits_of (x1.at c0) rfl rfl, _, _, bits_of (x1.at c0) rfl rfl, (mand_c _ _).mono ?_⟩
      rintro en h2' ⟨rfl, x2⟩
      exact ⟨_, _, rfl, x1.trans x2, _, _, fun h' x' => bits_of (x'.at c0) rfl rfl, _, eqB _ _, by rw [cond_true, decide_eq_true hv], (x0.trans x1).trans x2⟩
    · rw [decide_eq_true (msk_ones w n)] at hf; cases hf

theorem mapK : MapT Tryz.prog 210 3 209 (.int .i64) (.agg #[vI 0, vI 0, .nilFunc, .nilFunc, .nilFunc, .nilFunc]) := ⟨by kernel_rfl, by kernel_rfl, by kernel_rfl⟩
theorem info212 : ∃ i z, Tryz.prog.info? 212 = some i ∧ i.zero = some z := by
  have h : (Tryz.prog.info? 212).bind (·.zero) = some .nilFunc := by kernel_rfl
  obtain ⟨i, h1, h2⟩ := Option.bind_eq_some_iff.1 h
  exact ⟨i, _, h1, h2⟩
theorem info209 : ∃ i z, Tryz.prog.info? 209 = some i ∧ i.zero = some z := by
  have h : (Tryz.prog.info? 209).bind (·.zero) = some (.agg #[vI 0, vI 0, .nilFunc, .nilFunc, .nilFunc, .nilFunc]) := by kernel_rfl
  obtain ⟨i, h1, h2⟩ := Option.bind_eq_some_iff.1 h
  exact ⟨i, _, h1, h2⟩
theorem info195 : ∃ i z, Tryz.prog.info? 195 = some i ∧ i.zero = some z := by
  have h : (Tryz.prog.info? 195).bind (·.zero) = some (.agg #[.string ⟨#[]⟩, nilS, nilS, .int .i64 0, .string ⟨#[]⟩, nilS, .bool false, nilS, .bool false]) := by kernel_rfl
  obtain ⟨i, h1, h2⟩ := Option.bind_eq_some_iff.1 h
  exact ⟨i, _, h1, h2⟩
theorem z212_size : (zeros Tryz.prog 212).size = 1 := by kernel_rfl
theorem z209_size : (zeros Tryz.prog 209).size = 6 := by kernel_rfl
theorem z195_size : (zeros Tryz.prog 195).size = 9 := by kernel_rfl

def PartOk (h : Hp) (w : Nat) (k : Bool) (a b : Int) (p : Value) : Prop := ∃ f g1 g2 g3 : Value, p = .agg #[vZ a, vZ b, f, g1, g2, g3] ∧ MayOk h w k f ∧ g1.oneCell' = true ∧ g2.oneCell' = true ∧ g3.oneCell' = true
theorem PartOk.ext {h h' : Hp} {w : Nat} {k : Bool} {a b : Int} {p : Value} (m : PartOk h w k a b p) (x : Ext h h') : PartOk h' w k a b p :=
  let ⟨f, g1, g2, g3, e, m, r⟩ := m; ⟨f, g1, g2, g3, e, m.ext x, r⟩

theorem kinds_c (hw : w ≤ 128) : CallsH Tryz.prog 106 #[vI w] h fun e h' => Ext h h' ∧ ∃ r p1 p2 p3 p4, e = .returned (.map (some r)) ∧ MapAt h' r [(vI 1, p1), (vI 2, p2), (vI 3, p3), (vI 4, p4)] ∧ PartOk h' w false 0 0 p2 ∧ PartOk h' w true 0 0 p3 := by
  refine V106 _ h _ ?_
  rintro b0 h0 rfl rfl
  have x0 : Ext h (h.push (.cells #[vI w] 3)) := Ext.push _ _
  have c0 := push_last (h := h) (o := .cells #[vI w] 3)
  refine ⟨_, cellsAt_one (cellH_at c0), (mones_c w hw).mono ?_⟩
  rintro en h1 ⟨rfl, x1⟩
  refine ⟨_, _, rfl, ?_⟩
  rintro b1 h2 rfl rfl
  have x2 := Ext.push h1 (.cells zB 40)
  refine ⟨info40, stoT (n := 2) x2 (Nat.le_refl _) push_last rfl zB_size (by simp [Value.oneCell']) fun h3 x3 z3 c3 k3 => ?_⟩
  rintro b2 h4 rfl rfl
  have x4 := Ext.push h3 (.cells (zeros Tryz.prog 212) 212)
  refine ⟨info212, sto1 x4 (Nat.le_refl _) push_last z212_size rfl fun h5 x5 z5 c5 k5 => ?_⟩
  rintro b3 h6 rfl rfl
  have x6 := Ext.push h5 (.cells zB 40)
  refine ⟨info40, ?_⟩
  rintro r h7 rfl rfl
  have x7 := x6.box (.map #[] 0)
  have c6 : (h5.push (.cells zB 40))[h5.size]? = some (.cells zB 40) := push_last
  have zz : zB = #[vW 0, vW 0] := by kernel_rfl
  have ik : ∀ n : Nat, IsKey (.int .i64) (vI n) := fun n => rfl
  have xx : Ext h ((h5.push (.cells zB 40)).push (.map #[] 0)) := (((x0.trans x1).trans x3).trans x5).trans x7
  generalize hr : (h5.push (.cells zB 40)).size = r
  have hrs : h5.size < r := by rw [← hr]; simp
  have m7 : MapAt ((h5.push (.cells zB 40)).push (.map #[] 0)) r [] := by rw [← hr]; exact MapAt.new _
  have cz : ((h5.push (.cells zB 40)).push (.map #[] 0))[h5.size]? = some (.cells #[vW 0, vW 0] 40) := by rw [← zz]; exact (Ext.push _ _).at push_last
  have cf := x7.at c5
  have ca := (x5.trans x7).at c3
  have cw := (((x1.trans x3).trans x5).trans x7).at c0
  have hh3 := (Array.getElem?_eq_some_iff.1 c3).1
  have hh5 := (Array.getElem?_eq_some_iff.1 c5).1
  have hh1 := x1.size
  simp only [Array.size_push] at hh1
  have z35 := x5.size
  have hrl : ∀ q, q < r → q ≠ r := fun q hq => Nat.ne_of_lt hq
  generalize (h5.push (.cells zB 40)).push (.map #[] 0) = h7 at *
  refine semH_mapNew mapK m7 (by simp) (ik 1) (by simp) fun h8 m8 z8 k8 => ?_
  refine semH_mapNew mapK m8 (by simp [IsKey]) (ik 2) (by simp) fun h9 m9 z9 k9 => ?_
  refine semH_mapNew mapK m9 (by simp [IsKey]) (ik 3) (by simp) fun h10 m10 z10 k10 => ?_
  refine semH_mapNew mapK m10 (by simp [IsKey]) (ik 4) (by simp) fun h11 m11 z11 k11 => ?_
  have kk : ∀ q, q ≠ r → h11[q]? = h7[q]? := fun q hq => (k11 q hq).trans ((k10 q hq).trans ((k9 q hq).trans (k8 q hq)))
  have hx : Ext h h11 := by
    have hr7 := (Array.getElem?_eq_some_iff.1 cz).1
    have := xx.size
    refine ⟨by omega, fun q hq => (kk q (by omega)).trans (xx.old q hq)⟩
  refine ⟨hx, r, _, _, _, _, rfl, m11, ⟨_, _, _, _, rfl, ⟨h.size, h5.size, rfl, ?_, ?_⟩, rfl, rfl, rfl⟩, ⟨_, _, _, _, rfl, ⟨h3.size, h1.size, rfl, ?_, ?_⟩, rfl, rfl, rfl⟩⟩
  · exact cellsAt_all (vs := [vI w]) ((kk _ (by omega)).trans cw)
  · have : bitsL 0 = [vW 0, vW 0] := by simp only [bitsL, hi_0, lo_0]
    rw [this]
    exact cellsAt_all (vs := [vW 0, vW 0]) ((kk _ (by omega)).trans cz)
  · exact cellsAt_all (vs := [.func (.func 109) #[] #[vP h1.size]]) ((kk _ (by omega)).trans cf)
  · exact cellsAt_all (vs := bitsL (onesB w)) ((kk _ (by omega)).trans ca)

theorem lookup_kind {r : Nat} {p1 p2 p3 p4 : Value} {k : Bool} (m : MapAt h r [(vI 1, p1), (vI 2, p2), (vI 3, p3), (vI 4, p4)]) {R : Value → Hp → Prop} (hR : R (cond k p3 p2) h) :
    SemH Tryz.prog (Instr.lookup 210 (.map (some r)) (vI (kd k)) false) h R := by
  refine semH_lookup mapK m (by simp [IsKey]) (show IsKey (.int .i64) (vI (kd k)) from rfl) (fun hno => ?_) (fun v j hj => ?_)
  · exfalso
    cases k
    · exact hno (vI 2, p2) (by simp) rfl
    · exact hno (vI 3, p3) (by simp) rfl
  · have hv : v = cond k p3 p2 := by
      cases k
      · match j, hj with
        | 0, hj => simp at hj
        | 1, hj => simp at hj; exact hj.symm
        | 2, hj => simp at hj
        | 3, hj => simp at hj
      · match j, hj with
        | 0, hj => simp at hj
        | 1, hj => simp at hj
        | 2, hj => simp at hj; exact hj.symm
        | 3, hj => simp at hj
    rw [hv]; exact hR
end
end Go.Vc
