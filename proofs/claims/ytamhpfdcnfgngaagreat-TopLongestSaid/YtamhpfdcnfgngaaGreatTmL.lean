/- TopLongest: the order of entries. -/
import Derived.Test.YtamhpfdcnfgngaaGreatTmW
set_option maxRecDepth 10000
namespace Go.Vc
open Go Go.Proofs Go.MapKept

def cmp3 (a b : Int) : Int := if a < b then -1 else if b < a then 1 else 0
def firstNZ : List Int → Int
  | [] => 0
  | x :: l => if x = 0 then firstNZ l else x

section
variable {h : Hp}

theorem nan_i (x : Int) : CallsH Tryz.prog 187 #[.int .i64 x] h fun e h' => h' = h ∧ e = .returned (.bool false) := V187 _ h _ ⟨rfl, by simp⟩
theorem nan_u (x : Int) : CallsH Tryz.prog 201 #[.int .u64 x] h fun e h' => h' = h ∧ e = .returned (.bool false) := V201 _ h _ ⟨rfl, by simp⟩

theorem cmpI_c (x y : Int) : CallsH Tryz.prog 176 #[.int .i64 x, .int .i64 y] h fun e h' => h' = h ∧ e = .returned (vZ (cmp3 x y)) := by
  refine V176 _ _ h _ ((nan_i x).mono ?_)
  rintro en h1 ⟨rfl, rfl⟩
  refine ⟨_, rfl, (nan_i y).mono ?_⟩
  rintro en h2 ⟨rfl, rfl⟩
  refine ⟨_, rfl, (fun hf => by cases hf), fun _ => ⟨(fun hf => by cases hf), fun _ => ⟨fun h1 => ⟨rfl, ?_⟩, fun h1 => ⟨fun h2 => ⟨rfl, ?_⟩, fun h2 => ⟨rfl, ?_⟩⟩⟩⟩⟩
  · rw [cmp3, if_pos (of_decide_eq_true h1)]
  · rw [cmp3, if_neg (of_decide_eq_false h1), if_pos (of_decide_eq_true h2)]
  · rw [cmp3, if_neg (of_decide_eq_false h1), if_neg (of_decide_eq_false h2)]
theorem cmpU_c (x y : Int) : CallsH Tryz.prog 188 #[.int .u64 x, .int .u64 y] h fun e h' => h' = h ∧ e = .returned (vZ (cmp3 x y)) := by
  refine V188 _ _ h _ ((nan_u x).mono ?_)
  rintro en h1 ⟨rfl, rfl⟩
  refine ⟨_, rfl, (nan_u y).mono ?_⟩
  rintro en h2 ⟨rfl, rfl⟩
  refine ⟨_, rfl, (fun hf => by cases hf), fun _ => ⟨(fun hf => by cases hf), fun _ => ⟨fun h1 => ⟨rfl, ?_⟩, fun h1 => ⟨fun h2 => ⟨rfl, ?_⟩, fun h2 => ⟨rfl, ?_⟩⟩⟩⟩⟩
  · rw [cmp3, if_pos (of_decide_eq_true h1)]
  · rw [cmp3, if_neg (of_decide_eq_false h1), if_pos (of_decide_eq_true h2)]
  · rw [cmp3, if_neg (of_decide_eq_false h1), if_neg (of_decide_eq_false h2)]

theorem or_c {b n c : Nat} {l : List Int} (hl : l.length = n) (hn : n ≤ 1000) (hc : cellsAt h b 0 (l.map vZ)) : CallsH Tryz.prog 175 #[sl b n c] h fun e h' => h' = h ∧ e = .returned (vZ (firstNZ l)) := by
  refine V175 _ _ _ h _ ⟨cntI n fun i q => q = h ∧ firstNZ (l.drop i) = firstNZ l, cntM n, cnt_0 ⟨rfl, rfl⟩, ?_⟩
  rintro x hp ⟨i, hi, hv, rfl, hf⟩
  cases hv
  refine ⟨fun hlt => ?_, fun hge => ⟨rfl, ?_⟩⟩
  · have hin := cnt_lt hlt
    have hil : i < l.length := by omega
    have hcc := cellsAt_iff.1 hc i (by simpa using hil)
    rw [List.getElem_map] at hcc
    have hd : l.drop i = l[i] :: l.drop (i + 1) := List.drop_eq_getElem_cons hil
    refine ⟨b, 0, rfl, by omega, by omega, l[i], cellsAt_one (by rw [Int.toNat_natCast, Nat.mul_one]; exact hcc), fun hne => ⟨rfl, ?_⟩, fun he => ?_⟩
    · rw [← hf, hd, firstNZ, if_neg (of_decide_eq_true hne)]
    · have h0 : l[i] = 0 := Classical.not_not.1 (of_decide_eq_false he)
      exact cnt_next hin (by omega) ⟨rfl, by rw [← hf, hd, firstNZ, if_pos h0]⟩
  · have := cnt_ge hi hge
    rw [← hf, List.drop_eq_nil_of_le (by omega)]; rfl

theorem semH_ints {l : List Int} {n : Nat} {parts : Array (Nat × Value)} (hp : parts = ((List.range' 0 (l.map vZ).length).zip (l.map vZ)).toArray) (hn : n = (l.map vZ).length) (h0 : l ≠ []) (hlen : l.length ≤ 1000)
    {R : Value → Hp → Prop} (hR : R (sl h.size n n) (h.push (.cells (l.map vZ).toArray 3))) : SemH Tryz.prog (Instr.buildSlice 76 n parts) h R :=
  semH_build row76 hp hn (by simpa using h0) (by simp; omega) (by intro v hv; obtain ⟨x, _, rfl⟩ := List.mem_map.1 hv; rfl) hR

def cmpB (a b : B128) : Int := firstNZ [cmp3 ((hiW a).toNat : Int) ((hiW b).toNat : Int), cmp3 ((loW a).toNat : Int) ((loW b).toNat : Int)]
theorem cmp3_self (a : Int) : cmp3 a a = 0 := by simp [cmp3]
theorem cmpB_self (a : B128) : cmpB a a = 0 := by simp [cmpB, cmp3_self, firstNZ]

theorem compare_c (a b : B128) : CallsH Tryz.prog 179 #[vB a, vB b] h (RetX (vZ (cmpB a b)) h) := by
  refine V179 _ _ _ _ h _ ?_
  rintro b0 h0 rfl rfl b1 h1 rfl rfl
  have x0 : Ext h (h.push (.cells #[vW (hiW a), vW (loW a)] 40)) := Ext.push _ _
  have x1 := Ext.push (h.push (.cells #[vW (hiW a), vW (loW a)] 40)) (.cells #[vW (hiW b), vW (loW b)] 40)
  have c0 := x1.at (push_last (h := h) (o := .cells #[vW (hiW a), vW (loW a)] 40))
  have c1 := push_last (h := h.push (.cells #[vW (hiW a), vW (loW a)] 40)) (o := .cells #[vW (hiW b), vW (loW b)] 40)
  have xx := x0.trans x1
  generalize (h.push (.cells #[vW (hiW a), vW (loW a)] 40)).size = b1 at *
  generalize (h.push (.cells #[vW (hiW a), vW (loW a)] 40)).push (.cells #[vW (hiW b), vW (loW b)] 40) = h1 at *
  refine ⟨fun q => Ext h1 q, Ext.refl _, _, cellsAt_one (cellH_at c0), _, cellsAt_one (cellH_at c1), (cmpU_c _ _).mono ?_⟩
  rintro en h2 ⟨rfl, rfl⟩
  refine ⟨_, rfl, Ext.refl _, _, fun q xq => cellsAt_one (cellH_at (xq.at c0)), _, fun q xq => cellsAt_one (cellH_at (xq.at c1)), (cmpU_c _ _).mono ?_⟩
  rintro en h3 ⟨rfl, rfl⟩
  refine ⟨_, rfl, Ext.refl _, semH_ints (l := [_, _]) rfl rfl (by simp) (by simp) ?_⟩
  have x3 := Ext.push h3 (.cells (([cmp3 ((hiW a).toNat : Int) ((hiW b).toNat : Int), cmp3 ((loW a).toNat : Int) ((loW b).toNat : Int)] : List Int).map vZ).toArray 3)
  refine ⟨_, _, _, rfl, x3, (or_c (l := [_, _]) rfl (by simp) (cellsAt_all push_last)).mono ?_⟩
  rintro en h4 ⟨rfl, rfl⟩
  exact ⟨_, rfl, x3, rfl, xx.trans x3⟩

def cmpM (k : Bool) (w n1 n2 : Nat) (v1 v2 : B128) : Int := firstNZ [cmp3 (cond k 0 n2 : Nat) (cond k 0 n1 : Nat), cmpB v1 v2, cmpB (cond k (msk w n1) 0) (cond k (msk w n2) 0)]
theorem order1_c {k : Bool} {w n1 n2 : Nat} {v1 v2 : B128} : CallsH Tryz.prog 178 #[.agg (mcells k w n1 v1).toArray, .agg (mcells k w n2 v2).toArray] h (RetX (vZ (cmpM k w n1 n2 v1 v2)) h) := by
  refine V178 _ _ _ _ _ _ _ _ _ _ h _ ?_
  rintro b0 h0 rfl rfl b1 h1 hb1 hh1
  have x1 : Ext h h1 := by rw [hh1]; exact (Ext.push _ _).box _
  have c0 : h1[h.size]? = some (.cells (mcells k w n1 v1).toArray 50) := by rw [hh1]; exact (Ext.push _ _).at push_last
  have c1 : h1[b1]? = some (.cells (mcells k w n2 v2).toArray 50) := by rw [hh1, hb1]; exact push_last
  clear hh1 hb1
  refine ⟨fun q => Ext h1 q, Ext.refl _, _, cellsAt_one (cellH_at c1), _, cellsAt_one (cellH_at c0), (cmpI_c _ _).mono ?_⟩
  rintro en h2 ⟨rfl, rfl⟩
  refine ⟨_, rfl, Ext.refl _, _, _, fun q xq => bits_of (xq.at c0) rfl rfl, _, _, fun q xq => bits_of (xq.at c1) rfl rfl, (compare_c v1 v2).mono ?_⟩
  rintro en h3 ⟨rfl, x3⟩
  refine ⟨_, rfl, x3, _, _, fun q xq => bits_of (xq.at c0) rfl rfl, _, _, fun q xq => bits_of (xq.at c1) rfl rfl, (compare_c (cond k (msk w n1) 0) (cond k (msk w n2) 0)).mono ?_⟩
  rintro en h4 ⟨rfl, x4⟩
  refine ⟨_, rfl, x3.trans x4, semH_ints (l := [_, _, _]) rfl rfl (by simp) (by simp) ?_⟩
  have x5 := Ext.push h4 (.cells (([cmp3 (cond k 0 n2 : Nat) (cond k 0 n1 : Nat), cmpB v1 v2, cmpB (cond k (msk w n1) 0) (cond k (msk w n2) 0)] : List Int).map vZ).toArray 3)
  refine ⟨_, _, _, rfl, (x3.trans x4).trans x5, (or_c (l := [_, _, _]) rfl (by simp) (cellsAt_all push_last)).mono ?_⟩
  rintro en h5 ⟨rfl, rfl⟩
  exact ⟨_, rfl, (x3.trans x4).trans x5, rfl, ((x1.trans x3).trans x4).trans x5⟩

theorem info50 : ∃ i z, Tryz.prog.info? 50 = some i ∧ i.zero = some z := by
  have h : (Tryz.prog.info? 50).bind (·.zero) = some (.agg #[.int .u64 0, .int .u64 0, .int .u64 0, .int .u64 0, .int .i64 0]) := by kernel_rfl
  obtain ⟨i, h1, h2⟩ := Option.bind_eq_some_iff.1 h
  exact ⟨i, _, h1, h2⟩
theorem z50_size : (zeros Tryz.prog 50).size = 5 := by kernel_rfl

theorem orders_c {k : Bool} {w n1 n2 a ac b bc : Nat} {v1 v2 : B128} (ha : cellsAt h a 0 (mcells k w n1 v1)) (hb : cellsAt h b 0 (mcells k w n2 v2)) :
    CallsH Tryz.prog 177 #[sl a 1 ac, sl b 1 bc, .func (.func 178) #[] #[]] h (RetX (vZ (cmpM k w n1 n2 v1 v2)) h) := by
  refine V177 _ _ _ _ _ _ _ h _ ⟨cntI 1 fun i q => Ext h q ∧ (i = 1 → cmpM k w n1 n2 v1 v2 = 0), cntM 1, cnt_0 ⟨Ext.refl _, by simp⟩, ?_⟩
  rintro x hp ⟨i, hi, hv, xp, hf⟩
  cases hv
  refine ⟨fun hlt => ?_, fun hge => ?_⟩
  · have hin := cnt_lt hlt
    obtain rfl : i = 0 := by omega
    refine ⟨a, 0, rfl, by decide, by decide, _, _, _, _, _, xp.cells ha, ?_⟩
    rintro b1 h1 rfl rfl
    have x1 := xp.box (.cells (zeros Tryz.prog 50) 50)
    refine ⟨info50, stoT (n := 5) x1 xp.size push_last rfl z50_size (by simp [Value.oneCell']) fun h2 x2 z2 c2 k2 => ⟨fun hf => absurd hf (by decide), fun _ => ?_⟩⟩
    refine ⟨b, 0, rfl, by decide, by decide, _, _, _, _, _, x2.cells hb, ?_⟩
    rintro b3 h3 rfl rfl
    have x3 := Ext.push h2 (.cells (zeros Tryz.prog 50) 50)
    refine ⟨info50, stoT (n := 5) x3 (Nat.le_refl _) push_last rfl z50_size (by simp [Value.oneCell']) fun h4 x4 z4 c4 k4 => ?_⟩
    refine ⟨_, _, _, _, _, cellsAt_all (x4.at c2), _, _, _, _, _, cellsAt_all c4, 178, #[], #[], rfl, by kernel_rfl, (order1_c (k := k) (w := w) (n1 := n1) (n2 := n2) (v1 := v1) (v2 := v2)).mono ?_⟩
    rintro en h5 ⟨rfl, x5⟩
    have x05 := (x2.trans x4).trans x5
    refine ⟨_, rfl, fun hne => ⟨rfl, x05⟩, fun he => cnt_next (n := 1) (i := 0) (by decide) (by decide) ⟨x05, fun _ => Classical.not_not.1 (of_decide_eq_false he)⟩⟩
  · obtain rfl := cnt_ge hi hge
    refine ⟨fun hf => absurd hf (by decide), fun _ => ⟨?_, xp⟩⟩
    rw [hf rfl]

def cmpE (k : Bool) (w n1 n2 : Nat) (v1 v2 : B128) : Int := firstNZ [cmp3 (cond k (n2 + 1) 0 : Nat) (cond k (n1 + 1) 0 : Nat), cmpM k w n1 n2 v1 v2]
theorem cmpE_lt {k : Bool} {w n1 n2 : Nat} {v1 v2 : B128} (hn : n2 < n1) : cmpE k w n1 n2 v1 v2 = -1 := by
  cases k
  · have h1 : cmp3 (n2 : Int) (n1 : Int) = -1 := by rw [cmp3, if_pos (by omega)]
    simp [cmpE, cmpM, cond_false, firstNZ, cmp3_self, h1]
  · have h1 : cmp3 ((n2 + 1 : Nat) : Int) ((n1 + 1 : Nat) : Int) = -1 := by rw [cmp3, if_pos (by omega)]
    simp only [cmpE, cond_true, firstNZ, h1]
    rfl
theorem cmpE_gt {k : Bool} {w n1 n2 : Nat} {v1 v2 : B128} (hn : n1 < n2) : cmpE k w n1 n2 v1 v2 = 1 := by
  cases k
  · have h1 : cmp3 (n2 : Int) (n1 : Int) = 1 := by rw [cmp3, if_neg (by omega), if_pos (by omega)]
    simp [cmpE, cmpM, cond_false, firstNZ, cmp3_self, h1]
  · have h1 : cmp3 ((n2 + 1 : Nat) : Int) ((n1 + 1 : Nat) : Int) = 1 := by rw [cmp3, if_neg (by omega), if_pos (by omega)]
    simp only [cmpE, cond_true, firstNZ, h1]
    rfl
theorem cmpE_self (k : Bool) (w n : Nat) (v : B128) : cmpE k w n n v v = 0 := by
  simp [cmpE, cmpM, firstNZ, cmp3_self, cmpB_self]

theorem Order_c {k : Bool} {w n1 n2 a ac b bc : Nat} {v1 v2 : B128} {act1 act2 : ByteArray} {p1 p2 : Option Addr} {m1 m2 q1 q2 : Nat} (ha : cellsAt h a 0 (mcells k w n1 v1)) (hb : cellsAt h b 0 (mcells k w n2 v2)) :
    CallsH Tryz.prog 163 #[.agg #[sl a 1 ac, vI (cond k (n1 + 1) 0), .string act1, .slice p1 m1 q1], .agg #[sl b 1 bc, vI (cond k (n2 + 1) 0), .string act2, .slice p2 m2 q2]] h (RetX (vZ (cmpE k w n1 n2 v1 v2)) h) := by
  refine V163 _ _ _ _ _ _ _ _ _ _ _ _ _ _ _ _ h _ ?_
  rintro b0 h0 rfl rfl b1 h1 hb1 hh1
  have x1 : Ext h h1 := by rw [hh1]; exact (Ext.push _ _).box _
  have c0 : h1[h.size]? = some (.cells #[sl a 1 ac, vI (cond k (n1 + 1) 0), .string act1, .slice p1 m1 q1] 53) := by rw [hh1]; exact (Ext.push _ _).at push_last
  have c1 : h1[b1]? = some (.cells #[sl b 1 bc, vI (cond k (n2 + 1) 0), .string act2, .slice p2 m2 q2] 53) := by rw [hh1, hb1]; exact push_last
  clear hh1 hb1
  refine ⟨fun q => Ext h1 q, Ext.refl _, _, cellsAt_one (cellH_at c1), _, cellsAt_one (cellH_at c0), (cmpI_c _ _).mono ?_⟩
  rintro en h2 ⟨rfl, rfl⟩
  refine ⟨_, rfl, Ext.refl _, _, _, _, fun q xq => cellsAt_one (cellH_at (xq.at c0)), _, _, _, fun q xq => cellsAt_one (cellH_at (xq.at c1)), (orders_c (x1.cells ha) (x1.cells hb)).mono ?_⟩
  rintro en h3 ⟨rfl, x3⟩
  refine ⟨_, rfl, x3, semH_ints (l := [_, _]) rfl rfl (by simp) (by simp) ?_⟩
  have x5 := Ext.push h3 (.cells (([cmp3 (cond k (n2 + 1) 0 : Nat) (cond k (n1 + 1) 0 : Nat), cmpM k w n1 n2 v1 v2] : List Int).map vZ).toArray 3)
  refine ⟨_, _, _, rfl, x3.trans x5, (or_c (l := [_, _]) rfl (by simp) (cellsAt_all push_last)).mono ?_⟩
  rintro en h5 ⟨rfl, rfl⟩
  exact ⟨_, rfl, x3.trans x5, rfl, (x1.trans x3).trans x5⟩

theorem ones_get {n : Nat} (hn : n ≤ 128) (i : Nat) : (onesB n).getLsbD i = decide (i < n) := by
  unfold onesB
  simp only [BitVec.getLsbD_ushiftRight, BitVec.getLsbD_allOnes]
  exact decide_eq_decide.2 (by omega)
theorem msk_lt {w a b : Nat} (hw : w ≤ 128) (hab : a < b) (hb : b ≤ w) : msk w a ≠ msk w b := by
  intro h
  have h1 := congrArg (fun z => z.getLsbD (w - b)) h
  simp only [msk, BitVec.getLsbD_and, BitVec.getLsbD_not, ones_get hw, ones_get (show w - a ≤ 128 by omega), ones_get (show w - b ≤ 128 by omega)] at h1
  simp [show w - b < 128 by omega, show w - b < w by omega, show w - b < w - a by omega] at h1
theorem msk_inj {w a b : Nat} (hw : w ≤ 128) (ha : a ≤ w) (hb : b ≤ w) : msk w a = msk w b ↔ a = b := by
  refine ⟨fun h => ?_, fun h => by rw [h]⟩
  rcases Nat.lt_trichotomy a b with h1 | h1 | h1
  · exact (msk_lt hw h1 hb h).elim
  · exact h1
  · exact (msk_lt hw h1 ha h.symm).elim

def sameM (k : Bool) (w n1 n2 : Nat) (v1 v2 : B128) : Bool := [decide (v1 = v2), decide (cond k (msk w n1) 0 = cond k (msk w n2) 0), decide ((((cond k 0 n1 : Nat)) : Int) = (((cond k 0 n2 : Nat)) : Int))].all id
theorem sameM_eq {k : Bool} {w n1 n2 : Nat} (hw : w ≤ 128) (h1 : n1 ≤ w) (h2 : n2 ≤ w) (v : B128) : sameM k w n1 n2 v v = decide (n1 = n2) := by
  cases k
  · simp [sameM]; omega
  · simp [sameM, msk_inj hw h1 h2]

theorem eqB_d (x y : B128) (d : Nat) (u : World) : (Op.equalIn (d + 2) 40 (vB x) (vB y)).run Tryz.prog u = .ok (decide (x = y)) u := by
  have h := eqvF (P := Tryz.prog) (t := 40) (L := [(38, 0), (38, 1)]) (by kernel_rfl) (k := 1) (xs := #[vW (hiW x), vW (loW x)]) (ys := #[vW (hiW y), vW (loW y)]) (bs := [decide (((hiW x).toNat : Int) = ((hiW y).toNat : Int)), decide (((loW x).toNat : Int) = ((loW y).toNat : Int))]) rfl (fun j s b hj hb => ?_) d u
  · rw [h]
    congr 1
    have : decide (x = y) = decide (((hiW x).toNat : Int) = ((hiW y).toNat : Int) ∧ ((loW x).toNat : Int) = ((loW y).toNat : Int)) := by
      apply decide_eq_decide.2
      rw [bits_inj]
      simp only [Int.natCast_inj, BitVec.toNat_inj]
    rw [this]
    simp
  · have hu : Tryz.prog.underlying 38 = some (.int .u64) := by kernel_rfl
    match j, hj, hb with
    | 0, hj, hb => cases hj; cases hb; exact fld_int hu _ _ 0 rfl rfl
    | 1, hj, hb => cases hj; cases hb; exact fld_int hu _ _ 0 rfl rfl
    | j + 2, hj, hb => simp at hj

theorem eqM (k : Bool) (w n1 n2 : Nat) (v1 v2 : B128) : EqV Tryz.prog 50 (.agg (mcells k w n1 v1).toArray) (.agg (mcells k w n2 v2).toArray) (sameM k w n1 n2 v1 v2) := by
  obtain ⟨fs, hfs⟩ : ∃ fs, Tryz.prog.underlying 40 = some (.struct fs) := by
    have h : (match Tryz.prog.underlying 40 with | some (.struct _) => true | _ => false) = true := by kernel_rfl
    revert h
    cases Tryz.prog.underlying 40 with
    | none => intro h; cases h
    | some u => cases u <;> intro h <;> first | exact ⟨_, rfl⟩ | cases h
  refine eqvOf (k := 3) (by decide) (eqvF (L := [(40, 0), (40, 2), (3, 4)]) (by kernel_rfl) (k := 2) (bs := [_, _, _]) rfl (fun j s b hj hb => ?_))
  have h2 : (Tryz.prog.info? 40).map (·.size) = some 2 := by kernel_rfl
  match j, hj, hb with
  | 0, hj, hb => cases hj; cases hb; exact fld_agg hfs h2 (eqB_d v1 v2)
  | 1, hj, hb => cases hj; cases hb; exact fld_agg hfs h2 (eqB_d _ _)
  | 2, hj, hb => cases hj; cases hb; exact fld_int (by kernel_rfl) _ _ 1 rfl rfl
  | j + 3, hj, hb => simp at hj

theorem equal_c {k : Bool} {w n1 n2 a ac b bc : Nat} {v1 v2 : B128} (ha : cellsAt h a 0 (mcells k w n1 v1)) (hb : cellsAt h b 0 (mcells k w n2 v2)) :
    CallsH Tryz.prog 169 #[sl a 1 ac, sl b 1 bc] h fun e h' => h' = h ∧ e = .returned (.bool (sameM k w n1 n2 v1 v2)) := by
  refine V169 _ _ _ _ _ _ h _ ⟨fun hf => absurd hf (by decide), fun _ => ?_⟩
  refine ⟨cntI 1 fun i q => q = h ∧ (i = 1 → sameM k w n1 n2 v1 v2 = true), cntM 1, cnt_0 ⟨rfl, by simp⟩, ?_⟩
  rintro x hp ⟨i, hi, hv, rfl, hf⟩
  cases hv
  refine ⟨fun hlt => ?_, fun hge => ?_⟩
  · have hin := cnt_lt hlt
    obtain rfl : i = 0 := by omega
    refine ⟨a, 0, rfl, by decide, by decide, _, _, _, _, _, ha, b, 0, rfl, by decide, by decide, _, _, _, _, _, hb, _, eqM k w n1 n2 v1 v2, fun hf => ⟨rfl, ?_⟩, fun hf => cnt_next (n := 1) (i := 0) (by decide) (by decide) ⟨rfl, fun _ => ?_⟩⟩
    · rw [Bool.not_eq_true'] at hf; rw [hf]
    · rwa [Bool.not_eq_false'] at hf
  · obtain rfl := cnt_ge hi hge
    exact ⟨rfl, by rw [hf rfl]⟩
end
end Go.Vc
