/- What is read by both readers is the same. -/
import Derived.Test.YtloieaoglpjffaaS3PkE
import Derived.Test.YtloieaoglpjffaaS3PkC
set_option maxRecDepth 10000
namespace Go.Vc
open Go Go.Proofs

/-- What is asked of a reader makes another one of it. -/
def rF (r : Rd) (i : Wa) : Rd := if i.kind = 1 then (r.uint i.most).2 else if i.kind = 2 then (r.fixed i.k).2 else if i.kind = 3 then (r.text i.k).2 else if i.kind = 4 then (r.bits i.k).2 else if i.kind = 5 then (r.raw i.k).2 else r

theorem rF_b (r : Rd) (i : Wa) : (rF r i).b = r.b := by
  unfold rF Rd.uint Rd.fixed Rd.text Rd.bits Rd.raw
  repeat' split
  all_goals rfl

def P2 (p q : Nat) : Nat → Prop := fun x => x = p ∨ x = q

section
variable {h h1 h2 : Hp} {p q : Nat} {r : Rd}

set_option maxHeartbeats 1000000 in
/-- turnoutlaw03.reads -/
theorem reads_c (R : RdAt h p r) (S : SdAt h q r) (hpq : p ≠ q) (hs : r.b.length ≤ 140737488355328) (i : Wa) (ok : i.Ok) :
    CallsH Try.prog 13 #[vP p, vP q, .agg (waV i).toArray] h fun e h' => Same (P2 p q) h h' ∧ RdAt h' p (rF r i) ∧ SdAt h' q (rF r i) ∧ e = .returned (.bool true) := by
  have w1 := ok.w1
  refine V13 _ _ _ _ _ _ h _ ?_
  intro b h1 hb e1
  have x1 : Ext h h1 := by rw [e1]; exact Ext.push _ _
  have c1 : h1[b]? = some (.cells (waV i).toArray 45) := by rw [e1, hb]; exact push_last
  clear e1
  have hb : b = h.size := hb
  have lb := (Array.getElem?_eq_some_iff.1 c1).1
  have lp := R.lt
  have lq := S.lt
  have R1 := R.ext x1
  have S1 := S.ext x1
  have nb : ¬ P1 p b := fun hh => by have hh : b = p := hh; omega
  have nq : ¬ P1 p q := fun hh => hpq (Eq.symm hh)
  have np : ¬ P1 q p := fun hh => hpq hh
  have keep : ∀ {hz : Hp}, Same (P1 p) h1 hz → hz[b]? = some (.cells (waV i).toArray 45) := fun y => (y.old b lb nb).trans c1
  have fin : ∀ {hy hz : Hp} {r' : Rd}, Same (P1 p) h1 hy → RdAt hy p r' → Same (P1 q) hy hz → SdAt hz q r' → rF r i = r' → Same (P2 p q) h hz ∧ RdAt hz p (rF r i) ∧ SdAt hz q (rF r i) := by
    rintro hy hz r' y1 Ry y2 Sz rfl
    refine ⟨(x1.same _).trans ((y1.more fun x hx _ => .inl hx).trans y2 fun x hx _ => .inr hx) fun _ h _ => h, Ry.other y2 np, Sz⟩
  refine ⟨fun l hr => l = [.bool true] ∧ Same (P2 p q) h hr ∧ RdAt hr p (rF r i) ∧ SdAt hr q (rF r i), ⟨_, cellsAt_one (cellH_at c1), fun k1 => ?_, fun k1 => ?_⟩, ?_⟩
  · have k1 : i.kind = 1 := of_decide_eq_true k1
    refine ⟨_, cellsAt_one (cellH_at c1), (ruint_c R1 i.most).mono ?_⟩
    rintro e h2 ⟨y2, R2, rfl⟩
    refine ⟨_, rfl, _, cellsAt_one (cellH_at (keep y2)), (suint_c (S1.other y2 nq) hs i.most).mono ?_⟩
    rintro e h3 ⟨y3, S3, rfl⟩
    exact ⟨_, rfl, by rw [decide_eq_true rfl], fin y2 R2 y3 S3 (by unfold rF; rw [if_pos k1])⟩
  have k1 : i.kind ≠ 1 := of_decide_eq_false k1
  refine ⟨fun k2 => ?_, fun k2 => ?_⟩
  · have k2 : i.kind = 2 := of_decide_eq_true k2
    refine ⟨_, cellsAt_one (cellH_at c1), (rfixed_c R1 i.k w1).mono ?_⟩
    rintro e h2 ⟨y2, R2, rfl⟩
    refine ⟨_, rfl, _, cellsAt_one (cellH_at (keep y2)), (sfixed_c (S1.other y2 nq) hs i.k).mono ?_⟩
    rintro e h3 ⟨y3, S3, rfl⟩
    exact ⟨_, rfl, by rw [decide_eq_true rfl], fin y2 R2 y3 S3 (by unfold rF; rw [if_neg k1, if_pos k2])⟩
  have k2 : i.kind ≠ 2 := of_decide_eq_false k2
  refine ⟨fun k3 => ?_, fun k3 => ?_⟩
  · have k3 : i.kind = 3 := of_decide_eq_true k3
    refine ⟨_, cellsAt_one (cellH_at c1), (rtext_c R1 i.k w1).mono ?_⟩
    rintro e h2 ⟨y2, R2, rfl⟩
    refine ⟨_, rfl, _, cellsAt_one (cellH_at (keep y2)), (stext_c (S1.other y2 nq) hs i.k w1).mono ?_⟩
    rintro e h3 ⟨y3, S3, rfl⟩
    exact ⟨_, rfl, by rw [decide_eq_true rfl], fin y2 R2 y3 S3 (by unfold rF; rw [if_neg k1, if_neg k2, if_pos k3])⟩
  have k3 : i.kind ≠ 3 := of_decide_eq_false k3
  refine ⟨fun k4 => ?_, fun k4 => ?_⟩
  · have k4 : i.kind = 4 := of_decide_eq_true k4
    refine ⟨_, cellsAt_one (cellH_at c1), (rbits_c R1 i.k).mono ?_⟩
    rintro e h2 ⟨y2, R2, rfl⟩
    have sy2 := y2.size
    refine ⟨_, _, rfl, ?_⟩
    intro b7 h3 hb7 e3
    have x3 : Ext h2 h3 := by rw [e3]; exact Ext.push _ _
    have c3 : h3[b7]? = some (.cells #[vU 0, vU 0] 34) := by rw [e3, hb7, zerosBits]; exact push_last
    have hb7 : b7 = h2.size := hb7
    clear e3
    obtain ⟨p1, p2, p3, p4⟩ := two_put c3 (((r.bits i.k).1 / 2 ^ 64 : Nat) : Int) (((r.bits i.k).1 % 2 ^ 64 : Nat) : Int)
    refine ⟨infoBits, p1, p2, p3, fun hz ez => ?_⟩
    have xz : Ext h2 hz := by rw [ez]; exact x3.over (setsH_same (B := fun x => x = b7) rfl) fun x hx => by omega
    have c7 : hz[b7]? = some (.cells #[vU ((r.bits i.k).1 / 2 ^ 64), vU ((r.bits i.k).1 % 2 ^ 64)] 34) := by rw [ez]; exact p4
    clear ez
    have yz : Same (P1 p) h1 hz := y2.trans (xz.same (P1 p)) fun _ h _ => h
    have l7 := (Array.getElem?_eq_some_iff.1 c7).1
    refine ⟨fun hr => hr[b7]? = some (.cells #[vU ((r.bits i.k).1 / 2 ^ 64), vU ((r.bits i.k).1 % 2 ^ 64)] 34), c7, _, _, fun hr hc => cellsAt_all (vs := [vU ((r.bits i.k).1 / 2 ^ 64), vU ((r.bits i.k).1 % 2 ^ 64)]) hc, _, cellsAt_one (cellH_at (keep yz)), (sbits_c (S1.other yz nq) hs i.k).mono ?_⟩
    rintro e h4 ⟨y4, S4, rfl⟩
    have sx1 := x1.size
    refine ⟨_, _, rfl, (y4.old b7 l7 (fun hh => by have hh : b7 = q := hh; omega)).trans c7, _, eqv_ints (n := 2) (k := .u64) (by kernel_rfl) [(((r.bits i.k).1 / 2 ^ 64 : Nat) : Int), (((r.bits i.k).1 % 2 ^ 64 : Nat) : Int)] [(((r.bits i.k).1 / 2 ^ 64 : Nat) : Int), (((r.bits i.k).1 % 2 ^ 64 : Nat) : Int)] rfl rfl, by rw [decide_eq_true rfl], fin yz (R2.ext xz) y4 S4 (by unfold rF; rw [if_neg k1, if_neg k2, if_neg k3, if_pos k4])⟩
  have k4 : i.kind ≠ 4 := of_decide_eq_false k4
  refine ⟨fun k5 => ?_, fun k5 => ?_⟩
  · have k5 : i.kind = 5 := of_decide_eq_true k5
    refine ⟨_, cellsAt_one (cellH_at c1), (rraw_c R1 i.k w1).mono ?_⟩
    rintro e h2 ⟨y2, R2, rfl⟩
    refine ⟨_, rfl, _, cellsAt_one (cellH_at (keep y2)), (sraw_c (S1.other y2 nq) hs i.k).mono ?_⟩
    rintro e h3 ⟨y3, S3, rfl⟩
    exact ⟨_, rfl, by rw [decide_eq_true rfl], fin y2 R2 y3 S3 (by unfold rF; rw [if_neg k1, if_neg k2, if_neg k3, if_neg k4, if_pos k5])⟩
  · have k5 : i.kind ≠ 5 := of_decide_eq_false k5
    have eF : rF r i = r := by unfold rF; rw [if_neg k1, if_neg k2, if_neg k3, if_neg k4, if_neg k5]
    exact ⟨rfl, fin (Same.refl _ _) R1 (Same.refl _ _) S1 eF⟩
  · rintro okb h2 ⟨hl, y2, R2, S2⟩
    cases hl
    refine (rfault_c R2).mono ?_
    rintro e h3 ⟨rfl, rfl⟩
    refine ⟨_, _, rfl, (rend_c R2).mono ?_⟩
    rintro e h4 ⟨rfl, rfl⟩
    refine ⟨_, rfl, fun hr => hr = h4, rfl, fun _ => (rat_c R2).mono ?_, fun hf => (by cases hf)⟩
    rintro e h5 ⟨rfl, rfl⟩
    refine ⟨_, rfl, rfl, q, 0, rfl, _, fun hr hc => (by rw [hc]; exact cellsAt_one (cellH_at S2.cell)), fun _ => ⟨q, 0, rfl, _, cellsAt_one (cellH_at S2.cell), fun _ => ⟨q, 0, rfl, _, cellsAt_one (cellH_at S2.cell), fun _ => (send_c S2).mono ?_, fun hf => absurd rfl (of_decide_eq_false hf)⟩, fun hf => absurd rfl (of_decide_eq_false hf)⟩, fun hf => absurd rfl (of_decide_eq_false hf)⟩
    rintro e h6 ⟨rfl, rfl⟩
    exact ⟨_, rfl, rfl, y2, R2, S2, by rw [decide_eq_true rfl]⟩

end

theorem snew {h h1 : Hp} (s : ByteArray) (hs : s.size ≤ 140737488355328) (e : h1 = h.push (.cells #[.string s, vZ 0, vZ 0, vZ 0] 43)) : SdAt h1 h.size (Rd.open (bl s)) := by
  refine ⟨?_, ⟨Nat.zero_le _, by show (bl s).length ≤ _; rw [bl_length]; omega, Nat.zero_le _⟩⟩
  rw [e, push_last]
  have : tx (bl s) = s := bl_inj (bl_tx _)
  show some _ = some (Obj.cells #[.string (tx (bl s)), vI 0, vZ 0, vI 0] 43 _)
  rw [this]; rfl

def lastWa : Wa := ⟨false, 0, 0, 0⟩
theorem lastWa_ok : lastWa.Ok := ⟨by decide, by decide, by decide, by decide, by decide⟩

set_option maxHeartbeats 1000000 in
/-- turnoutlaw03.PackReads -/
theorem reads_law (s1 s2 : ByteArray) (hs1 : s1.size ≤ 140737488351232) (hs2 : s2.size ≤ 140737488351232) (l : List Wa) (hok : ∀ x ∈ l, x.Ok) (hl : l.length ≤ 4398046510976) (h : Hp) {P0 : Option Addr} {n c : Nat} (sg : SegS h P0 n 4 (l.map waV)) :
    CallsH Try.prog 4 #[.string s1, .string s2, .slice P0 n c] h (RetX (.bool true) h) := by
  have hn : l.length = n := by have := sg.1; simpa using this
  refine V4 _ _ _ _ _ h _ ((awake_c h).mono ?_)
  rintro e h1 ⟨rfl, x1⟩
  refine ⟨_, rfl, (ropen_c s1 (by omega) h1).mono ?_⟩
  rintro e h2 ⟨x2, R2, rfl⟩
  refine ⟨_, rfl, (ropen_c s2 (by omega) h2).mono ?_⟩
  rintro e h3 ⟨x3, R3, rfl⟩
  obtain ⟨p1, hp1⟩ : ∃ p, p = h1.size := ⟨_, rfl⟩
  obtain ⟨p2, hp2⟩ : ∃ p, p = h2.size := ⟨_, rfl⟩
  rw [← hp1] at R2 ⊢
  rw [← hp2] at R3 ⊢
  have l2 := R2.lt
  have l3 := R3.lt
  refine ⟨_, rfl, fun l hr => l = [] ∧ hr = h3, ⟨false, ⟨fun hf => (by cases hf), fun _ => ⟨false, eqv_ptr uPR _, fun hf => (by cases hf), fun _ => ⟨false, eqv_ptr uPR _, rfl, rfl⟩⟩⟩, fun hf => (by cases hf), fun _ => ⟨rfl, rfl⟩⟩, ?_⟩
  rintro h4 ⟨_, rfl⟩
  intro q1 h5 hq1 e5 q2 h6 hq2 e6
  have S5 := snew s1 (by omega) e5
  have S6 := snew s2 (by omega) e6
  have x5 : Ext h4 h5 := by rw [e5]; exact Ext.push _ _
  have x6 : Ext h5 h6 := by rw [e6]; exact Ext.push _ _
  have s5 : h5.size = h4.size + 1 := by rw [e5]; simp
  clear e5 e6
  have hq1 : q1 = h4.size := hq1
  have hq2 : q2 = h5.size := hq2
  rw [← hq1] at S5
  rw [← hq2] at S6
  have z1 := x1.size
  have z2 := x2.size
  have z3 := x3.size
  have x06 : Ext h h6 := (((x1.trans x2).trans x3).trans x5).trans x6
  have cell : ∀ {hz : Hp} {i : Nat}, Ext h hz → (hc : i < l.length) → ∃ b o, P0 = some ⟨b, o, none⟩ ∧ 0 ≤ (i : Int) ∧ (i : Int) < n ∧ cellsAt hz b (o + Int.toNat (i : Int) * 4) (waV l[i]) := by
    intro hz i xz hc
    obtain ⟨b, o, hp', g1, g2, g3⟩ := (sg.ext xz).at (i := i) (by simpa using hc)
    rw [List.getElem_map] at g3
    exact ⟨b, o, hp', g1, g2, g3⟩
  refine ⟨fun lv hr => ∃ (i : Nat) (r1 r2 : Rd), lv = [vI i] ∧ i ≤ l.length ∧ Ext h hr ∧ RdAt hr p1 r1 ∧ SdAt hr q1 r1 ∧ RdAt hr p2 r2 ∧ SdAt hr q2 r2 ∧ r1.b = bl s1 ∧ r2.b = bl s2,
    fun lv _ => (l.length - numAt lv 0).toNat, ⟨0, _, _, rfl, Nat.zero_le _, x06, (R2.ext x3).ext (x5.trans x6), S5.ext x6, R3.ext (x5.trans x6), S6, rfl, rfl⟩, ?_⟩
  rintro iv h7 ⟨i, r1, r2, hlv, hi, x7, R1, S1, Rr2, S2, eb1, eb2⟩
  cases hlv
  have hr1 : r1.b.length ≤ 140737488355328 := by rw [eb1, bl_length]; omega
  have hr2 : r2.b.length ≤ 140737488355328 := by rw [eb2, bl_length]; omega
  have old1 : ∀ x, P2 p1 q1 x → h.size ≤ x := by rintro x (hx | hx) <;> omega
  have old2 : ∀ x, P2 p2 q2 x → h.size ≤ x := by rintro x (hx | hx) <;> omega
  have n12 : ¬ P2 p1 q1 p2 := by rintro (hx | hx) <;> omega
  have n12' : ¬ P2 p1 q1 q2 := by rintro (hx | hx) <;> omega
  have n21 : ¬ P2 p2 q2 p1 := by rintro (hx | hx) <;> omega
  have n21' : ¬ P2 p2 q2 q1 := by rintro (hx | hx) <;> omega
  refine ⟨fun hc => ?_, fun hc => ?_⟩
  · have hc : i < l.length := by have := of_decide_eq_true hc; omega
    obtain ⟨b, o, hP, k1, k2, k3⟩ := cell x7 hc
    have hmem := List.getElem_mem hc
    refine ⟨b, o, hP, k1, k2, _, ⟨k3.1, trivial⟩, fun ho => ⟨b, o, hP, k1, k2, _, _, _, _, k3, (reads_c Rr2 S2 (by omega) hr2 l[i] (hok _ hmem)).mono ?_⟩, fun ho => ⟨b, o, hP, k1, k2, _, _, _, _, k3, (reads_c R1 S1 (by omega) hr1 l[i] (hok _ hmem)).mono ?_⟩⟩
    · rintro e h8 ⟨y8, A8, B8, rfl⟩
      exact ⟨_, rfl, fun hf => (by cases hf), fun _ => ⟨_, incI (by omega), ⟨i + 1, r1, _, rfl, hc, x7.over y8 old2, R1.other y8 n21, S1.other y8 n21', A8, B8, eb1, by rw [rF_b, eb2]⟩, by simp only [numAt]; omega⟩⟩
    · rintro e h8 ⟨y8, A8, B8, rfl⟩
      exact ⟨_, rfl, fun hf => (by cases hf), fun _ => ⟨_, incI (by omega), ⟨i + 1, _, r2, rfl, hc, x7.over y8 old1, A8, B8, Rr2.other y8 n12, S2.other y8 n12', by rw [rF_b, eb1], eb2⟩, by simp only [numAt]; omega⟩⟩
  · refine (reads_c R1 S1 (by omega) hr1 lastWa lastWa_ok).mono ?_
    rintro e h8 ⟨y8, _, _, rfl⟩
    refine ⟨_, rfl, (reads_c (Rr2.other y8 n12) (S2.other y8 n12') (by omega) hr2 lastWa lastWa_ok).mono ?_⟩
    rintro e h9 ⟨y9, _, _, rfl⟩
    exact ⟨_, rfl, true, ⟨fun _ => ⟨rfl, rfl⟩, fun hf => (by cases hf)⟩, rfl, (x7.over y8 old1).over y9 old2⟩

end Go.Vc
