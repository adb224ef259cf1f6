import Derived.Test.YthkbecpgbjejkaaDoorS9WWrD
import Derived.Test.YthkbecpgbjejkaaDoorS9WWlR
import Derived.Test.YthkbecpgbjejkaaDoorS9WWlX
set_option maxRecDepth 10000
/- The document's log: New, Append, Sync. -/
namespace Go.Vc
open Go Go.Proofs Go.MapKept

theorem uPRL : Tryd.prog.underlying 62 = some (.pointer 119) := by kernel_rfl

def rlogV (q : Nat) (L : Lg) : List Value := [vP q, vI L.first, vI L.count, vU L.epoch, vI L.i, .string (tx L.opn), .bool L.dead]

structure RlX (C D : Nat → Prop) (h : Hp) (q : Nat) (τ : DS) (m : Nat) (L : Lg) : Prop where
  disk : RefAt rI h D q τ
  sub : ∀ b, D b → C b
  cell : h[m]? = some (.cells (rlogV q L).toArray 119)
  cm : C m
  dm : ¬ D m
  lt : ∀ b, C b → b < h.size
def RL (C : Nat → Prop) (h : Hp) (q : Nat) (τ : DS) (m : Nat) (L : Lg) : Prop := ∃ D, RlX C D h q τ m L

section
variable {C D : Nat → Prop} {h hs : Hp} {q m : Nat} {τ τ' : DS} {L : Lg}

theorem RlX.ext (W : RlX C D h q τ m L) (x : Ext h hs) : RlX C D hs q τ m L :=
  ⟨W.disk.ext x, W.sub, (x.old m (W.lt m W.cm)).trans W.cell, W.cm, W.dm, fun b hb => Nat.lt_of_lt_of_le (W.lt b hb) x.size⟩
theorem RL.ext (W : RL C h q τ m L) (x : Ext h hs) : RL C hs q τ m L := let ⟨D, w⟩ := W; ⟨D, w.ext x⟩
theorem RL.lt (W : RL C h q τ m L) : ∀ b, C b → b < h.size := let ⟨_, w⟩ := W; w.lt
theorem RL.keep (W : RL C h q τ m L) (hz : h.size ≤ hs.size) (k : ∀ b, C b → hs[b]? = h[b]?) : RL C hs q τ m L := by
  obtain ⟨D, w⟩ := W
  exact ⟨D, w.disk.keep hz fun b hb => k b (w.sub b hb), w.sub, (k m w.cm).trans w.cell, w.cm, w.dm, fun b hb => Nat.lt_of_lt_of_le (w.lt b hb) hz⟩
theorem RlX.go (W : RlX C D h q τ m L) (x : Same D h hs) (E : RefAt rI hs (GrowB D h hs) q τ') : RlX (GrowB C h hs) (GrowB D h hs) hs q τ' m L ∧ Kp C h (GrowB C h hs) hs :=
  ⟨⟨E, fun b hb => hb.imp (W.sub b) id, (x.old m (W.lt m W.cm) W.dm).trans W.cell, .inl W.cm, fun hg => by rcases hg with hg | hg; exact W.dm hg; have := W.lt m W.cm; omega, GrowB.lt W.lt x.size⟩, Kp.grow (x.more fun b hb _ => W.sub b hb)⟩
theorem RlX.goS (W : RlX C D h q τ m L) (x : Same D h hs) (E : RefAt rI hs D q τ') : RlX C D hs q τ' m L ∧ Kp C h C hs :=
  ⟨⟨E, W.sub, (x.old m (W.lt m W.cm) W.dm).trans W.cell, W.cm, W.dm, fun b hb => Nat.lt_of_lt_of_le (W.lt b hb) x.size⟩, Kp.same (x.more fun b hb _ => W.sub b hb)⟩
theorem RlX.set (W : RlX C D h q τ m L) {L' : Lg} {k : Nat} {v : Value} (hc : (rlogV q L).set k v = rlogV q L') : RlX C D (setsH h m k [v]) q τ m L' ∧ Kp C h C (setsH h m k [v]) := by
  refine ⟨⟨W.disk.keep (Nat.le_of_eq setsH_size.symm) fun b hb => setsH_ne fun e => W.dm (by rw [← e]; exact hb), W.sub, ?_, W.cm, W.dm, fun b hb => by rw [setsH_size]; exact W.lt b hb⟩, Kp.same (setsH_same W.cm)⟩
  rw [setsH_at W.cell]
  simp only [layC, List.setIfInBounds_toArray, hc]
theorem RlX.at (W : RlX C D h q τ m L) {k : Nat} {v : Value} (hv : (rlogV q L)[k]? = some v) : cellsAt h m (0 + k) [v] := by
  refine cellsAt_one (cellH_at W.cell |>.trans ?_)
  rw [Nat.zero_add, ← hv]; simp
theorem RlX.wr (W : RlX C D h q τ m L) {k : Nat} (hk : k < 7) : wrAt h m (0 + k) 1 := wrAt_of W.cell (by show 0 + k + 1 ≤ 7; omega) (.inr (.inr (Nat.le_refl _)))

theorem rroom_c (W : RL C h q τ m L) (ok : L.Ok) : CallsH Tryd.prog 77 #[vP m] h fun e h' => h' = h ∧ e = .returned (vZ L.roomZ) := by
  obtain ⟨D, W⟩ := W
  have := ok.op
  have hz : (tx L.opn).size = L.opn.length := tx_size _
  refine V77 _ h _ ⟨m, 0, rfl, _, W.at rfl, m, 0, rfl, _, W.at rfl, fun hc => ⟨rfl, ?_⟩, fun hc => ⟨m, 0, rfl, _, W.at rfl, (491 - (L.opn.length : Int)), by rw [hz]; exact wrapI64 (by omega) (by omega), rfl, ?_⟩⟩
  · have hc : (L.i : Int) = L.count := of_decide_eq_true hc
    unfold Lg.roomZ; rw [if_pos (by omega)]
  · have hc : ¬ (L.i : Int) = L.count := of_decide_eq_false hc
    unfold Lg.roomZ; rw [if_neg (by omega)]

theorem rfree_c (W : RL C h q τ m L) (ok : L.Ok) : CallsH Tryd.prog 52 #[vP m] h fun e h' => h' = h ∧ e = .returned (vI L.free) := by
  have W0 := W
  obtain ⟨D, W⟩ := W
  have o1 := ok.op
  have o2 := ok.le
  have o3 := ok.fit
  refine V52 _ h _ ⟨fun _ hq => hq = h ∧ L.dead = false ∧ L.i ≠ L.count, ⟨decide (L.dead = true ∨ L.i = L.count), ⟨m, 0, rfl, _, W.at rfl, fun hd => ⟨rfl, by simp [hd]⟩, fun hd => ⟨m, 0, rfl, _, W.at rfl, m, 0, rfl, _, W.at rfl, rfl, by simp [hd]; omega⟩⟩, fun hB => ⟨rfl, ?_⟩, fun hB => ?_⟩, ?_⟩
  · have hB := of_decide_eq_true hB
    unfold Lg.free; rw [if_pos hB]; rfl
  · have hB := of_decide_eq_false hB
    refine ⟨rfl, ?_, fun e => hB (.inr e)⟩
    cases hd : L.dead with
    | false => rfl
    | true => exact (hB (.inl hd)).elim
  rintro hq ⟨rfl, hd, hne⟩
  refine (rroom_c W0 ok).mono ?_
  rintro e h' ⟨rfl, rfl⟩
  have hr : L.roomZ = 491 - L.opn.length := by unfold Lg.roomZ; rw [if_neg hne]
  rw [hr]
  refine ⟨_, rfl, fun v hq => hq = h' ∧ v = [vI (488 - L.opn.length)], ⟨fun hc => ⟨_, wrapI64 (by omega) (by omega), rfl, ?_⟩, fun hc => ⟨rfl, ?_⟩⟩, ?_⟩
  · have hc := of_decide_eq_true hc
    congr 2; omega
  · have hc := of_decide_eq_false hc
    congr 2; omega
  rintro n hy ⟨rfl, hv⟩
  cases hv
  refine ⟨m, 0, rfl, _, W.at rfl, _, wrapI64 (by omega) (by omega), m, 0, rfl, _, W.at rfl, _, wrapI64 (by omega) (by omega), _, wrapI64 (by omega) (by omega), _, wrapI64 (by omega) (by omega), rfl, ?_⟩
  have : (min (((488 - L.opn.length : Nat) : Int) + 488 * ((L.count : Int) - 1 - L.i)) 65536) = (L.free : Int) := by
    unfold Lg.free Lg.cap
    rw [if_neg (by rintro (e | e); rw [hd] at e; cases e; exact hne e)]
    omega
  rw [this]

theorem rat_c (W : RL C h q τ m L) : CallsH Tryd.prog 58 #[vP m] h fun e h' => h' = h ∧ e = .returned (.tuple #[vI L.i, vI L.opn.length]) := by
  obtain ⟨D, W⟩ := W
  refine V58 _ h _ ⟨m, 0, rfl, _, W.at rfl, m, 0, rfl, _, W.at rfl, rfl, ?_⟩
  rw [tx_size]

theorem rlwrite_c (W : RL C h q τ m L) (ok : L.Ok) (hl : τ.pend.length ≤ 9000000000000) :
    CallsH Tryd.prog 78 #[vP m] h fun e hs => ∃ C', RL C' hs q (writeL τ L).1 m (writeL τ L).2.1 ∧ Kp C h C' hs ∧ e = .returned (vZ (writeL τ L).2.2) := by
  obtain ⟨D, W⟩ := W
  have o1 := ok.op
  have o2 := ok.le
  have o3 := ok.fit
  have o4 := ok.ep
  have okF : L.frm.Ok := ⟨by show (-9223372036854775808 : Int) ≤ 3; decide, by show (3 : Int) ≤ _; decide, o4, by show _ ≤ (L.i : Int); omega, by show (L.i : Int) ≤ _; omega, by show (tx L.opn).size ≤ _; rw [tx_size]; omega⟩
  refine V78 _ h _ ⟨m, 0, rfl, _, W.at rfl, m, 0, rfl, _, W.at rfl, m, 0, rfl, _, W.at rfl, ((L.first + L.i : Nat) : Int), by rw [wrapI64] <;> omega, m, 0, rfl, _, W.at rfl, m, 0, rfl, _, W.at rfl, m, 0, rfl, _, W.at rfl, (rPut_c W.disk ((L.first + L.i : Nat) : Int) L.frm okF hl).mono ?_⟩
  rintro e h1 ⟨y1, D1, rfl⟩
  obtain ⟨W1, K1⟩ := W.go y1 D1
  refine ⟨_, rfl, fun hc => ?_, fun hc => ?_⟩
  · have hc : (putF τ ((L.first + L.i : Nat) : Int) L.frm).2 ≠ 0 := of_decide_eq_true hc
    refine ⟨m, 0, rfl, rfl, W1.wr (by decide), ?_⟩
    rintro h2 rfl
    obtain ⟨W2, K2⟩ := W1.set (L' := { L with dead := true }) (k := 0 + 6) (v := .bool true) rfl
    have e1 : writeL τ L = ((putF τ ((L.first + L.i : Nat) : Int) L.frm).1, { L with dead := true }, (putF τ ((L.first + L.i : Nat) : Int) L.frm).2) := by unfold writeL; rw [if_pos hc]
    rw [e1]
    exact ⟨_, ⟨_, W2⟩, K1.trans K2, rfl⟩
  · have hc : ¬ (putF τ ((L.first + L.i : Nat) : Int) L.frm).2 ≠ 0 := of_decide_eq_false hc
    have e1 : writeL τ L = ((putF τ ((L.first + L.i : Nat) : Int) L.frm).1, { L with i := L.i + 1, opn := [] }, 0) := by unfold writeL; rw [if_neg hc]
    rw [e1]
    refine ⟨m, 0, rfl, _, W1.at rfl, _, incI (by omega), m, 0, rfl, rfl, W1.wr (by decide), ?_⟩
    rintro h2 rfl
    obtain ⟨W2, K2⟩ := W1.set (L' := { L with i := L.i + 1 }) (k := 0 + 4) (v := vI (L.i + 1)) rfl
    refine ⟨m, 0, rfl, rfl, W2.wr (by decide), ?_⟩
    rintro h3 rfl
    obtain ⟨W3, K3⟩ := W2.set (L' := { L with i := L.i + 1, opn := [] }) (k := 0 + 5) (v := .string ⟨#[]⟩) rfl
    exact ⟨_, ⟨_, W3⟩, (K1.trans K2).trans K3, rfl⟩

theorem rpiece_c (k : Nat) (hk : k < 256) (s : ByteArray) (hs : s.size ≤ 1000) (h : Hp) : CallsH Tryd.prog 92 #[vI k, .string s] h fun e h' => Ext h h' ∧ e = .returned (.string (tx (pieceB k (bl s)))) := by
  have hd : Int.tdiv (s.size : Int) 256 = ((s.size / 256 : Nat) : Int) := (Int.ofNat_tdiv s.size 256).symm
  have hm : Int.tmod (s.size : Int) 256 = ((s.size % 256 : Nat) : Int) := (Int.ofNat_tmod s.size 256).symm
  refine V92 _ _ h _ ⟨_, wrapU8 _, by decide, ((s.size / 256 : Nat) : Int), by rw [hd, wrapI64] <;> omega, _, wrapU8 _, by decide, _, hm, _, wrapU8 _, ?_⟩
  have ev : ([Value.int .u8 ((k : Int) % 256), .int .u8 (((s.size / 256 : Nat) : Int) % 256), .int .u8 (((s.size % 256 : Nat) : Int) % 256)] : List Value) = byteVs [UInt8.ofNat k, UInt8.ofNat (s.size / 256), UInt8.ofNat s.size] := by
    show _ = [Value.int .u8 ((UInt8.ofNat k).toNat : Int), .int .u8 ((UInt8.ofNat (s.size / 256)).toNat : Int), .int .u8 ((UInt8.ofNat s.size).toNat : Int)]
    rw [u8_nat, u8_nat, u8_nat]
    have e1 : (((s.size % 256 : Nat) : Int) % 256) = ((s.size % 256 : Nat) : Int) := by omega
    rw [e1]; rfl
  refine semH_build rowB (vs := [.int .u8 ((k : Int) % 256), .int .u8 (((s.size / 256 : Nat) : Int) % 256), .int .u8 (((s.size % 256 : Nat) : Int) % 256)]) rfl rfl (by simp) (by simp) (by simp [Value.oneCell']) ⟨_, _, _, rfl, ?_⟩
  rw [ev]
  refine semH_toText (t := tx [UInt8.ofNat k, UInt8.ofNat (s.size / 256), UInt8.ofNat s.size]) uBs uB uStr ⟨by show (byteVs _).length = _; simp [byteVs, tx], .inr ⟨_, _, rfl, ?_⟩⟩ ⟨_, rfl, ?_, _, rfl, Ext.push _ _, ?_⟩
  · show cellsAt _ _ _ (byteVs (bl (tx _)))
    rw [bl_tx]
    exact cellsAt_all push_last
  · rw [tx_size]; simp; omega
  · congr 2

set_option maxHeartbeats 1000000 in
theorem rappend_c (W : RL C h q τ m L) (ok : L.Rdy) (r : ByteArray) (hl : τ.pend.length ≤ 8999999900000) :
    CallsH Tryd.prog 76 #[vP m, .string r] h fun e hs => ∃ C', RL C' hs q (appL τ L r).1 m (appL τ L r).2.1 ∧ Kp C h C' hs ∧ e = .returned (vZ (appL τ L r).2.2) := by
  have W0 := W
  obtain ⟨D, W⟩ := W
  refine V76 _ _ h _ ⟨m, 0, rfl, _, W.at rfl, fun hd => ?_, fun hd => ⟨fun he => ?_, fun he => ⟨fun hc => ?_, fun hc => (rfree_c W0 ok.ok).mono ?_⟩⟩⟩
  · have e1 : appL τ L r = (τ, L, 191) := by unfold appL; rw [if_pos hd]
    rw [e1]; exact ⟨C, W0, Kp.refl _ _, rfl⟩
  · have he : r = ⟨#[]⟩ := of_decide_eq_true he
    have e1 : appL τ L r = (τ, L, 1) := by unfold appL; rw [if_neg (by rw [hd]; decide), if_pos he]
    rw [e1]; exact ⟨C, W0, Kp.refl _ _, rfl⟩
  · have he : r ≠ ⟨#[]⟩ := of_decide_eq_false he
    have hc : (65536 : Int) < r.size := of_decide_eq_true hc
    have e1 : appL τ L r = (τ, L, 2) := by unfold appL; rw [if_neg (by rw [hd]; decide), if_neg he, if_pos (by omega)]
    rw [e1]; exact ⟨C, W0, Kp.refl _ _, rfl⟩
  rintro e hz ⟨rfl, rfl⟩
  have he : r ≠ ⟨#[]⟩ := of_decide_eq_false he
  have hc : ¬ (65536 : Int) < r.size := of_decide_eq_false hc
  refine ⟨_, rfl, fun hf => ?_, fun hf => ?_⟩
  · have hf : (L.free : Int) < r.size := of_decide_eq_true hf
    have e1 : appL τ L r = (τ, L, 190) := by unfold appL; rw [if_neg (by rw [hd]; decide), if_neg he, if_neg (by omega), if_pos (by omega)]
    rw [e1]; exact ⟨C, W0, Kp.refl _ _, rfl⟩
  have hf : ¬ (L.free : Int) < r.size := of_decide_eq_false hf
  have e0 : appL τ L r = appR r.size true (bl r) τ L := by unfold appL; rw [if_neg (by rw [hd]; decide), if_neg he, if_neg (by omega), if_neg (by omega)]
  rw [e0]
  have g0 : L.Go (bl r) := ok.go hd (by rw [bl_length]; omega) fun e => he (bl_inj e)
  refine ⟨fun v hq => ∃ (k a : Nat) (C1 : Nat → Prop) (υ : DS) (M : Lg), v = [vI a] ∧ a ≤ r.size ∧ r.size - a ≤ k ∧ k ≤ 65536 ∧ RL C1 hq q υ m M ∧ Kp C hz C1 hq ∧ M.Go ((bl r).drop a) ∧ appR r.size true (bl r) τ L = appR k (decide (a = 0)) ((bl r).drop a) υ M ∧ υ.pend.length + k ≤ τ.pend.length + r.size,
    fun v _ => (r.size - numAt v 0).toNat, ⟨r.size, 0, C, τ, L, rfl, Nat.zero_le _, Nat.sub_le _ _, by omega, W0, Kp.refl _ _, by rw [List.drop_zero]; exact g0, by rw [List.drop_zero]; rfl, Nat.le_refl _⟩, ?_⟩
  rintro a0 hq ⟨k, a, C1, υ, M, hv, ha, hsk, hk, W1, K1, g, hrun, hpl⟩
  cases hv
  have hrl : ((bl r).drop a).length = r.size - a := by rw [List.length_drop, bl_length]
  refine ⟨fun hc => ?_, fun hc => ?_⟩
  rotate_left
  · have hc : ¬ (a : Int) < r.size := of_decide_eq_false hc
    have hnil : (bl r).drop a = [] := List.eq_nil_of_length_eq_zero (by omega)
    rw [hnil, appR_nil] at hrun
    rw [hrun]
    exact ⟨C1, W1, K1, rfl⟩
  have hc : (a : Int) < r.size := of_decide_eq_true hc
  have hbn : (bl r).drop a ≠ [] := fun e => by rw [e] at hrl; simp at hrl; omega
  obtain ⟨k, rfl⟩ : ∃ j, k = j + 1 := ⟨k - 1, by omega⟩
  obtain ⟨g1, g2⟩ := g.lt hbn
  have g3 := g.op
  have hrz : M.roomZ = 491 - M.opn.length := by unfold Lg.roomZ; rw [if_neg (by omega)]
  obtain ⟨n, hn⟩ : ∃ n, n = stepN M ((bl r).drop a) := ⟨_, rfl⟩
  have hst' := @stepN_le M ((bl r).drop a)
  have hsp := stepN_pos g3 hbn
  have hst : min ((r.size : Int) - a) ((491 : Int) - (M.opn.length : Int) - 3) = (n : Int) := by rw [hn]; unfold stepN; omega
  have hs488 : n ≤ 488 := by rw [hn]; unfold stepN; omega
  rw [← hn] at hst' hsp
  refine ⟨_, wrapI64 (by omega) (by omega), (rroom_c W1 g.ok).mono ?_⟩
  rintro e hq ⟨rfl, rfl⟩
  rw [hrz]
  refine ⟨_, rfl, _, wrapI64 (by omega) (by omega), ?_⟩
  rw [hst]
  obtain ⟨kd, hkd⟩ : ∃ kd, kd = kindB (decide (a = 0)) (decide (stepN M ((bl r).drop a) = ((bl r).drop a).length)) := ⟨_, rfl⟩
  have hkd2 : kd = kindB (decide (a = 0)) (decide (n = r.size - a)) := by rw [hkd, ← hn, hrl]
  have hkl : kd < 256 := by rw [hkd]; exact kindB_lt _ _
  refine ⟨fun v hy => v = [vI kd] ∧ hy = hq, ⟨decide (a = 0 ∧ n = r.size), ⟨fun z => ⟨rfl, ?_⟩, fun z => ⟨rfl, ?_⟩⟩, fun hB => ⟨?_, rfl⟩, fun hB => ⟨fun z => ⟨?_, rfl⟩, fun z => ⟨((a + n : Nat) : Int), by rw [wrapI64] <;> omega, fun z2 => ⟨?_, rfl⟩, fun z2 => ⟨?_, rfl⟩⟩⟩⟩, ?_⟩
  · have z := of_decide_eq_true z
    apply decide_eq_decide.2; omega
  · have z := of_decide_eq_false z
    exact decide_eq_false (by omega)
  · have hB := of_decide_eq_true hB
    rw [hkd2, decide_eq_true (show a = 0 by omega), decide_eq_true (show n = r.size - a by omega)]; rfl
  · have hB := of_decide_eq_false hB
    have z := of_decide_eq_true z
    rw [hkd2, decide_eq_true (show a = 0 by omega), decide_eq_false (show ¬ n = r.size - a by omega)]; rfl
  · have z := of_decide_eq_false z
    have z2 := of_decide_eq_true z2
    rw [hkd2, decide_eq_false (show ¬ a = 0 by omega), decide_eq_true (show n = r.size - a by omega)]; rfl
  · have z := of_decide_eq_false z
    have z2 := of_decide_eq_false z2
    rw [hkd2, decide_eq_false (show ¬ a = 0 by omega), decide_eq_false (show ¬ n = r.size - a by omega)]; rfl
  rintro wh hy ⟨hv, rfl⟩
  cases hv
  obtain ⟨D1, X1⟩ := W1
  obtain ⟨pc, hpc⟩ : ∃ pc, pc = r.extract a (a + n) := ⟨_, rfl⟩
  have hbp : bl pc = ((bl r).drop a).take n := by rw [hpc, bl_extract, Nat.add_sub_cancel_left]
  have hps : pc.size = n := by rw [hpc, ByteArray.size_extract]; omega
  refine ⟨fun hx => hx[m]? = some (.cells (rlogV q M).toArray 119), X1.cell, m, 0, rfl, tx M.opn, fun hx cc => ?_, ((a + n : Nat) : Int), by rw [wrapI64] <;> omega, a, rfl, a + n, rfl, by omega, by omega, pc, hpc.symm, (rpiece_c kd hkl pc (by omega) hy).mono ?_⟩
  · exact cellsAt_one (cellH_at cc)
  rintro e h4 ⟨x4, rfl⟩
  have X4 := X1.ext x4
  have eput : tx M.opn ++ tx (pieceB kd (bl pc)) = tx (putL (decide (a = 0)) ((bl r).drop a) M).opn := by
    rw [tx_app]
    show _ = tx (M.opn ++ pieceB (kindB (decide (a = 0)) (decide (stepN M ((bl r).drop a) = ((bl r).drop a).length))) (((bl r).drop a).take (stepN M ((bl r).drop a))))
    rw [← hkd, ← hn, hbp]
  refine ⟨_, rfl, X4.cell, by rw [tx_size, tx_size, pieceB_length, bl_length]; omega, _, eput, m, 0, rfl, rfl, X4.wr (by decide), ?_⟩
  rintro h5 rfl
  obtain ⟨X5, K5⟩ := X4.set (L' := putL (decide (a = 0)) ((bl r).drop a) M) (k := 0 + 5) (v := .string (tx (putL (decide (a = 0)) ((bl r).drop a) M).opn)) rfl
  have W5 : RL _ _ q υ m (putL (decide (a = 0)) ((bl r).drop a) M) := ⟨_, X5⟩
  have K05 := (K1.trans (Kp.ext C1 x4)).trans K5
  refine ⟨((a + n : Nat) : Int), by rw [wrapI64] <;> omega, (rroom_c W5 (putL_ok g.ok g3)).mono ?_⟩
  rintro e h6 ⟨rfl, rfl⟩
  have hrz5 : (putL (decide (a = 0)) ((bl r).drop a) M).roomZ = 491 - (putL (decide (a = 0)) ((bl r).drop a) M).opn.length := by
    unfold Lg.roomZ; rw [if_neg (by show ¬ M.i = M.count; omega)]
  rw [hrz5]
  have erun := hrun
  rw [appR, if_neg hbn] at erun
  have hdrop : ((bl r).drop a).drop (stepN M ((bl r).drop a)) = (bl r).drop (a + n) := by rw [← hn, List.drop_drop]
  have hdec : decide (a + n = 0) = false := decide_eq_false (by omega)
  refine ⟨_, rfl, fun hc => ?_, fun hc => ?_⟩
  · have hc : (491 : Int) - ((putL (decide (a = 0)) ((bl r).drop a) M).opn.length : Int) < 4 := of_decide_eq_true hc
    rw [if_pos (by omega)] at erun
    refine (rlwrite_c W5 (putL_ok g.ok g3) (by omega)).mono ?_
    rintro e h7 ⟨C7, W7, K7, rfl⟩
    refine ⟨_, rfl, fun hw => ?_, fun hw => ?_⟩
    · have hw : (writeL υ (putL (decide (a = 0)) ((bl r).drop a) M)).2.2 ≠ 0 := of_decide_eq_true hw
      rw [if_pos hw] at erun
      rw [erun]
      exact ⟨C7, W7, K05.trans K7, rfl⟩
    · have hw : ¬ (writeL υ (putL (decide (a = 0)) ((bl r).drop a) M)).2.2 ≠ 0 := of_decide_eq_false hw
      rw [if_neg hw, hdrop] at erun
      have hm := @writeL_more υ (putL (decide (a = 0)) ((bl r).drop a) M)
      have gn := g.next (σ := υ) (b := decide (a = 0)) hbn hw
      rw [hdrop] at gn
      exact ⟨⟨k, a + n, C7, _, _, rfl, by omega, by omega, by omega, W7, K05.trans K7, gn, by rw [hdec]; exact erun, by omega⟩, by simp only [numAt]; omega⟩
  · have hc : ¬ (491 : Int) - ((putL (decide (a = 0)) ((bl r).drop a) M).opn.length : Int) < 4 := of_decide_eq_false hc
    rw [if_neg (by omega), hdrop] at erun
    have gn := g.rest (b := decide (a = 0)) hbn (by omega)
    rw [hdrop] at gn
    exact ⟨⟨k, a + n, _, _, _, rfl, by omega, by omega, by omega, W5, K05, gn, by rw [hdec]; exact erun, by omega⟩, by simp only [numAt]; omega⟩

theorem rsync_c (W : RL C h q τ m L) (ok : L.Ok) (hl : τ.pend.length ≤ 9000000000000) :
    CallsH Tryd.prog 53 #[vP m] h fun e hs => ∃ C', RL C' hs q (syncL τ L).1 m (syncL τ L).2.1 ∧ Kp C h C' hs ∧ e = .returned (vZ (syncL τ L).2.2) := by
  have W0 := W
  obtain ⟨D, W⟩ := W
  refine V53 _ h _ ⟨m, 0, rfl, _, W.at rfl, fun hd => ?_, fun hd => ?_⟩
  · have e1 : syncL τ L = (τ, L, 191) := by unfold syncL; rw [if_pos hd]
    rw [e1]
    exact ⟨C, W0, Kp.refl _ _, rfl⟩
  have hdn : ¬ L.dead = true := by rw [hd]; decide
  refine ⟨fun _ hq => ∃ C' υ M, RL C' hq q υ m M ∧ Kp C h C' hq ∧ M.dead = false ∧ syncL τ L = endS υ.flush M, ⟨m, 0, rfl, _, W.at rfl, fun hc => ?_, fun hc => ?_⟩, ?_⟩
  · have hc : tx L.opn ≠ ⟨#[]⟩ := of_decide_eq_true hc
    have hne : ¬ L.opn = [] := fun e => hc (by rw [e]; rfl)
    refine (rlwrite_c W0 ok hl).mono ?_
    rintro e h1 ⟨C1, W1, K1, rfl⟩
    refine ⟨_, rfl, fun hw => ?_, fun hw => ?_⟩
    · have hw : (writeL τ L).2.2 ≠ 0 := of_decide_eq_true hw
      have e1 : syncL τ L = writeL τ L := by unfold syncL; rw [if_neg hdn, if_neg hne, if_pos hw]
      rw [e1]; exact ⟨C1, W1, K1, rfl⟩
    · have hw : ¬ (writeL τ L).2.2 ≠ 0 := of_decide_eq_false hw
      exact ⟨C1, _, _, W1, K1, by rw [writeL_code hw]; exact hd, by unfold syncL; rw [if_neg hdn, if_neg hne, if_neg hw]⟩
  · have hc : tx L.opn = ⟨#[]⟩ := Decidable.of_not_not (show ¬ tx L.opn ≠ ⟨#[]⟩ from of_decide_eq_false hc)
    have he : L.opn = [] := by have := congrArg bl hc; rw [bl_tx] at this; exact this
    exact ⟨C, _, _, W0, Kp.refl _ _, hd, by unfold syncL; rw [if_neg hdn, if_pos he]⟩
  rintro h1 ⟨C1, υ, M, ⟨D1, W1⟩, K1, hMd, e1⟩
  refine ⟨m, 0, rfl, _, W1.at rfl, (rFlush_c W1.disk).mono ?_⟩
  rintro e h2 ⟨y2, _, D2, rfl⟩
  obtain ⟨W2, K2⟩ := W1.goS y2 D2
  rw [e1]
  refine ⟨_, rfl, fun hw => ⟨m, 0, rfl, rfl, W2.wr (by decide), ?_⟩, fun hw => ?_⟩
  · rintro h3 rfl
    have hw : υ.flush.2 ≠ 0 := of_decide_eq_true hw
    obtain ⟨W3, K3⟩ := W2.set (L' := { M with dead := true }) (k := 0 + 6) (v := .bool true) rfl
    have : endS υ.flush M = (υ.flush.1, { M with dead := true }, υ.flush.2) := by unfold endS; rw [decide_eq_true hw]
    rw [this]
    exact ⟨C1, ⟨_, W3⟩, (K1.trans K2).trans K3, rfl⟩
  · have hw : ¬ υ.flush.2 ≠ 0 := of_decide_eq_false hw
    have : endS υ.flush M = (υ.flush.1, M, υ.flush.2) := by unfold endS; rw [decide_eq_false hw, ← hMd]
    rw [this]
    exact ⟨C1, ⟨_, W2⟩, K1.trans K2, rfl⟩

theorem rnew_c {B : Nat → Prop} (W : RefAt rI h B q τ) (first count : Int) (e : Nat) (h1 : first ≤ 9223372036854775807) : CallsH Tryd.prog 50 #[vP q, vZ first, vZ count, vU e] h fun r h' =>
    ((regionB τ.safe.length first count && epochB e) = false ∧ h' = h ∧ r = .returned (.tuple #[.pointer none, vZ 1])) ∨
    ((regionB τ.safe.length first count && epochB e) = true ∧ Ext h h' ∧ RL (fun b => B b ∨ b = h.size) h' q τ h.size (newL first count e) ∧ (newL first count e).Ok ∧ r = .returned (.tuple #[vP h.size, vZ 0])) := by
  have hm := W.ok.most
  refine V50 _ _ _ _ h _ ((region_c W first count h1).mono ?_)
  rintro r h' ⟨rfl, rfl⟩
  refine ⟨_, rfl, fun _ hq => hq = h' ∧ (regionB τ.safe.length first count && epochB e) = true, ⟨!(regionB τ.safe.length first count && epochB e), ⟨fun hr => ⟨rfl, ?_⟩, fun hr => ⟨fun h1 => ⟨rfl, ?_⟩, fun h1 => ⟨rfl, ?_⟩⟩⟩, fun hB => .inl ⟨by rwa [Bool.not_eq_true'] at hB, rfl, rfl⟩, fun hB => ⟨rfl, by simpa using hB⟩⟩, ?_⟩
  · rw [show regionB τ.safe.length first count = false by simpa using hr]; rfl
  · have h1 := of_decide_eq_true h1
    rw [show epochB e = false from decide_eq_false (by omega)]; simp
  · have h1 := of_decide_eq_false h1
    rw [show regionB τ.safe.length first count = true by simpa using hr]
    unfold epochB
    by_cases h2 : (9223372036854775807 : Int) < (e : Int)
    · rw [decide_eq_true h2, decide_eq_false (by omega)]; rfl
    · rw [decide_eq_false h2, decide_eq_true (by omega)]; rfl
  rintro hq ⟨rfl, hok⟩ b h2 rfl rfl
  have hr : regionB τ.safe.length first count = true ∧ epochB e = true := by simpa using hok
  have hrr : 0 ≤ first ∧ 1 ≤ count ∧ first < τ.safe.length ∧ count ≤ τ.safe.length - first := of_decide_eq_true hr.1
  have hee : 1 ≤ e ∧ e ≤ 9223372036854775807 := of_decide_eq_true hr.2
  have x := Ext.push hq (.cells #[.pointer (some ⟨q, 0, none⟩), vZ first, vZ count, .int .u64 (e : Int), vZ 0, .string ⟨#[]⟩, .bool false] 119)
  have hlt := W.lt
  refine .inr ⟨hok, x, ⟨B, W.ext x, fun b hb => .inl hb, ?_, .inr rfl, fun hb => by have := hlt _ hb; omega, ?_⟩, ⟨by show 1 ≤ count.toNat; omega, by show first.toNat + count.toNat ≤ 4096; omega, by show e < _; omega, Nat.zero_le _, Nat.zero_le _⟩, rfl⟩
  · rw [push_last]
    show _ = some (Obj.cells #[vP q, vI first.toNat, vI count.toNat, vU e, vI 0, .string ⟨#[]⟩, .bool false] 119)
    have e1 : vI first.toNat = vZ first := congrArg (Value.int .i64) (by omega)
    have e2 : vI count.toNat = vZ count := congrArg (Value.int .i64) (by omega)
    rw [e1, e2]
    rfl
  · rintro b (hb | rfl)
    · exact Nat.lt_of_lt_of_le (hlt b hb) x.size
    · simp

end
end Go.Vc

/- WalPlays: a disk with its log, and the document's. -/
namespace Go.Vc
open Go Go.Proofs Go.MapKept

/-! ## How much waits -/

theorem writeL_rem {σ : DS} {L : Lg} (hi : L.i < L.count) : (writeL σ L).1.pend.length + ((writeL σ L).2.1.count - (writeL σ L).2.1.i) ≤ σ.pend.length + (L.count - L.i) ∧ (writeL σ L).2.1.count = L.count := by
  have hf : ∀ {n : Int} {f : Frm}, (putF σ n f).2 ≠ 0 → (putF σ n f).1.pend.length = σ.pend.length := by
    intro n f h
    have rp : (σ.read n).1.pend = σ.pend := read_pend
    have st := (DS.stepped_safe (σ.read n).1).2.1
    unfold putF at h ⊢
    split
    · rfl
    · rename_i h1
      rw [if_neg h1] at h
      split
      · rw [rp]
      · rename_i h2
        rw [if_neg h2] at h
        unfold DS.write at h ⊢
        split
        · rename_i h3
          rw [if_pos h3] at h
          split
          · rename_i h4
            rw [if_pos h4] at h
            split
            · rw [st, rp]
            · rename_i h5
              rw [if_neg h5] at h
              exact (h rfl).elim
          · rw [rp]
        · rw [rp]
  unfold writeL
  split
  · rename_i h
    exact ⟨by show (putF σ _ _).1.pend.length + (L.count - L.i) ≤ _; rw [hf h]; exact Nat.le_refl _, rfl⟩
  · have := @put_more σ ((L.first + L.i : Nat) : Int) L.frm
    exact ⟨by show (putF σ _ _).1.pend.length + (L.count - (L.i + 1)) ≤ _; omega, rfl⟩

theorem appR_rem : ∀ (k : Nat) (b : Bool) (r : List UInt8) (σ : DS) (L : Lg), L.Go r → (appR k b r σ L).1.pend.length + ((appR k b r σ L).2.1.count - (appR k b r σ L).2.1.i) ≤ σ.pend.length + (L.count - L.i) ∧ (appR k b r σ L).2.1.count = L.count := by
  intro k
  induction k with
  | zero => intro b r σ L _; exact ⟨Nat.le_refl _, rfl⟩
  | succ k ih =>
    intro b r σ L g
    rw [appR]
    split
    · exact ⟨Nat.le_refl _, rfl⟩
    · rename_i hr
      split
      · obtain ⟨w1, w2⟩ := writeL_rem (σ := σ) (L := putL b r L) (g.lt hr).1
        have e1 : (putL b r L).count = L.count := rfl
        have e2 : (putL b r L).i = L.i := rfl
        split
        · exact ⟨by omega, w2⟩
        · rename_i hw
          obtain ⟨a1, a2⟩ := ih false (r.drop (stepN L r)) (writeL σ (putL b r L)).1 (writeL σ (putL b r L)).2.1 (g.next hr hw)
          exact ⟨by omega, by omega⟩
      · rename_i h4
        exact ih _ _ _ _ (g.rest hr h4)

theorem appL_rem {σ : DS} {L : Lg} {s : ByteArray} (rd : L.Rdy) : (appL σ L s).1.pend.length + ((appL σ L s).2.1.count - (appL σ L s).2.1.i) ≤ σ.pend.length + (L.count - L.i) ∧ (appL σ L s).2.1.count = L.count := by
  unfold appL
  by_cases h1 : L.dead = true
  · rw [if_pos h1]; exact ⟨Nat.le_refl _, rfl⟩
  rw [if_neg h1]
  by_cases h2 : s = ⟨#[]⟩
  · rw [if_pos h2]; exact ⟨Nat.le_refl _, rfl⟩
  rw [if_neg h2]
  by_cases h3 : 65536 < s.size
  · rw [if_pos h3]; exact ⟨Nat.le_refl _, rfl⟩
  rw [if_neg h3]
  by_cases h4 : L.free < s.size
  · rw [if_pos h4]; exact ⟨Nat.le_refl _, rfl⟩
  rw [if_neg h4]
  exact appR_rem _ _ _ _ _ (rd.go (by simpa using h1) (by rw [bl_length]; omega) fun e => h2 (bl_inj e))

theorem syncL_rem {σ : DS} {L : Lg} (rd : L.Rdy) : (syncL σ L).1.pend.length + ((syncL σ L).2.1.count - (syncL σ L).2.1.i) ≤ σ.pend.length + (L.count - L.i) ∧ (syncL σ L).2.1.count = L.count := by
  unfold syncL
  by_cases h1 : L.dead = true
  · rw [if_pos h1]; exact ⟨Nat.le_refl _, rfl⟩
  rw [if_neg h1]
  by_cases h2 : L.opn = []
  · rw [if_pos h2]
    have := @flush_more σ
    exact ⟨by show σ.flush.1.pend.length + (L.count - L.i) ≤ _; omega, rfl⟩
  rw [if_neg h2]
  have hi : L.i < L.count := by
    have := rd.ok.le
    have : L.i ≠ L.count := fun e => h2 ((rd.op (by simpa using h1)).2 e)
    omega
  obtain ⟨w1, w2⟩ := writeL_rem (σ := σ) hi
  split
  · exact ⟨w1, w2⟩
  · have := @flush_more (writeL σ L).1
    exact ⟨by show (writeL σ L).1.flush.1.pend.length + ((writeL σ L).2.1.count - (writeL σ L).2.1.i) ≤ _; omega, w2⟩

/-- What waits, and may come of this log. -/
structure Bq (N : Nat) (σ : DS) (L : Lg) : Prop where
  a : σ.pend.length + ((L.count - L.i) - 4) ≤ 4 * N + 4
  b : σ.safe.length ≤ 8
  c : L.count ≤ 8

theorem put_len {σ : DS} {n : Int} {f : Frm} : (putF σ n f).1.safe.length = σ.safe.length := by
  have rs : (σ.read n).1.safe = σ.safe := by unfold DS.read; split <;> rfl
  have st := (DS.stepped_safe (σ.read n).1).1
  unfold putF
  split
  · rfl
  · split
    · rw [rs]
    · unfold DS.write
      split
      · split
        · split
          · rw [st, rs]
          · show (σ.read n).1.stepped.safe.length = _; rw [st, rs]
        · rw [rs]
      · rw [rs]
theorem flush_len {σ : DS} : σ.flush.1.safe.length = σ.safe.length := by
  have st := (DS.stepped_safe σ).1
  unfold DS.flush
  split
  · rfl
  · split
    · rw [st]
    · show (layAll σ.safe σ.pend).length = _; rw [layAll_fates, layFates_length]
theorem writeL_len {σ : DS} {L : Lg} : (writeL σ L).1.safe.length = σ.safe.length := by
  unfold writeL
  split <;> exact put_len
theorem appR_len : ∀ (k : Nat) (b : Bool) (r : List UInt8) (σ : DS) (L : Lg), (appR k b r σ L).1.safe.length = σ.safe.length := by
  intro k
  induction k with
  | zero => intro b r σ L; rfl
  | succ k ih =>
    intro b r σ L
    rw [appR]
    split
    · rfl
    · split
      · split
        · exact writeL_len
        · rw [ih]; exact writeL_len
      · exact ih _ _ _ _
theorem appL_len {σ : DS} {L : Lg} {s : ByteArray} : (appL σ L s).1.safe.length = σ.safe.length := by
  unfold appL
  by_cases h1 : L.dead = true
  · rw [if_pos h1]
  rw [if_neg h1]
  by_cases h2 : s = ⟨#[]⟩
  · rw [if_pos h2]
  rw [if_neg h2]
  by_cases h3 : 65536 < s.size
  · rw [if_pos h3]
  rw [if_neg h3]
  by_cases h4 : L.free < s.size
  · rw [if_pos h4]
  rw [if_neg h4]
  exact appR_len _ _ _ _ _
theorem syncL_len {σ : DS} {L : Lg} : (syncL σ L).1.safe.length = σ.safe.length := by
  unfold syncL
  split
  · rfl
  · split
    · exact flush_len
    · split
      · exact writeL_len
      · show (writeL σ L).1.flush.1.safe.length = _; rw [flush_len]; exact writeL_len

theorem Bq.app {N : Nat} {σ : DS} {L : Lg} (b : Bq N σ L) (rd : L.Rdy) (s : ByteArray) : Bq (N + 1) (appL σ L s).1 (appL σ L s).2.1 := by
  obtain ⟨h1, h2⟩ := @appL_rem σ L s rd
  have := b.a
  have := b.c
  exact ⟨by omega, by rw [appL_len]; exact b.b, by rw [h2]; exact b.c⟩
theorem Bq.sync {N : Nat} {σ : DS} {L : Lg} (b : Bq N σ L) (rd : L.Rdy) : Bq (N + 1) (syncL σ L).1 (syncL σ L).2.1 := by
  obtain ⟨h1, h2⟩ := @syncL_rem σ L rd
  have := b.a
  have := b.c
  exact ⟨by omega, by rw [syncL_len]; exact b.b, by rw [h2]; exact b.c⟩
theorem Bq.rds {N : Nat} {σ τ : DS} {L : Lg} (b : Bq N σ L) (x : Rds σ τ) : Bq N τ L := ⟨by rw [x.pend]; have := b.a; omega, by rw [x.safe]; exact b.b, b.c⟩
theorem Bq.cut {N : Nat} {σ : DS} {L : Lg} (b : Bq N σ L) (n : Int) : Bq (N + 1) (σ.cut n) L := by
  have := b.a
  have := b.b
  have := b.c
  unfold DS.cut
  split
  · exact ⟨by omega, by omega, by omega⟩
  · exact ⟨by show σ.pend.length + _ ≤ _; omega, by show σ.safe.length ≤ _; omega, by omega⟩
theorem Bq.crash {N : Nat} {σ : DS} {L : Lg} (b : Bq N σ L) (fates : List (Int × Int)) : Bq (N + 1) (σ.crash fates) L := by
  have := b.c
  exact ⟨by show 0 + _ ≤ _; omega, by show (layFates σ.safe σ.pend fates).length ≤ _; rw [layFates_length]; exact b.b, b.c⟩
theorem Bq.write {N : Nat} {σ : DS} {L : Lg} (b : Bq N σ L) (n : Int) (s : ByteArray) : Bq (N + 1) (σ.write n s).1 L := by
  have h1 := @write_more σ n s
  have := b.a
  refine ⟨by omega, ?_, b.c⟩
  have st := (DS.stepped_safe σ).1
  have hb := b.b
  unfold DS.write
  split
  · split
    · split
      · rw [st]; exact hb
      · show σ.stepped.safe.length ≤ _; rw [st]; exact hb
    · exact hb
  · exact hb

/-! ## A side -/

structure SdX (C C1 C2 : Nat → Prop) (h : Hp) (s d q l m : Nat) (σ τ : DS) (L : Lg) : Prop where
  cell : h[s]? = some (.cells #[vP d, vP q, vP l, vP m] 64)
  a : LD C1 h d σ l L
  b : RL C2 h q τ m L
  r : Rds σ τ
  rd : L.Rdy
  dis : ∀ b, C1 b → ¬ C2 b
  s1 : ¬ C1 s
  s2 : ¬ C2 s
  sub1 : ∀ b, C1 b → C b
  sub2 : ∀ b, C2 b → C b
  cs : C s
  lt : ∀ b, C b → b < h.size

def Sd (C : Nat → Prop) (h : Hp) (s N : Nat) : Prop := ∃ C1 C2 d q l m σ τ L, SdX C C1 C2 h s d q l m σ τ L ∧ Bq N σ L

section
variable {C C1 C2 C1' C2' : Nat → Prop} {h h1 h2 : Hp} {s d q l m l' m' N : Nat} {σ τ σ' τ' : DS} {L L' : Lg} {a0 a1 : Addr}

theorem SdX.at (S : SdX C C1 C2 h s d q l m σ τ L) {k : Nat} {v : Value} (hv : [vP d, vP q, vP l, vP m][k]? = some v) : cellsAt h s (0 + k) [v] := by
  refine cellsAt_one (cellH_at S.cell |>.trans ?_)
  rw [Nat.zero_add, ← hv]; simp
theorem side_at {hq : Hp} (c : hq[s]? = some (.cells #[vP d, vP q, vP l, vP m] 64)) {k : Nat} {v : Value} (hv : [vP d, vP q, vP l, vP m][k]? = some v) : cellsAt hq s (0 + k) [v] := by
  refine cellsAt_one (cellH_at c |>.trans ?_)
  rw [Nat.zero_add, ← hv]; simp

theorem SdX.ext (S : SdX C C1 C2 h s d q l m σ τ L) (x : Ext h h1) : SdX C C1 C2 h1 s d q l m σ τ L :=
  ⟨(x.old s (S.lt s S.cs)).trans S.cell, S.a.ext x, S.b.ext x, S.r, S.rd, S.dis, S.s1, S.s2, S.sub1, S.sub2, S.cs, fun b hb => Nat.lt_of_lt_of_le (S.lt b hb) x.size⟩
theorem Sd.ext (S : Sd C h s N) (x : Ext h h1) : Sd C h1 s N := by
  obtain ⟨C1, C2, d, q, l, m, σ, τ, L, S, b⟩ := S
  exact ⟨C1, C2, d, q, l, m, σ, τ, L, S.ext x, b⟩
theorem Sd.keep (S : Sd C h s N) (hz : h.size ≤ h1.size) (k : ∀ b, C b → h1[b]? = h[b]?) : Sd C h1 s N := by
  obtain ⟨C1, C2, d, q, l, m, σ, τ, L, S, b⟩ := S
  exact ⟨C1, C2, d, q, l, m, σ, τ, L, ⟨(k s S.cs).trans S.cell, S.a.keep hz fun b hb => k b (S.sub1 b hb), S.b.keep hz fun b hb => k b (S.sub2 b hb), S.r, S.rd, S.dis, S.s1, S.s2, S.sub1, S.sub2, S.cs, fun b hb => Nat.lt_of_lt_of_le (S.lt b hb) hz⟩, b⟩
theorem Sd.lt (S : Sd C h s N) : ∀ b, C b → b < h.size := let ⟨_, _, _, _, _, _, _, _, _, S, _⟩ := S; S.lt
theorem Sd.more (S : Sd C h s N) {M : Nat} (hM : N ≤ M) : Sd C h s M := by
  obtain ⟨C1, C2, d, q, l, m, σ, τ, L, S, b⟩ := S
  exact ⟨C1, C2, d, q, l, m, σ, τ, L, S, ⟨by have := b.a; omega, b.b, b.c⟩⟩

/-- Behind the program's call. -/
theorem SdX.mid (S : SdX C C1 C2 h s d q l m σ τ L) (k : Kp C1 h C1' h1) : RL C2 h1 q τ m L ∧ h1[s]? = some (.cells #[vP d, vP q, vP l, vP m] 64) ∧ (∀ b, C1' b → ¬ C2 b) ∧ ¬ C1' s :=
  ⟨S.b.keep k.1 fun b hb => (k.2 b (S.b.lt b hb) fun hc => S.dis b hc hb).2, k.old S.cell S.s1, fun b hb hc => (k.2 b (S.b.lt b hc) fun h => S.dis b h hc).1 hb, k.no (S.lt s S.cs) S.s1⟩

/-- Both go on, one behind the other. -/
theorem SdX.both (S : SdX C C1 C2 h s d q l m σ τ L) (A : LD C1' h1 d σ' l L') (k1 : Kp C1 h C1' h1) (B : RL C2' h2 q τ' m L') (k2 : Kp C2 h1 C2' h2) (r : Rds σ' τ') (rd : L'.Rdy) :
    SdX (GrowB C h h2) C1' C2' h2 s d q l m σ' τ' L' ∧ Kp C h (GrowB C h h2) h2 := by
  obtain ⟨m1, m2, m3, m4⟩ := S.mid k1
  have sz1 := k1.1
  have sz2 := k2.1
  have ls : s < h1.size := by have := S.lt s S.cs; omega
  have in1 : ∀ b, C1' b → C b ∨ h.size ≤ b := fun b hb => by
    by_cases hl : b < h.size
    · left
      by_cases hc : C1 b
      · exact S.sub1 b hc
      · exact ((k1.2 b hl hc).1 hb).elim
    · right; omega
  have in2 : ∀ b, C2' b → C b ∨ h.size ≤ b := fun b hb => by
    by_cases hl : b < h.size
    · left
      by_cases hc : C2 b
      · exact S.sub2 b hc
      · exact ((k2.2 b (by omega) hc).1 hb).elim
    · right; omega
  refine ⟨⟨k2.old m2 S.s2, A.keep sz2 fun b hb => (k2.2 b (A.lt b hb) (m3 b hb)).2, B, r, rd, fun b hb hc => ?_, m4, k2.no ls S.s2, fun b hb => (in1 b hb).imp id fun h => ⟨h, by have := A.lt b hb; omega⟩, fun b hb => (in2 b hb).imp id fun h => ⟨h, B.lt b hb⟩, .inl S.cs, GrowB.lt S.lt (by omega)⟩, by omega, fun b hb hn => ⟨?_, ?_⟩⟩
  · exact (k2.2 b (A.lt b hb) (m3 b hb)).1 hc
  · rintro (hc | hc)
    · exact hn hc
    · omega
  · exact (k2.2 b (by omega) fun hc => hn (S.sub2 b hc)).2.trans (k1.2 b hb fun hc => hn (S.sub1 b hc)).2

theorem appR_rds : ∀ (k : Nat) (b : Bool) (r : List UInt8) (σ τ : DS) (L : Lg), Rds σ τ → Rds (appR k b r σ L).1 (appR k b r τ L).1 ∧ (appR k b r τ L).2 = (appR k b r σ L).2 := by
  intro k
  have wr : ∀ {σ τ : DS} {L : Lg}, Rds σ τ → Rds (writeL σ L).1 (writeL τ L).1 ∧ (writeL τ L).2 = (writeL σ L).2 := by
    intro σ τ L x
    obtain ⟨y, e⟩ := x.put ((L.first + L.i : Nat) : Int) L.frm
    unfold writeL
    rw [e]
    split
    · exact ⟨y, rfl⟩
    · exact ⟨y, rfl⟩
  induction k with
  | zero => intro b r σ τ L x; exact ⟨x, rfl⟩
  | succ k ih =>
    intro b r σ τ L x
    obtain ⟨y, e⟩ := wr (L := putL b r L) x
    rw [appR, appR]
    split
    · exact ⟨x, rfl⟩
    · split
      · rw [e]
        split
        · exact ⟨y, e⟩
        · exact ih _ _ _ _ _ y
      · exact ih _ _ _ _ _ x
theorem writeL_rds {σ τ : DS} {L : Lg} (x : Rds σ τ) : Rds (writeL σ L).1 (writeL τ L).1 ∧ (writeL τ L).2 = (writeL σ L).2 := by
  obtain ⟨y, e⟩ := x.put ((L.first + L.i : Nat) : Int) L.frm
  unfold writeL
  rw [e]
  split
  · exact ⟨y, rfl⟩
  · exact ⟨y, rfl⟩
theorem appL_rds {σ τ : DS} {L : Lg} {r : ByteArray} (x : Rds σ τ) : Rds (appL σ L r).1 (appL τ L r).1 ∧ (appL τ L r).2 = (appL σ L r).2 := by
  unfold appL
  by_cases h1 : L.dead = true
  · rw [if_pos h1, if_pos h1]; exact ⟨x, rfl⟩
  rw [if_neg h1, if_neg h1]
  by_cases h2 : r = ⟨#[]⟩
  · rw [if_pos h2, if_pos h2]; exact ⟨x, rfl⟩
  rw [if_neg h2, if_neg h2]
  by_cases h3 : 65536 < r.size
  · rw [if_pos h3, if_pos h3]; exact ⟨x, rfl⟩
  rw [if_neg h3, if_neg h3]
  by_cases h4 : L.free < r.size
  · rw [if_pos h4, if_pos h4]; exact ⟨x, rfl⟩
  rw [if_neg h4, if_neg h4]
  exact appR_rds _ _ _ _ _ _ x
theorem syncL_rds {σ τ : DS} {L : Lg} (x : Rds σ τ) : Rds (syncL σ L).1 (syncL τ L).1 ∧ (syncL τ L).2 = (syncL σ L).2 := by
  unfold syncL
  by_cases h1 : L.dead = true
  · rw [if_pos h1, if_pos h1]; exact ⟨x, rfl⟩
  rw [if_neg h1, if_neg h1]
  by_cases h2 : L.opn = []
  · rw [if_pos h2, if_pos h2]
    obtain ⟨y, e⟩ := x.flush
    unfold endS
    rw [e]
    exact ⟨y, rfl⟩
  rw [if_neg h2, if_neg h2]
  obtain ⟨y, e⟩ := writeL_rds (L := L) x
  rw [e]
  split
  · exact ⟨y, e⟩
  · obtain ⟨z, e2⟩ := y.flush
    unfold endS
    rw [e2]
    exact ⟨z, rfl⟩

/-- turnoutlaw19.side.appends -/
theorem appends_c (S : SdX C C1 C2 h s d q l m σ τ L) (g : Gl C h a0 a1) (b : Bq N σ L) (hN : N ≤ 2000000000000) (r : ByteArray) : CallsH Tryd.prog 51 #[vP s, .string r] h fun e hs => ∃ C', Sd C' hs s (N + 1) ∧ Kp C h C' hs ∧ e = .returned (.bool true) := by
  have ba := b.a
  have gh := g.sub S.sub1
  refine V51 _ _ h _ ⟨fun h' => h'[s]? = some (.cells #[vP d, vP q, vP l, vP m] 64), S.cell, s, 0, rfl, _, S.at rfl, (lappend_c S.a S.rd gh.hh gh.n0 r (by omega)).mono ?_⟩
  rintro e h1 ⟨C1', A, k1, rfl⟩
  obtain ⟨m1, m2, m3, m4⟩ := S.mid k1
  refine ⟨_, rfl, m2, s, 0, rfl, _, fun h' c => side_at c rfl, (rappend_c m1 S.rd r (by rw [S.r.pend]; omega)).mono ?_⟩
  rintro e h2 ⟨C2', B, k2, rfl⟩
  obtain ⟨r2, e2⟩ := appL_rds (L := L) (r := r) S.r
  rw [e2] at B ⊢
  obtain ⟨S2, K⟩ := S.both A k1 B k2 r2 (appL_rdy S.rd)
  exact ⟨_, rfl, S2.cell, _, ⟨_, _, _, _, _, _, _, _, _, S2, b.app S.rd r⟩, K, by simp⟩

/-- turnoutlaw19.side.told -/
theorem told_c (S : SdX C C1 C2 h s d q l m σ τ L) : CallsH Tryd.prog 36 #[vP s] h fun e hs => Ext h hs ∧ e = .returned (.bool true) := by
  refine V36 _ h _ ⟨s, 0, rfl, _, S.at rfl, (at_c S.a).mono ?_⟩
  rintro _ h1 ⟨rfl, rfl⟩
  refine ⟨_, _, rfl, s, 0, rfl, _, S.at rfl, (rat_c S.b).mono ?_⟩
  rintro _ h1 ⟨rfl, rfl⟩
  refine ⟨_, _, rfl, s, 0, rfl, _, S.at rfl, S.a.stats.mono ?_⟩
  rintro _ h2 ⟨x2, rfl⟩
  refine ⟨_, _, _, rfl, ?_⟩
  intro b3 h3 hb3 e3
  rw [zerosStats] at e3
  refine ⟨infoStats, rfl, by simp [Value.oneCell'], wr_new (zs := [_, _, _]) hb3 e3 rfl, ?_⟩
  intro h4 e4
  obtain ⟨x4, c4, _⟩ := new_set (zs := [_, _, _]) hb3 e3 (by rfl) e4
  have x04 := x2.trans x4
  have S4 := S.ext x04
  obtain ⟨D2, B4⟩ := S4.b
  refine ⟨s, 0, rfl, _, S4.at rfl, (rStats_c B4.disk).mono ?_⟩
  rintro _ h5 ⟨x5, rfl⟩
  refine ⟨_, _, _, rfl, ?_⟩
  intro b6 h6 hb6 e6
  rw [zerosStats] at e6
  refine ⟨infoStats, rfl, by simp [Value.oneCell'], wr_new (zs := [_, _, _]) hb6 e6 rfl, ?_⟩
  intro h7 e7
  obtain ⟨x7, c7, _⟩ := new_set (zs := [_, _, _]) hb6 e6 (by rfl) e7
  have x47 := x5.trans x7
  have S7 := S4.ext x47
  have c47 := (x47.old b3 (Array.getElem?_eq_some_iff.1 c4).1).trans c4
  have ew : τ.writes = σ.writes ∧ τ.flushes = σ.flushes := by obtain ⟨_, e⟩ := S.r; rw [e]; exact ⟨rfl, rfl⟩
  rw [ew.1, ew.2] at c7
  refine ⟨fun h' => h'[s]? = some (.cells #[vP d, vP q, vP l, vP m] 64), S7.cell, fun _ => ⟨fun _ => ?_, fun hf => (by simp at hf)⟩, fun hf => (by simp at hf)⟩
  refine ⟨s, 0, rfl, _, S7.at rfl, (free_c S7.a S.rd.ok).mono ?_⟩
  rintro _ h8 ⟨rfl, rfl⟩
  refine ⟨_, rfl, S7.cell, s, 0, rfl, _, fun h' c => side_at c rfl, (rfree_c S7.b S.rd.ok).mono ?_⟩
  rintro _ h8 ⟨rfl, rfl⟩
  obtain ⟨D1, _, X7⟩ := S7.a.get
  obtain ⟨D2', B7⟩ := S7.b
  refine ⟨_, rfl, S7.cell, fun _ => ⟨_, cellsAt_one (cellH_at c47), _, cellsAt_one (cellH_at c7), fun _ => ⟨_, cellsAt_one (cellH_at c47), _, cellsAt_one (cellH_at c7), fun _ => ⟨s, 0, rfl, _, S7.at rfl, (off_c X7).mono ?_⟩, fun hf => (by simp at hf)⟩, fun hf => (by simp at hf)⟩, fun hf => (by simp at hf)⟩
  rintro _ h8 ⟨rfl, rfl⟩
  refine ⟨_, rfl, S7.cell, s, 0, rfl, _, fun h' c => side_at c rfl, (rOff_c B7.disk).mono ?_⟩
  rintro _ h8 ⟨rfl, rfl⟩
  refine ⟨_, rfl, S7.cell, true, ?_, x04.trans x47, rfl⟩
  have e : τ.gone = σ.gone := S.r.gone
  rw [e]
  simpa using eqv_bool (P := Tryd.prog) uBool σ.gone σ.gone

/-- turnoutlaw19.side.lies -/
theorem lies_c (S : SdX C C1 C2 h s d q l m σ τ L) (b : Bq N σ L) (hN : N ≤ 2000000000000) : CallsH Tryd.prog 37 #[vP s] h fun e hs => Ext h hs ∧ e = .returned (.bool true) := by
  have ba := b.a
  refine V37 _ h _ ⟨s, 0, rfl, _, S.at rfl, ?_⟩
  obtain ⟨D1, _, X⟩ := S.a.get
  refine (pending_c X (by omega)).mono ?_
  rintro _ h1 ⟨x1, p1, c1, rfl, o1⟩
  have S1 := S.ext x1
  obtain ⟨D2, B1⟩ := S1.b
  refine ⟨_, _, _, rfl, s, 0, rfl, _, S1.at rfl, (rPending_c B1.disk (by rw [S.r.pend]; omega)).mono ?_⟩
  rintro _ h2 ⟨x2, p2, c2, rfl, o2⟩
  rw [S.r.pend] at o2 ⊢
  have S2 := S1.ext x2
  obtain ⟨D1', _, X2⟩ := S2.a.get
  refine ⟨p2, σ.pend.length, c2, rfl, fun _ hq => Ext h2 hq, ⟨fun h' => h'[s]? = some (.cells #[vP d, vP q, vP l, vP m] 64), S2.cell, fun hf => (by simp at hf), fun _ => ⟨s, 0, rfl, _, S2.at rfl, (image_c X2).mono ?_⟩⟩, ?_⟩
  · rintro _ h3 ⟨x3, rfl⟩
    have S3 := S2.ext x3
    obtain ⟨D2', B3⟩ := S3.b
    refine ⟨_, rfl, S3.cell, s, 0, rfl, _, fun h' c => side_at c rfl, (rImage_c B3.disk).mono ?_⟩
    rintro _ h4 ⟨x4, rfl⟩
    have e1 : τ.image = σ.image := by obtain ⟨_, e⟩ := S.r; rw [e]; rfl
    rw [e1]
    exact ⟨_, rfl, (S3.ext x4).cell, fun hf => (by simp at hf), fun _ => x3.trans x4⟩
  intro h5 x5
  have s1 := (o1.ext x2).seg
  have hl1 : (σ.pend.map (·.1)).length = σ.pend.length := by simp
  refine ⟨fun v hq => ∃ i : Nat, v = [vI i] ∧ i ≤ σ.pend.length ∧ hq = h5, fun v _ => (σ.pend.length - numAt v 0).toNat, ⟨0, rfl, Nat.zero_le _, rfl⟩, ?_⟩
  rintro y hq ⟨i, hv, hi, rfl⟩
  cases hv
  refine ⟨fun hc => ?_, fun hc => ⟨(x1.trans x2).trans x5, rfl⟩⟩
  have hc : i < σ.pend.length := by have := of_decide_eq_true hc; omega
  obtain ⟨b1, q1, hp1, cc1⟩ := (s1.ext x5).at (i := i) (by simp; omega)
  obtain ⟨b2, q2, hp2, cc2⟩ := (o2.seg.ext x5).at (i := i) (by simp; omega)
  rw [List.getElem_map] at cc1 cc2
  exact ⟨b1, q1, hp1, by omega, by omega, _, cc1, b2, q2, hp2, by omega, by omega, _, cc2, fun hf => (by simp at hf), fun _ => ⟨_, incI (by omega), ⟨i + 1, rfl, hc, rfl⟩, by simp only [numAt]; omega⟩⟩

end
end Go.Vc

