/- The log's laws: what was put and synced is told. -/
import Derived.Test.YthkbecpgbjejkaaDoorS9WWlU
set_option maxRecDepth 10000
namespace Go.Vc
open Go Go.Proofs Go.MapKept

section
variable {C : Nat → Prop} {h hr : Hp} {a0 a1 : Addr} {d l : Nat} {σ : DS} {L : Lg}

theorem LD.crash (W : LD C hr d σ l L) (fates : List (Int × Int)) {p : Option Addr} {n c : Nat} (hf : SegS hr p n 2 (fates.map fateV)) (hB : ∀ b o, p = some ⟨b, o, none⟩ → fates ≠ [] → ¬ C b) :
    CallsH Tryd.prog 29 #[vP d, .slice p n c] hr fun e hs => LD C hs d (σ.crash fates) l L ∧ Kp C hr C hs ∧ e = .returned (.tuple #[]) :=
  W.op fun D hD X => crash_c X fates hf fun b o hp h0 hb => hB b o hp h0 (hD b hb)
theorem LD.cut (W : LD C hr d σ l L) (n : Int) (hn : n ≤ 9223372036854775807) : CallsH Tryd.prog 31 #[vP d, vZ n] hr fun e hs => LD C hs d (σ.cut n) l L ∧ Kp C hr C hs ∧ e = .returned (.tuple #[]) :=
  W.op fun D hD X => (cut_c X n hn).mono fun _ _ h => ⟨h.1, h.2.2.1, h.2.2.2⟩

theorem Kp.ext_of {C' : Nat → Prop} {hs : Hp} (k : Kp NoB hr C' hs) : Ext hr hs := ⟨k.1, fun b hb => (k.2 b hb fun h => h).2⟩
theorem Own.segT {p : Option Addr} {n c base : Nat} {xs : List Value} {e : TypeId} (o : Own hr base e 1 (.slice p n c) n xs) : Seg hr p n xs := o.seg

set_option maxHeartbeats 1000000 in
/-- turnoutlaw19.WalBack -/
theorem back_law (count : Int) (c0 : -9223372036854775808 ≤ count) (c1 : count ≤ 9223372036854775807) (epoch : Nat) {rp : Option Addr} {rn rc : Nat} {steps : List (Int × Bool)} (hh : Halves h) (G : Errs h a0 a1)
    (hs : SegS h rp rn 2 (steps.map stpV)) (hrc : rn ≤ rc) (hst : ∀ s ∈ steps, -9223372036854775808 ≤ s.1 ∧ s.1 ≤ 9223372036854775807) :
    CallsH Tryd.prog 7 #[vZ count, vU epoch, .slice rp rn rc] h (RetX (.bool true) h) := by
  refine V7 _ _ _ _ _ h _ ((awake_c hh G).mono ?_)
  rintro _ h1 ⟨rfl, x1⟩
  refine ⟨_, rfl, (pick_c count 12 (by decide) c0 c1 h1).mono ?_⟩
  rintro _ h1 ⟨rfl, rfl⟩
  have hpk : pickN count 12 < 12 := Nat.mod_lt _ (by decide)
  obtain ⟨n, hn⟩ : ∃ n, n = 1 + pickN count 12 := ⟨_, rfl⟩
  obtain ⟨e, he⟩ : ∃ e, e = 1 + epoch % 4611686018427387904 := ⟨_, rfl⟩
  have hel : e ≤ 4611686018427387904 := by have := Nat.mod_lt epoch (y := 4611686018427387904) (by decide); omega
  have hel1 : 1 ≤ e := by omega
  have htm : Int.tmod (epoch : Int) 4611686018427387904 = ((epoch % 4611686018427387904 : Nat) : Int) := (Int.ofNat_tmod epoch 4611686018427387904).symm
  refine ⟨_, rfl, (n : Int), by rw [wrapI64] <;> omega, by decide, _, htm, (e : Int), by rw [wrapU64]; omega, (new_c (n : Int)).mono ?_⟩
  rintro _ h2 (⟨hbad, _⟩ | ⟨_, _, d, ⟨x2, D2⟩, rfl⟩)
  · omega
  rw [Int.toNat_natCast] at D2
  refine ⟨_, _, rfl, fun _ hq => hq = h2, ⟨false, ⟨fun hf => (by cases hf), fun _ => ⟨false, eqv_ptr uPD _, fun hf => (by cases hf), fun _ => ⟨rfl, by simp⟩⟩⟩, fun hf => (by cases hf), fun _ => rfl⟩, ?_⟩
  rintro h2' rfl
  refine (wnew_c D2 0 (n : Int) e (by decide)).mono ?_
  have hlen : (DS.new n).safe.length = n := by show (List.replicate n zero512).length = n; simp
  rintro _ h3 (⟨hf, _⟩ | ⟨_, x3, W3, ok3, rfl⟩)
  · exfalso
    rw [hlen] at hf
    have h1 : regionB n 0 n = true := decide_eq_true (by omega)
    have h2 : epochB e = true := decide_eq_true (by omega)
    rw [h1, h2] at hf; cases hf
  obtain ⟨C, hC⟩ : ∃ C : Nat → Prop, C = fun b => (h1.size ≤ b ∧ b < h2'.size) ∨ b = h2'.size := ⟨_, rfl⟩
  rw [← hC] at W3
  have hC1 : ∀ b, C b → h1.size ≤ b := fun b hb => by rw [hC] at hb; have := x2.size; rcases hb with hb | hb <;> omega
  have g3 : Gl C h3 a0 a1 := Gl.fresh (hh.ext x1) (G.ext x1) hC1 (x2.trans x3)
  have k3 : Kp NoB h C h3 := ⟨((x1.trans x2).trans x3).size, fun b hb _ => ⟨fun hc => by have := hC1 b hc; have := x1.size; omega, ((x1.trans x2).trans x3).old b hb⟩⟩
  clear hC D2
  refine ⟨_, _, rfl, fun _ hq => hq = h3, ⟨false, ⟨false, eqv_ptr uPL _, fun hf => (by cases hf), fun _ => ⟨rfl, by simp⟩⟩, fun hf => (by cases hf), fun _ => rfl⟩, ?_⟩
  rintro h3' rfl
  have hs3 : SegS h3' rp rn 2 (steps.map stpV) := hs.ext ((x1.trans x2).trans x3)
  refine (some_c hs3 hrc).mono ?_
  rintro _ h3' ⟨rfl, sn, sc, rfl, hs4⟩
  have hnl : (newL ((0 : Nat) : Int) (n : Int) e) = newL 0 (n : Int) e := rfl
  have B : Base (List.replicate n zero512) 0 n e := base_new (by omega) (by omega) (by omega) (by omega)
  have Q3 : LogIs (List.replicate n zero512) 0 n e [] 0 0 ⟨[], [], false⟩ (DS.new n) (newL 0 (n : Int) e) := log_new (first := 0) lies_new
  have hsz : ∀ b o, rp = some ⟨b, o, none⟩ → (steps.take 40) ≠ [] → b < h.size := fun b o hp h0 => hs.block (by decide) hp (fun e => h0 (by rw [List.map_eq_nil_iff] at e; rw [e]; rfl))
  have hl40 : sn ≤ 40 := by have := hs4.1; simp at this; omega
  refine ⟨_, _, _, rfl, (wrote_c W3 g3 B Q3 rfl (newL_rdy ok3) rfl (Nat.zero_le _) hs4 (fun b o hp h0 hb => by have := hsz b o hp h0; have := hC1 b hb; have := x1.size; omega) hl40 (fun s hs => hst s (List.mem_of_mem_take hs)) 1 (by decide) (by decide)).mono ?_⟩
  rintro _ h4 ⟨C4, σ4, L4, out, p, c, sf, rfl, W4, k4, E4, row4, nrow4, hol, _, hpl4⟩
  have hpl4 : σ4.pend.length ≤ 0 + 50000 := hpl4
  have g4 := g3.kp k4
  have K4 := k3.trans k4
  rcases E4 with ⟨bs4, f4, Q4, ga4, rd4, d4, p4⟩ | ⟨_, _, _, _, hp⟩
  rotate_left
  · exact (hp rfl).elim
  refine ⟨_, _, _, _, _, rfl, (lsync_c W4 rd4.ok g4.hh g4.n0 (by omega)).mono ?_⟩
  rintro _ h5 ⟨C5, W5, k5, rfl⟩
  rcases sync_law B Q4 ga4 rd4 d4 with ⟨c5, ga5, ⟨bs, Q5⟩, d5, o5, p5⟩ | ⟨_, _, _, _, hp⟩
  rotate_left
  · exact (hp (p4 rfl)).elim
  obtain ⟨row5, nrow5⟩ := k5.own row4 nrow4
  have g5 := g4.kp k5
  have K5 := K4.trans k5
  have rd5 := syncL_rdy (σ := σ4) rd4
  obtain ⟨σ5, L5, e5⟩ : ∃ σ5 L5, syncL σ4 L4 = (σ5, L5, 0) := ⟨(syncL σ4 L4).1, (syncL σ4 L4).2.1, by rw [← c5]⟩
  rw [e5] at W5 ga5 Q5 d5 o5 p5 rd5 ⊢
  have hbk : bs.length ≤ n := by have := Q5.at_; have := Q5.co; have := rd5.ok.le; omega
  refine ⟨_, rfl, (W5.crash [] (p := none) (n := 0) (c := 0) (SegS.nil _ _) fun b o hp => (by cases hp)).mono ?_⟩
  rintro _ h6 ⟨W6, k6, rfl⟩
  obtain ⟨row6, nrow6⟩ := k6.own row5 nrow5
  have g6 := g5.kp k6
  have K6 := K5.trans k6
  obtain ⟨τ, hτ⟩ : ∃ τ, τ = σ5.crash [] := ⟨_, rfl⟩
  rw [← hτ] at W6
  have Lf : Left (List.replicate n zero512) 0 e bs bs.length τ.safe := by rw [hτ]; exact Q5.lies.crash B hbk []
  have tg : τ.gone = false := by rw [hτ]; rfl
  have tp : τ.pend = [] := by rw [hτ]; rfl
  have tl : τ.safe.length = n := by rw [Lf.len]; simp
  have hbel : Below (List.replicate n zero512) 0 n e := below_new (by omega)
  have hbel2 : Below τ.safe 0 n (e + 1) := Lf.below B Q5.lies.le hbel
  have reg : ∀ {υ : DS}, υ.safe = τ.safe → regionB υ.safe.length 0 (n : Int) = true := fun h => decide_eq_true (by rw [h, tl]; omega)
  have hscan : ∀ (υ : DS) (e' : Nat), υ.safe = τ.safe → 1 ≤ e' → e' ≤ 9223372036854775807 → scanF υ 0 (n : Int) e' = scanN 0 e' n 0 υ Rd.no := by
    intro υ e' hv h1 h2
    have h3 : epochB e' = true := decide_eq_true ⟨h1, h2⟩
    unfold scanF
    rw [if_pos (by rw [reg hv, h3]; rfl)]
    rfl
  refine ⟨rfl, (W6.scan g6 0 (n : Int) (by decide) e).mono ?_⟩
  rintro _ h7 ⟨W7, k7, p7, c7, rfl, row7⟩
  rw [hscan τ e rfl hel1 (by omega)] at W7 row7 ⊢
  have r7 := scanN_rds 0 e n 0 τ Rd.no
  rw [scan_all Q5 o5 B hbk hbel Lf tg rfl tp] at row7 ⊢
  generalize (scanN 0 e n 0 τ Rd.no).1 = τ7 at W7 r7
  have row7 : Own h7 h6.size 9 1 (.slice p7 out.length c7) out.length (out.map Value.string) := row7
  have g7 := g6.kp k7
  have K7 := K6.trans k7
  obtain ⟨ro7, nro7⟩ := k7.own row6 nrow6
  have nrow7 : ∀ b, (Value.slice p7 out.length c7).ownBlock = some b → ¬ C5 b := fun b hb hc => by have := (row7.lt hb).1; have := W6.lt b hc; omega
  refine ⟨p7, out.length, c7, _, rfl, ((e + 1 : Nat) : Int), by rw [wrapU64]; omega, (W7.scan g7 0 (n : Int) (by decide) (e + 1)).mono ?_⟩
  rintro _ h8 ⟨W8, k8, p8, c8, rfl, _⟩
  rw [hscan τ7 (e + 1) r7.safe (by omega) (by omega)] at W8 ⊢
  have r8 := r7.trans (scanN_rds 0 (e + 1) n 0 τ7 Rd.no)
  rw [scan_other hbel2 (by omega) (by rw [tl]; omega) (r7.gone.trans tg) r7.safe (r7.pend.trans tp)]
  generalize (scanN 0 (e + 1) n 0 τ7 Rd.no).1 = τ8 at W8 r8
  have g8 := g7.kp k8
  have K8 := K7.trans k8
  obtain ⟨ro8, _⟩ := k8.own ro7 nro7
  obtain ⟨row8, _⟩ := k8.own row7 nrow7
  refine ⟨p8, 0, c8, _, rfl, (same_c row8.segT ro8.segT (by omega)).mono ?_⟩
  rintro _ h8 ⟨rfl, rfl⟩
  refine ⟨_, rfl, (W8.last g8 0 (n : Int) (by decide)).mono ?_⟩
  rintro _ h9 ⟨W9, k9, rfl⟩
  have K9 := K8.trans k9
  have hlast : lastF τ8 0 (n : Int) = lastN 0 n 0 τ8 0 := by
    unfold lastF
    rw [if_pos (reg r8.safe)]
    rfl
  obtain ⟨m1, m2, m3⟩ := last_is (T := τ.safe) (first := 0) (count := n) (m := e) (by omega) (fun j hj h0 hk => by have := hbel2 j hj h0 hk; omega) (r8.gone.trans tg) r8.safe (r8.pend.trans tp)
  have m4 : bs = [] → (lastN 0 n 0 τ8 0).2.1 ≤ 0 := by
    intro hb
    have hmz : ∀ j, j < n → (openF (τ.safe.getD (0 + j) ByteArray.empty)).2.2 = 0 → (openF (τ.safe.getD (0 + j) ByteArray.empty)).1.kind = 3 → (openF (τ.safe.getD (0 + j) ByteArray.empty)).1.number ≤ 0 := by
      intro j hj h0 hk
      rcases Lf.says B Q5.lies.le hj with ⟨h1, _⟩ | ⟨_, h1⟩ | ⟨_, h1⟩
      · rw [hb] at h1; simp at h1
      · rw [h1] at h0; cases h0
      · rw [h1, zeros_at (by omega)] at h0
        exact (open_zero h0).elim
    exact (last_is (T := τ.safe) (first := 0) (count := n) (m := 0) (by omega) hmz (r8.gone.trans tg) r8.safe (r8.pend.trans tp)).2.1
  rw [hlast]
  generalize (lastN 0 n 0 τ8 0).2 = lr at m1 m2 m3 m4
  obtain ⟨m, cd⟩ := lr
  have m1 : cd = 0 := m1
  have m4 : bs = [] → m ≤ 0 := m4
  subst m1
  have hm : m = e ∨ (m = 0 ∧ out = []) := by
    by_cases hb : bs = []
    · right
      refine ⟨by have := m4 hb; omega, ?_⟩
      obtain ⟨R, hc, hR⟩ := Q5.told
      rw [hb] at hc
      cases hc
      rcases hR with ⟨_, hR⟩ | ⟨hR, _⟩
      · exact congrArg Rd.recs hR
      · exact (hR o5).elim
    · left
      have hpos : 0 < bs.length := List.length_pos_iff.2 hb
      have hw := Lf.lo 0 hpos
      have hw : τ.safe.getD (0 + 0) ByteArray.empty = secX (List.replicate n zero512) 0 e bs 0 := by rw [List.getD_eq_getElem?_getD]; exact congrArg (fun o => o.getD ByteArray.empty) hw
      have hop := sec_open B Q5.lies.le (j := 0) (by decide)
      have := m3 0 (by omega) (by rw [hw, hop]) (by rw [hw, hop])
      rw [hw, hop] at this
      have this : e ≤ m := this
      have m2 : m ≤ e := m2
      omega
  refine ⟨_, _, rfl, true, ⟨fun _ => ⟨fun _ => ⟨fun _ => ⟨fun _ => ⟨fun _ => ⟨fun _ => ⟨fun _ => ⟨fun _ => ⟨rfl, rfl⟩, fun hne => ⟨fun h0 => ⟨rfl, ?_⟩, fun h0 => ?_⟩⟩, fun hf => (by simp at hf)⟩, fun hf => (by simp at hf)⟩, fun hf => (by simp at hf)⟩, fun hf => (by simp at hf)⟩, fun hf => (by simp at hf)⟩, fun hf => (by simp at hf)⟩, fun hf => (by cases hf)⟩, rfl, K9.ext_of⟩
  · have hne : ¬ (m : Int) = e := of_decide_eq_false hne
    rcases hm with hm | ⟨_, hm⟩
    · exact (hne (by omega)).elim
    · rw [hm]; rfl
  · have hne : ¬ (m : Int) = e := of_decide_eq_false hne
    have h0 : ¬ (m : Int) = 0 := of_decide_eq_false h0
    omega

end
end Go.Vc
