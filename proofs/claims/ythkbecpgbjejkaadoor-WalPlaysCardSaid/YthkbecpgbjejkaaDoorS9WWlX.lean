import Derived.Test.YthkbecpgbjejkaaDoorS9WWlU
set_option maxRecDepth 10000
/- The log's laws: what was put and synced is told. -/
namespace Go.Vc
open Go Go.Proofs Go.MapKept

section
variable {C : Nat → Prop} {h hr : Hp} {a0 a1 : Addr} {d l : Nat} {σ : DS} {L : Lg}

theorem LD.crash (W : LD C hr d σ l L) (fates : List (Int × Int)) {p : Option Addr} {n c : Nat} (hf : SegS hr p n 2 (fates.map fateV)) (hB : ∀ b o, p = some ⟨b, o, none⟩ → fates ≠ [] → ¬ C b) :
    CallsH Tryd.prog 29 #[vP d, .slice p n c] hr fun e hs => LD C hs d (σ.crash fates) l L ∧ Kp C hr C hs ∧ e = .returned (.tuple #[]) :=
  W.op fun D hD X => crash_c X fates hf fun b o hp h0 hb => hB b o hp h0 (hD b hb)
theorem LD.cut (W : LD C hr d σ l L) (n : Int) (hn : n ≤ 9223372036854775807) : CallsH Tryd.prog 31 #[vP d, vZ n] hr fun e hs => LD C hs d (σ.cut n) l L ∧ Kp C hr C hs ∧ e = .returned (.tuple #[]) :=
  W.op fun D hD X => (cut_c X n hn).mono fun _ _ h => ⟨h.1, h.2.2.1, h.2.2.2⟩

theorem Kp.ext_of {C' : Nat → Prop} {hs : Hp} (k : Kp NoB hr C' hs) : Ext hr hs := ⟨k.1, fun b hb => (k.2 b hb fun h => h).2⟩
theorem Own.segT {p : Option Addr} {n c base : Nat} {xs : List Value} {e : TypeId} (o : Own hr base e 1 (.slice p n c) n xs) : Seg hr p n xs := o.seg

set_option maxHeartbeats 1000000 in
/-- turnoutlaw19.WalBack -/
theorem back_law (count : Int) (c0 : -9223372036854775808 ≤ count) (c1 : count ≤ 9223372036854775807) (epoch : Nat) {rp : Option Addr} {rn rc : Nat} {steps : List (Int × Bool)} (hh : Halves h) (G : Errs h a0 a1)
    (hs : SegS h rp rn 2 (steps.map stpV)) (hrc : rn ≤ rc) (hst : ∀ s ∈ steps, -9223372036854775808 ≤ s.1 ∧ s.1 ≤ 9223372036854775807) :
    CallsH Tryd.prog 7 #[vZ count, vU epoch, .slice rp rn rc] h (RetX (.bool true) h) := by
  refine V7 _ _ _ _ _ h _ ((awake_c hh G).mono ?_)
  rintro _ h1 ⟨rfl, x1⟩
  refine ⟨_, rfl, (pick_c count 12 (by decide) c0 c1 h1).mono ?_⟩
  rintro _ h1 ⟨rfl, rfl⟩
  have hpk : pickN count 12 < 12 := Nat.mod_lt _ (by decide)
  obtain ⟨n, hn⟩ : ∃ n, n = 1 + pickN count 12 := ⟨_, rfl⟩
  obtain ⟨e, he⟩ : ∃ e, e = 1 + epoch % 4611686018427387904 := ⟨_, rfl⟩
  have hel : e ≤ 4611686018427387904 := by have := Nat.mod_lt epoch (y := 4611686018427387904) (by decide); omega
  have hel1 : 1 ≤ e := by omega
  have htm : Int.tmod (epoch : Int) 4611686018427387904 = ((epoch % 4611686018427387904 : Nat) : Int) := (Int.ofNat_tmod epoch 4611686018427387904).symm
  refine ⟨_, rfl, (n : Int), by rw [wrapI64] <;> omega, by decide, _, htm, (e : Int), by rw [wrapU64]; omega, (new_c (n : Int)).mono ?_⟩
  rintro _ h2 (⟨hbad, _⟩ | ⟨_, _, d, ⟨x2, D2⟩, rfl⟩)
  · omega
  rw [Int.toNat_natCast] at D2
  refine ⟨_, _, rfl, fun _ hq => hq = h2, ⟨false, ⟨fun hf => (by cases hf), fun _ => ⟨false, eqv_ptr uPD _, fun hf => (by cases hf), fun _ => ⟨rfl, by simp⟩⟩⟩, fun hf => (by cases hf), fun _ => rfl⟩, ?_⟩
  rintro h2' rfl
  refine (wnew_c D2 0 (n : Int) e (by decide)).mono ?_
  have hlen : (DS.new n).safe.length = n := by show (List.replicate n zero512).length = n; simp
  rintro _ h3 (⟨hf, _⟩ | ⟨_, x3, W3, ok3, rfl⟩)
  · exfalso
    rw [hlen] at hf
    have h1 : regionB n 0 n = true := decide_eq_true (by omega)
    have h2 : epochB e = true := decide_eq_true (by omega)
    rw [h1, h2] at hf; cases hf
  obtain ⟨C, hC⟩ : ∃ C : Nat → Prop, C = fun b => (h1.size ≤ b ∧ b < h2'.size) ∨ b = h2'.size := ⟨_, rfl⟩
  rw [← hC] at W3
  have hC1 : ∀ b, C b → h1.size ≤ b := fun b hb => by rw [hC] at hb; have := x2.size; rcases hb with hb | hb <;> omega
  have g3 : Gl C h3 a0 a1 := Gl.fresh (hh.ext x1) (G.ext x1) hC1 (x2.trans x3)
  have k3 : Kp NoB h C h3 := ⟨((x1.trans x2).trans x3).size, fun b hb _ => ⟨fun hc => by have := hC1 b hc; have := x1.size; omega, ((x1.trans x2).trans x3).old b hb⟩⟩
  clear hC D2
  refine ⟨_, _, rfl, fun _ hq => hq = h3, ⟨false, ⟨false, eqv_ptr uPL _, fun hf => (by cases hf), fun _ => ⟨rfl, by simp⟩⟩, fun hf => (by cases hf), fun _ => rfl⟩, ?_⟩
  rintro h3' rfl
  have hs3 : SegS h3' rp rn 2 (steps.map stpV) := hs.ext ((x1.trans x2).trans x3)
  refine (some_c hs3 hrc).mono ?_
  rintro _ h3' ⟨rfl, sn, sc, rfl, hs4⟩
  have hnl : (newL ((0 : Nat) : Int) (n : Int) e) = newL 0 (n : Int) e := rfl
  have B : Base (List.replicate n zero512) 0 n e := base_new (by omega) (by omega) (by omega) (by omega)
  have Q3 : LogIs (List.replicate n zero512) 0 n e [] 0 0 ⟨[], [], false⟩ (DS.new n) (newL 0 (n : Int) e) := log_new (first := 0) lies_new
  have hsz : ∀ b o, rp = some ⟨b, o, none⟩ → (steps.take 40) ≠ [] → b < h.size := fun b o hp h0 => hs.block (by decide) hp (fun e => h0 (by rw [List.map_eq_nil_iff] at e; rw [e]; rfl))
  have hl40 : sn ≤ 40 := by have := hs4.1; simp at this; omega
  refine ⟨_, _, _, rfl, (wrote_c W3 g3 B Q3 rfl (newL_rdy ok3) rfl (Nat.zero_le _) hs4 (fun b o hp h0 hb => by have := hsz b o hp h0; have := hC1 b hb; have := x1.size; omega) hl40 (fun s hs => hst s (List.mem_of_mem_take hs)) 1 (by decide) (by decide)).mono ?_⟩
  rintro _ h4 ⟨C4, σ4, L4, out, p, c, sf, rfl, W4, k4, E4, row4, nrow4, hol, _, hpl4⟩
  have hpl4 : σ4.pend.length ≤ 0 + 50000 := hpl4
  have g4 := g3.kp k4
  have K4 := k3.trans k4
  rcases E4 with ⟨bs4, f4, Q4, ga4, rd4, d4, p4⟩ | ⟨_, _, _, _, hp⟩
  rotate_left
  · exact (hp rfl).elim
  refine ⟨_, _, _, _, _, rfl, (lsync_c W4 rd4.ok g4.hh g4.n0 (by omega)).mono ?_⟩
  rintro _ h5 ⟨C5, W5, k5, rfl⟩
  rcases sync_law B Q4 ga4 rd4 d4 with ⟨c5, ga5, ⟨bs, Q5⟩, d5, o5, p5⟩ | ⟨_, _, _, _, hp⟩
  rotate_left
  · exact (hp (p4 rfl)).elim
  obtain ⟨row5, nrow5⟩ := k5.own row4 nrow4
  have g5 := g4.kp k5
  have K5 := K4.trans k5
  have rd5 := syncL_rdy (σ := σ4) rd4
  obtain ⟨σ5, L5, e5⟩ : ∃ σ5 L5, syncL σ4 L4 = (σ5, L5, 0) := ⟨(syncL σ4 L4).1, (syncL σ4 L4).2.1, by rw [← c5]⟩
  rw [e5] at W5 ga5 Q5 d5 o5 p5 rd5 ⊢
  have hbk : bs.length ≤ n := by have := Q5.at_; have := Q5.co; have := rd5.ok.le; omega
  refine ⟨_, rfl, (W5.crash [] (p := none) (n := 0) (c := 0) (SegS.nil _ _) fun b o hp => (by cases hp)).mono ?_⟩
  rintro _ h6 ⟨W6, k6, rfl⟩
  obtain ⟨row6, nrow6⟩ := k6.own row5 nrow5
  have g6 := g5.kp k6
  have K6 := K5.trans k6
  obtain ⟨τ, hτ⟩ : ∃ τ, τ = σ5.crash [] := ⟨_, rfl⟩
  rw [← hτ] at W6
  have Lf : Left (List.replicate n zero512) 0 e bs bs.length τ.safe := by rw [hτ]; exact Q5.lies.crash B hbk []
  have tg : τ.gone = false := by rw [hτ]; rfl
  have tp : τ.pend = [] := by rw [hτ]; rfl
  have tl : τ.safe.length = n := by rw [Lf.len]; simp
  have hbel : Below (List.replicate n zero512) 0 n e := below_new (by omega)
  have hbel2 : Below τ.safe 0 n (e + 1) := Lf.below B Q5.lies.le hbel
  have reg : ∀ {υ : DS}, υ.safe = τ.safe → regionB υ.safe.length 0 (n : Int) = true := fun h => decide_eq_true (by rw [h, tl]; omega)
  have hscan : ∀ (υ : DS) (e' : Nat), υ.safe = τ.safe → 1 ≤ e' → e' ≤ 9223372036854775807 → scanF υ 0 (n : Int) e' = scanN 0 e' n 0 υ Rd.no := by
    intro υ e' hv h1 h2
    have h3 : epochB e' = true := decide_eq_true ⟨h1, h2⟩
    unfold scanF
    rw [if_pos (by rw [reg hv, h3]; rfl)]
    rfl
  refine ⟨rfl, (W6.scan g6 0 (n : Int) (by decide) e).mono ?_⟩
  rintro _ h7 ⟨W7, k7, p7, c7, rfl, row7⟩
  rw [hscan τ e rfl hel1 (by omega)] at W7 row7 ⊢
  have r7 := scanN_rds 0 e n 0 τ Rd.no
  rw [scan_all Q5 o5 B hbk hbel Lf tg rfl tp] at row7 ⊢
  generalize (scanN 0 e n 0 τ Rd.no).1 = τ7 at W7 r7
  have row7 : Own h7 h6.size 9 1 (.slice p7 out.length c7) out.length (out.map Value.string) := row7
  have g7 := g6.kp k7
  have K7 := K6.trans k7
  obtain ⟨ro7, nro7⟩ := k7.own row6 nrow6
  have nrow7 : ∀ b, (Value.slice p7 out.length c7).ownBlock = some b → ¬ C5 b := fun b hb hc => by have := (row7.lt hb).1; have := W6.lt b hc; omega
  refine ⟨p7, out.length, c7, _, rfl, ((e + 1 : Nat) : Int), by rw [wrapU64]; omega, (W7.scan g7 0 (n : Int) (by decide) (e + 1)).mono ?_⟩
  rintro _ h8 ⟨W8, k8, p8, c8, rfl, _⟩
  rw [hscan τ7 (e + 1) r7.safe (by omega) (by omega)] at W8 ⊢
  have r8 := r7.trans (scanN_rds 0 (e + 1) n 0 τ7 Rd.no)
  rw [scan_other hbel2 (by omega) (by rw [tl]; omega) (r7.gone.trans tg) r7.safe (r7.pend.trans tp)]
  generalize (scanN 0 (e + 1) n 0 τ7 Rd.no).1 = τ8 at W8 r8
  have g8 := g7.kp k8
  have K8 := K7.trans k8
  obtain ⟨ro8, _⟩ := k8.own ro7 nro7
  obtain ⟨row8, _⟩ := k8.own row7 nrow7
  refine ⟨p8, 0, c8, _, rfl, (same_c row8.segT ro8.segT (by omega)).mono ?_⟩
  rintro _ h8 ⟨rfl, rfl⟩
  refine ⟨_, rfl, (W8.last g8 0 (n : Int) (by decide)).mono ?_⟩
  rintro _ h9 ⟨W9, k9, rfl⟩
  have K9 := K8.trans k9
  have hlast : lastF τ8 0 (n : Int) = lastN 0 n 0 τ8 0 := by
    unfold lastF
    rw [if_pos (reg r8.safe)]
    rfl
  obtain ⟨m1, m2, m3⟩ := last_is (T := τ.safe) (first := 0) (count := n) (m := e) (by omega) (fun j hj h0 hk => by have := hbel2 j hj h0 hk; omega) (r8.gone.trans tg) r8.safe (r8.pend.trans tp)
  have m4 : bs = [] → (lastN 0 n 0 τ8 0).2.1 ≤ 0 := by
    intro hb
    have hmz : ∀ j, j < n → (openF (τ.safe.getD (0 + j) ByteArray.empty)).2.2 = 0 → (openF (τ.safe.getD (0 + j) ByteArray.empty)).1.kind = 3 → (openF (τ.safe.getD (0 + j) ByteArray.empty)).1.number ≤ 0 := by
      intro j hj h0 hk
      rcases Lf.says B Q5.lies.le hj with ⟨h1, _⟩ | ⟨_, h1⟩ | ⟨_, h1⟩
      · rw [hb] at h1; simp at h1
      · rw [h1] at h0; cases h0
      · rw [h1, zeros_at (by omega)] at h0
        exact (open_zero h0).elim
    exact (last_is (T := τ.safe) (first := 0) (count := n) (m := 0) (by omega) hmz (r8.gone.trans tg) r8.safe (r8.pend.trans tp)).2.1
  rw [hlast]
  generalize (lastN 0 n 0 τ8 0).2 = lr at m1 m2 m3 m4
  obtain ⟨m, cd⟩ := lr
  have m1 : cd = 0 := m1
  have m4 : bs = [] → m ≤ 0 := m4
  subst m1
  have hm : m = e ∨ (m = 0 ∧ out = []) := by
    by_cases hb : bs = []
    · right
      refine ⟨by have := m4 hb; omega, ?_⟩
      obtain ⟨R, hc, hR⟩ := Q5.told
      rw [hb] at hc
      cases hc
      rcases hR with ⟨_, hR⟩ | ⟨hR, _⟩
      · exact congrArg Rd.recs hR
      · exact (hR o5).elim
    · left
      have hpos : 0 < bs.length := List.length_pos_iff.2 hb
      have hw := Lf.lo 0 hpos
      have hw : τ.safe.getD (0 + 0) ByteArray.empty = secX (List.replicate n zero512) 0 e bs 0 := by rw [List.getD_eq_getElem?_getD]; exact congrArg (fun o => o.getD ByteArray.empty) hw
      have hop := sec_open B Q5.lies.le (j := 0) (by decide)
      have := m3 0 (by omega) (by rw [hw, hop]) (by rw [hw, hop])
      rw [hw, hop] at this
      have this : e ≤ m := this
      have m2 : m ≤ e := m2
      omega
  refine ⟨_, _, rfl, true, ⟨fun _ => ⟨fun _ => ⟨fun _ => ⟨fun _ => ⟨fun _ => ⟨fun _ => ⟨fun _ => ⟨fun _ => ⟨rfl, rfl⟩, fun hne => ⟨fun h0 => ⟨rfl, ?_⟩, fun h0 => ?_⟩⟩, fun hf => (by simp at hf)⟩, fun hf => (by simp at hf)⟩, fun hf => (by simp at hf)⟩, fun hf => (by simp at hf)⟩, fun hf => (by simp at hf)⟩, fun hf => (by simp at hf)⟩, fun hf => (by cases hf)⟩, rfl, K9.ext_of⟩
  · have hne : ¬ (m : Int) = e := of_decide_eq_false hne
    rcases hm with hm | ⟨_, hm⟩
    · exact (hne (by omega)).elim
    · rw [hm]; rfl
  · have hne : ¬ (m : Int) = e := of_decide_eq_false hne
    have h0 : ¬ (m : Int) = 0 := of_decide_eq_false h0
    omega

end
end Go.Vc

/- The log's laws: how long a record may be. -/
namespace Go.Vc
open Go Go.Proofs Go.MapKept

section
variable {C : Nat → Prop} {h h1 h2 h3 hr : Hp} {a0 a1 : Addr} {d l : Nat} {σ : DS} {L : Lg}

/-- A new disk and a new log lie apart. -/
theorem made (hh : Halves h) (G : Errs h a0 a1) (x1 : Ext h h1) (x2 : Ext h1 h2) (x3 : Ext h2 h3) (W : LD (fun b => (h1.size ≤ b ∧ b < h2.size) ∨ b = h2.size) h3 d σ l L) : ∃ C, LD C h3 d σ l L ∧ (∀ b, C b → h1.size ≤ b) ∧ Gl C h3 a0 a1 ∧ Kp NoB h C h3 := by
  have hC1 : ∀ b, ((h1.size ≤ b ∧ b < h2.size) ∨ b = h2.size) → h1.size ≤ b := fun b hb => by have := x2.size; rcases hb with hb | hb <;> omega
  exact ⟨_, W, hC1, Gl.fresh (hh.ext x1) (G.ext x1) hC1 (x2.trans x3), ⟨((x1.trans x2).trans x3).size, fun b hb _ => ⟨fun hc => by have := hC1 b hc; have := x1.size; omega, ((x1.trans x2).trans x3).old b hb⟩⟩⟩

/-- A record that fills the log. -/
theorem full_law : ∀ (k : Nat) (b : Bool) (rest : List UInt8) (σ : DS) (L : Lg), L.Go rest → rest ≠ [] → rest.length = L.cap → rest.length ≤ k → (appR k b rest σ L).2.2 = 0 → (appR k b rest σ L).2.1.i = (appR k b rest σ L).2.1.count := by
  intro k
  induction k with
  | zero =>
    intro b rest σ L g hne hc hk
    have := List.length_pos_iff.2 hne
    omega
  | succ k ih =>
    intro b rest σ L g hne hc hk hz
    obtain ⟨g1, _⟩ := g.lt hne
    have g3 := g.op
    have hsp := stepN_pos g.op hne
    have hsl := @stepN_le L rest
    have hpl := @putL_length L rest b
    unfold Lg.cap at hc
    have hst : stepN L rest = min rest.length (488 - L.opn.length) := rfl
    have h488 : 488 ≤ (putL b rest L).opn.length := by rw [hpl, hst]; omega
    rw [appR, if_neg hne, if_pos h488] at hz ⊢
    by_cases hw : (writeL σ (putL b rest L)).2.2 ≠ 0
    · rw [if_pos hw] at hz; exact (hw hz).elim
    rw [if_neg hw] at hz ⊢
    have gn := g.next (σ := σ) (b := b) hne hw
    by_cases hr : rest.drop (stepN L rest) = []
    · rw [hr, appR_nil]
      show (writeL σ (putL b rest L)).2.1.i = (writeL σ (putL b rest L)).2.1.count
      rw [writeL_code hw]
      show L.i + 1 = L.count
      rw [List.drop_eq_nil_iff] at hr
      omega
    · have hrl : (rest.drop (stepN L rest)).length = rest.length - stepN L rest := List.length_drop
      have hrp := List.length_pos_iff.2 hr
      refine ih false _ _ _ gn hr ?_ (by omega) hz
      rw [writeL_code hw]
      show _ = (488 - 0) + 488 * (L.count - (L.i + 1) - 1)
      omega

theorem append_more {s : ByteArray} (hd : L.dead = false) (hs : L.free < s.size) (rd : L.Rdy) : appL σ L s = (σ, L, if 65536 < s.size then 2 else 190) := by
  have hne : s ≠ ⟨#[]⟩ := fun e => by rw [e] at hs; exact absurd hs (Nat.not_lt_zero _)
  unfold appL
  rw [if_neg (by rw [hd]; decide), if_neg hne]
  split
  · rfl
  · first | rfl | rw [if_pos hs]

theorem LD.stats (W : LD C hr d σ l L) : CallsH Tryd.prog 22 #[vP d] hr fun e hs => Ext hr hs ∧ e = .returned (.agg #[vZ σ.reads, vZ σ.writes, vZ σ.flushes]) := by
  obtain ⟨D, _, X⟩ := W.get
  exact stats_c X

set_option maxHeartbeats 1000000 in
/-- turnoutlaw19.WalFull -/
theorem full_law_c (count : Int) (c0 : -9223372036854775808 ≤ count) (c1 : count ≤ 9223372036854775807) {rp : Option Addr} {rn rc : Nat} {steps : List (Int × Bool)} (hh : Halves h) (G : Errs h a0 a1)
    (hs : SegS h rp rn 2 (steps.map stpV)) (hrc : rn ≤ rc) (hst : ∀ s ∈ steps, -9223372036854775808 ≤ s.1 ∧ s.1 ≤ 9223372036854775807) :
    CallsH Tryd.prog 4 #[vZ count, .slice rp rn rc] h (RetX (.bool true) h) := by
  refine V4 _ _ _ _ h _ ((awake_c hh G).mono ?_)
  rintro _ h1 ⟨rfl, x1⟩
  refine ⟨_, rfl, (pick_c count 140 (by decide) c0 c1 h1).mono ?_⟩
  rintro _ h1 ⟨rfl, rfl⟩
  have hpk : pickN count 140 < 140 := Nat.mod_lt _ (by decide)
  obtain ⟨n, hn⟩ : ∃ n, n = 1 + pickN count 140 := ⟨_, rfl⟩
  refine ⟨_, rfl, (n : Int), by rw [wrapI64] <;> omega, (new_c (n : Int)).mono ?_⟩
  rintro _ h2 (⟨hbad, _⟩ | ⟨_, _, d, ⟨x2, D2⟩, rfl⟩)
  · omega
  rw [Int.toNat_natCast] at D2
  refine ⟨_, _, rfl, fun _ hq => hq = h2, ⟨false, ⟨fun hf => (by cases hf), fun _ => ⟨false, eqv_ptr uPD _, fun hf => (by cases hf), fun _ => ⟨rfl, by simp⟩⟩⟩, fun hf => (by cases hf), fun _ => rfl⟩, ?_⟩
  rintro h2' rfl
  refine (wnew_c D2 0 (n : Int) 5 (by decide)).mono ?_
  have hlen : (DS.new n).safe.length = n := by show (List.replicate n zero512).length = n; simp
  rintro _ h3 (⟨hf, _⟩ | ⟨_, x3, W3, ok3, rfl⟩)
  · exfalso
    rw [hlen] at hf
    have h1 : regionB n 0 n = true := decide_eq_true (by omega)
    rw [h1] at hf; cases hf
  obtain ⟨C, W3, hC1, g3, k3⟩ := made hh G x1 x2 x3 W3
  clear D2
  have hf0 : (newL 0 (n : Int) 5).free = min (488 * n) 65536 := by
    have hnn : (newL 0 (n : Int) 5).count = n := Int.toNat_natCast n
    unfold Lg.free Lg.cap
    rw [hnn]
    show (if false = true ∨ 0 = n then 0 else min ((488 - 0) + 488 * (n - 0 - 1)) 65536) = _
    rw [if_neg (by rintro (h | h); cases h; omega)]
    omega
  refine ⟨_, _, rfl, fun _ hq => hq = h3, ⟨false, eqv_ptr uPL _, fun hf => (by cases hf), fun _ => ⟨fun hf => (by simp at hf), fun _ => (free_c W3 ok3).mono ?_⟩⟩, ?_⟩
  · rintro _ h3 ⟨rfl, rfl⟩
    rw [hf0]
    refine ⟨_, rfl, (488 * n : Int), wrapI64 (by omega) (by omega), fun hf => ?_, fun _ => rfl⟩
    exfalso
    have := of_decide_eq_true hf
    apply this
    omega
  rintro h3' rfl
  have hs3 : SegS h3' rp rn 2 (steps.map stpV) := hs.ext ((x1.trans x2).trans x3)
  refine (some_c hs3 hrc).mono ?_
  rintro _ h3' ⟨rfl, sn, sc, rfl, hs4⟩
  have B : Base (List.replicate n zero512) 0 n 5 := base_new (by omega) (by omega) (by omega) (by omega)
  have Q3 : LogIs (List.replicate n zero512) 0 n 5 [] 0 0 ⟨[], [], false⟩ (DS.new n) (newL 0 (n : Int) 5) := log_new (first := 0) lies_new
  have hsz : ∀ b o, rp = some ⟨b, o, none⟩ → (steps.take 40) ≠ [] → b < h.size := fun b o hp h0 => hs.block (by decide) hp (fun e => h0 (by rw [List.map_eq_nil_iff] at e; rw [e]; rfl))
  have hl40 : sn ≤ 40 := by have := hs4.1; simp at this; omega
  refine ⟨_, _, _, rfl, (wrote_c W3 g3 B Q3 rfl (newL_rdy ok3) rfl (Nat.zero_le _) hs4 (fun b o hp h0 hb => by have := hsz b o hp h0; have := hC1 b hb; have := x1.size; omega) hl40 (fun s hs => hst s (List.mem_of_mem_take hs)) 1 (by decide) (by decide)).mono ?_⟩
  rintro _ h4 ⟨C4, σ4, L4, out, p, c, sf, rfl, W4, k4, E4, _, _, _, _, hpl4⟩
  have hpl4 : σ4.pend.length ≤ 0 + 50000 := hpl4
  have g4 := g3.kp k4
  have K4 := k3.trans k4
  rcases E4 with ⟨bs4, f4, Q4, ga4, rd4, d4, p4⟩ | ⟨_, _, _, _, hp⟩
  rotate_left
  · exact (hp rfl).elim
  have hF : L4.free ≤ 65536 := by unfold Lg.free; split <;> omega
  refine ⟨_, _, _, _, _, rfl, (at_c W4).mono ?_⟩
  rintro _ h4 ⟨rfl, rfl⟩
  refine ⟨_, _, rfl, (free_c W4 rd4.ok).mono ?_⟩
  rintro _ h4 ⟨rfl, rfl⟩
  refine ⟨_, rfl, W4.stats.mono ?_⟩
  rintro _ h5 ⟨x5, rfl⟩
  refine ⟨_, _, _, rfl, ?_⟩
  intro b h6 hb e6
  rw [zerosStats] at e6
  refine ⟨infoStats, rfl, by simp [Value.oneCell'], wr_new (zs := [_, _, _]) hb e6 rfl, ?_⟩
  intro h7 e7
  obtain ⟨x7, cb7, _⟩ := new_set (zs := [_, _, _]) hb e6 (by rfl) e7
  clear e6 e7
  refine ⟨((L4.free + 1 : Nat) : Int), by rw [wrapI64] <;> omega, (longW_c (L4.free + 1) 7 (by omega) h7).mono ?_⟩
  rintro _ h8 ⟨x8, rfl⟩
  have W8 : LD C4 h8 d σ4 _ L4 := W4.ext ((x5.trans x7).trans x8)
  have g8 := g4.ext ((x5.trans x7).trans x8)
  have K8 : Kp NoB h C4 h8 := K4.trans (Kp.ext C4 ((x5.trans x7).trans x8))
  have nb : ¬ C4 b := fun hc => by have := W4.lt b hc; have := x5.size; omega
  refine ⟨_, rfl, (lappend_c W8 rd4 g8.hh g8.n0 _ (by omega)).mono ?_⟩
  rintro _ h9 ⟨C9, W9, k9, rfl⟩
  have e9 := append_more (σ := σ4) (s := longW (L4.free + 1) 7) d4 (by rw [longW_size]; omega) rd4
  rw [longW_size] at e9
  rw [e9] at W9 ⊢
  have g9 := g8.kp k9
  have K9 := K8.trans k9
  have cb9 := k9.old ((x8.old b (Array.getElem?_eq_some_iff.1 cb7).1).trans cb7) nb
  have nb9 := k9.no (Array.getElem?_eq_some_iff.1 ((x8.old b (Array.getElem?_eq_some_iff.1 cb7).1).trans cb7)).1 nb
  refine ⟨_, rfl, (at_c W9).mono ?_⟩
  rintro _ h9 ⟨rfl, rfl⟩
  refine ⟨_, _, rfl, fun _ hq => ∃ C', LD C' hq d σ4 h2'.size L4 ∧ Gl C' hq a0 a1 ∧ Kp NoB h C' hq, ?_, ?_⟩
  · refine ⟨fun hq => hq[b]? = some (.cells #[vZ σ4.reads, vZ σ4.writes, vZ σ4.flushes] 48), cb9, fun hf => (by cases hf), fun _ => ?_⟩
    have stat : ∀ hq, Ext h9 hq → hq[b]? = some (.cells #[vZ σ4.reads, vZ σ4.writes, vZ σ4.flushes] 48) := fun hq x => (x.old b (Array.getElem?_eq_some_iff.1 cb9).1).trans cb9
    by_cases h65 : 65536 < L4.free + 1
    · rw [if_pos h65]
      refine ⟨fun _ => ⟨fun _ => ⟨fun hf => ?_, fun _ => ⟨fun hf => (by simp at hf), fun _ => ⟨fun hf => (by simp at hf), fun _ => (free_c W9 rd4.ok).mono ?_⟩⟩⟩, fun hf => (by simp at hf)⟩, fun hf => (by simp at hf)⟩
      · exfalso
        have h1 : L4.free = 65536 := by omega
        rw [h1] at hf; simp at hf
      · rintro _ h9 ⟨rfl, rfl⟩
        refine ⟨_, rfl, cb9, fun hf => (by simp at hf), fun _ => W9.stats.mono ?_⟩
        rintro _ h10 ⟨x10, rfl⟩
        exact ⟨_, _, _, rfl, stat _ x10, _, fun hq cc => cellsAt_one (cellH_at cc), fun hf => (by simp at hf), fun _ => ⟨C9, W9.ext x10, g9.ext x10, K9.trans (Kp.ext C9 x10)⟩⟩
    · rw [if_neg h65]
      refine ⟨fun hf => (by simp at hf), fun _ => ⟨fun hf => (by simp at hf), fun _ => ⟨fun hf => (by simp at hf), fun _ => (free_c W9 rd4.ok).mono ?_⟩⟩⟩
      rintro _ h9 ⟨rfl, rfl⟩
      refine ⟨_, rfl, cb9, fun hf => (by simp at hf), fun _ => W9.stats.mono ?_⟩
      rintro _ h10 ⟨x10, rfl⟩
      exact ⟨_, _, _, rfl, stat _ x10, _, fun hq cc => cellsAt_one (cellH_at cc), fun hf => (by simp at hf), fun _ => ⟨C9, W9.ext x10, g9.ext x10, K9.trans (Kp.ext C9 x10)⟩⟩
  rintro h10 ⟨C10, W10, g10, K10⟩
  have o4 := rd4.op d4
  have hco := Q4.co
  have hle := rd4.ok.le
  refine ⟨fun h0 => ⟨true, ⟨fun _ => ⟨rfl, rfl⟩, fun hne => ?_⟩, rfl, K10.ext_of⟩, fun h0 => ?_⟩
  · exfalso
    have h0 : (L4.free : Int) = 0 := of_decide_eq_true h0
    have hne : ¬ (L4.i : Int) = n := of_decide_eq_false hne
    have h0 : L4.free = 0 := by omega
    unfold Lg.free Lg.cap at h0
    rw [if_neg (by rw [d4]; rintro (h | h); cases h; omega)] at h0
    omega
  have h0 : ¬ (L4.free : Int) = 0 := of_decide_eq_false h0
  refine (longW_c L4.free 8 (by omega) h10).mono ?_
  rintro _ h11 ⟨x11, rfl⟩
  obtain ⟨r, hr⟩ : ∃ r, r = longW L4.free 8 := ⟨_, rfl⟩
  have hrs : r.size = L4.free := by rw [hr, longW_size]
  have hrn : r ≠ ⟨#[]⟩ := fun e => by rw [e] at hrs; have : 0 = L4.free := hrs; omega
  rw [← hr]
  have g11 := g10.ext x11
  refine ⟨_, rfl, (lappend_c (W10.ext x11) rd4 g11.hh g11.n0 r (by omega)).mono ?_⟩
  rintro _ h12 ⟨C12, W12, k12, rfl⟩
  have rd12 := appL_rdy (σ := σ4) (s := r) rd4
  rcases append_law B Q4 ga4 rd4 d4 r hrn (by omega) with ⟨hf, _⟩ | ⟨_, c12, ga12, _, d12, _⟩ | ⟨_, _, _, _, _, hp⟩
  · omega
  rotate_left
  · exact (hp (p4 rfl)).elim
  refine ⟨_, rfl, (free_c W12 rd12.ok).mono ?_⟩
  rintro _ h12 ⟨rfl, rfl⟩
  have hF12 : (appL σ4 L4 r).2.1.free ≤ 65536 := by unfold Lg.free; split <;> omega
  have hfull : L4.free ≠ 65536 → (appL σ4 L4 r).2.1.free = 0 := by
    intro hne
    have hni : ¬ L4.i = L4.count := fun e => by unfold Lg.free at h0; rw [if_pos (.inr e)] at h0; exact h0 rfl
    have hcap : L4.free = L4.cap := by
      unfold Lg.free at hne ⊢
      rw [if_neg (by rw [d4]; rintro (h | h); cases h; exact hni h)] at hne ⊢
      omega
    have e1 : appL σ4 L4 r = appR r.size true (bl r) σ4 L4 := by unfold appL; rw [if_neg (by rw [d4]; decide), if_neg hrn, if_neg (by omega), if_neg (by omega)]
    have hbn : bl r ≠ [] := fun e => hrn (bl_inj e)
    have go : L4.Go (bl r) := rd4.go d4 (by rw [bl_length]; omega) hbn
    have := full_law r.size true (bl r) σ4 L4 go hbn (by rw [bl_length]; omega) (by rw [bl_length]; exact Nat.le_refl _) (by rw [← e1]; exact c12)
    rw [← e1] at this
    unfold Lg.free
    rw [if_pos (.inr this)]
  refine ⟨_, rfl, true, ⟨fun _ => ⟨fun _ => ⟨fun _ => ⟨rfl, rfl⟩, fun hne => ⟨rfl, ?_⟩⟩, fun hf => ?_⟩, fun hf => (by rw [c12] at hf; simp at hf)⟩, rfl, (K10.trans (Kp.ext C10 x11)).trans k12 |>.ext_of⟩
  · have hne : ¬ (L4.free : Int) = 65536 := of_decide_eq_false hne
    rw [hfull (by omega)]; rfl
  · have hf : ¬ ((appL σ4 L4 r).2.1.free : Int) ≤ L4.free := of_decide_eq_false hf
    by_cases h65 : L4.free = 65536
    · omega
    · rw [hfull h65] at hf; omega

end
end Go.Vc

