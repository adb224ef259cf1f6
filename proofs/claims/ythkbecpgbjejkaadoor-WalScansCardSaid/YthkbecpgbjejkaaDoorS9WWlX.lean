/- The log's laws: how long a record may be. -/
import Derived.Test.YthkbecpgbjejkaaDoorS9WWlV
set_option maxRecDepth 10000
namespace Go.Vc
open Go Go.Proofs Go.MapKept

section
variable {C : Nat → Prop} {h h1 h2 h3 hr : Hp} {a0 a1 : Addr} {d l : Nat} {σ : DS} {L : Lg}

/-- A new disk and a new log lie apart. -/
theorem made (hh : Halves h) (G : Errs h a0 a1) (x1 : Ext h h1) (x2 : Ext h1 h2) (x3 : Ext h2 h3) (W : LD (fun b => (h1.size ≤ b ∧ b < h2.size) ∨ b = h2.size) h3 d σ l L) : ∃ C, LD C h3 d σ l L ∧ (∀ b, C b → h1.size ≤ b) ∧ Gl C h3 a0 a1 ∧ Kp NoB h C h3 := by
  have hC1 : ∀ b, ((h1.size ≤ b ∧ b < h2.size) ∨ b = h2.size) → h1.size ≤ b := fun b hb => by have := x2.size; rcases hb with hb | hb <;> omega
  exact ⟨_, W, hC1, Gl.fresh (hh.ext x1) (G.ext x1) hC1 (x2.trans x3), ⟨((x1.trans x2).trans x3).size, fun b hb _ => ⟨fun hc => by have := hC1 b hc; have := x1.size; omega, ((x1.trans x2).trans x3).old b hb⟩⟩⟩

/-- A record that fills the log. -/
theorem full_law : ∀ (k : Nat) (b : Bool) (rest : List UInt8) (σ : DS) (L : Lg), L.Go rest → rest ≠ [] → rest.length = L.cap → rest.length ≤ k → (appR k b rest σ L).2.2 = 0 → (appR k b rest σ L).2.1.i = (appR k b rest σ L).2.1.count := by
  intro k
  induction k with
  | zero =>
    intro b rest σ L g hne hc hk
    have := List.length_pos_iff.2 hne
    omega
  | succ k ih =>
    intro b rest σ L g hne hc hk hz
    obtain ⟨g1, _⟩ := g.lt hne
    have g3 := g.op
    have hsp := stepN_pos g.op hne
    have hsl := @stepN_le L rest
    have hpl := @putL_length L rest b
    unfold Lg.cap at hc
    have hst : stepN L rest = min rest.length (488 - L.opn.length) := rfl
    have h488 : 488 ≤ (putL b rest L).opn.length := by rw [hpl, hst]; omega
    rw [appR, if_neg hne, if_pos h488] at hz ⊢
    by_cases hw : (writeL σ (putL b rest L)).2.2 ≠ 0
    · rw [if_pos hw] at hz; exact (hw hz).elim
    rw [if_neg hw] at hz ⊢
    have gn := g.next (σ := σ) (b := b) hne hw
    by_cases hr : rest.drop (stepN L rest) = []
    · rw [hr, appR_nil]
      show (writeL σ (putL b rest L)).2.1.i = (writeL σ (putL b rest L)).2.1.count
      rw [writeL_code hw]
      show L.i + 1 = L.count
      rw [List.drop_eq_nil_iff] at hr
      omega
    · have hrl : (rest.drop (stepN L rest)).length = rest.length - stepN L rest := List.length_drop
      have hrp := List.length_pos_iff.2 hr
      refine ih false _ _ _ gn hr ?_ (by omega) hz
      rw [writeL_code hw]
      show _ = (488 - 0) + 488 * (L.count - (L.i + 1) - 1)
      omega

theorem append_more {s : ByteArray} (hd : L.dead = false) (hs : L.free < s.size) (rd : L.Rdy) : appL σ L s = (σ, L, if 65536 < s.size then 2 else 190) := by
  have hne : s ≠ ⟨#[]⟩ := fun e => by rw [e] at hs; exact absurd hs (Nat.not_lt_zero _)
  unfold appL
  rw [if_neg (by rw [hd]; decide), if_neg hne]
  split
  · rfl
  · first | rfl | rw [if_pos hs]

theorem LD.stats (W : LD C hr d σ l L) : CallsH Tryd.prog 22 #[vP d] hr fun e hs => Ext hr hs ∧ e = .returned (.agg #[vZ σ.reads, vZ σ.writes, vZ σ.flushes]) := by
  obtain ⟨D, _, X⟩ := W.get
  exact stats_c X

set_option maxHeartbeats 1000000 in
/-- turnoutlaw19.WalFull -/
theorem full_law_c (count : Int) (c0 : -9223372036854775808 ≤ count) (c1 : count ≤ 9223372036854775807) {rp : Option Addr} {rn rc : Nat} {steps : List (Int × Bool)} (hh : Halves h) (G : Errs h a0 a1)
    (hs : SegS h rp rn 2 (steps.map stpV)) (hrc : rn ≤ rc) (hst : ∀ s ∈ steps, -9223372036854775808 ≤ s.1 ∧ s.1 ≤ 9223372036854775807) :
    CallsH Tryd.prog 4 #[vZ count, .slice rp rn rc] h (RetX (.bool true) h) := by
  refine V4 _ _ _ _ h _ ((awake_c hh G).mono ?_)
  rintro _ h1 ⟨rfl, x1⟩
  refine ⟨_, rfl, (pick_c count 140 (by decide) c0 c1 h1).mono ?_⟩
  rintro _ h1 ⟨rfl, rfl⟩
  have hpk : pickN count 140 < 140 := Nat.mod_lt _ (by decide)
  obtain ⟨n, hn⟩ : ∃ n, n = 1 + pickN count 140 := ⟨_, rfl⟩
  refine ⟨_, rfl, (n : Int), by rw [wrapI64] <;> omega, (new_c (n : Int)).mono ?_⟩
  rintro _ h2 (⟨hbad, _⟩ | ⟨_, _, d, ⟨x2, D2⟩, rfl⟩)
  · omega
  rw [Int.toNat_natCast] at D2
  refine ⟨_, _, rfl, fun _ hq => hq = h2, ⟨false, ⟨fun hf => (by cases hf), fun _ => ⟨false, eqv_ptr uPD _, fun hf => (by cases hf), fun _ => ⟨rfl, by simp⟩⟩⟩, fun hf => (by cases hf), fun _ => rfl⟩, ?_⟩
  rintro h2' rfl
  refine (wnew_c D2 0 (n : Int) 5 (by decide)).mono ?_
  have hlen : (DS.new n).safe.length = n := by show (List.replicate n zero512).length = n; simp
  rintro _ h3 (⟨hf, _⟩ | ⟨_, x3, W3, ok3, rfl⟩)
  · exfalso
    rw [hlen] at hf
    have h1 : regionB n 0 n = true := decide_eq_true (by omega)
    rw [h1] at hf; cases hf
  obtain ⟨C, W3, hC1, g3, k3⟩ := made hh G x1 x2 x3 W3
  clear D2
  have hf0 : (newL 0 (n : Int) 5).free = min (488 * n) 65536 := by
    have hnn : (newL 0 (n : Int) 5).count = n := Int.toNat_natCast n
    unfold Lg.free Lg.cap
    rw [hnn]
    show (if false = true ∨ 0 = n then 0 else min ((488 - 0) + 488 * (n - 0 - 1)) 65536) = _
    rw [if_neg (by rintro (h | h); cases h; omega)]
    omega
  refine ⟨_, _, rfl, fun _ hq => hq = h3, ⟨false, eqv_ptr uPL _, fun hf => (by cases hf), fun _ => ⟨fun hf => (by simp at hf), fun _ => (free_c W3 ok3).mono ?_⟩⟩, ?_⟩
  · rintro _ h3 ⟨rfl, rfl⟩
    rw [hf0]
    refine ⟨_, rfl, (488 * n : Int), wrapI64 (by omega) (by omega), fun hf => ?_, fun _ => rfl⟩
    exfalso
    have := of_decide_eq_true hf
    apply this
    omega
  rintro h3' rfl
  have hs3 : SegS h3' rp rn 2 (steps.map stpV) := hs.ext ((x1.trans x2).trans x3)
  refine (some_c hs3 hrc).mono ?_
  rintro _ h3' ⟨rfl, sn, sc, rfl, hs4⟩
  have B : Base (List.replicate n zero512) 0 n 5 := base_new (by omega) (by omega) (by omega) (by omega)
  have Q3 : LogIs (List.replicate n zero512) 0 n 5 [] 0 0 ⟨[], [], false⟩ (DS.new n) (newL 0 (n : Int) 5) := log_new (first := 0) lies_new
  have hsz : ∀ b o, rp = some ⟨b, o, none⟩ → (steps.take 40) ≠ [] → b < h.size := fun b o hp h0 => hs.block (by decide) hp (fun e => h0 (by rw [List.map_eq_nil_iff] at e; rw [e]; rfl))
  have hl40 : sn ≤ 40 := by have := hs4.1; simp at this; omega
  refine ⟨_, _, _, rfl, (wrote_c W3 g3 B Q3 rfl (newL_rdy ok3) rfl (Nat.zero_le _) hs4 (fun b o hp h0 hb => by have := hsz b o hp h0; have := hC1 b hb; have := x1.size; omega) hl40 (fun s hs => hst s (List.mem_of_mem_take hs)) 1 (by decide) (by decide)).mono ?_⟩
  rintro _ h4 ⟨C4, σ4, L4, out, p, c, sf, rfl, W4, k4, E4, _, _, _, _, hpl4⟩
  have hpl4 : σ4.pend.length ≤ 0 + 50000 := hpl4
  have g4 := g3.kp k4
  have K4 := k3.trans k4
  rcases E4 with ⟨bs4, f4, Q4, ga4, rd4, d4, p4⟩ | ⟨_, _, _, _, hp⟩
  rotate_left
  · exact (hp rfl).elim
  have hF : L4.free ≤ 65536 := by unfold Lg.free; split <;> omega
  refine ⟨_, _, _, _, _, rfl, (at_c W4).mono ?_⟩
  rintro _ h4 ⟨rfl, rfl⟩
  refine ⟨_, _, rfl, (free_c W4 rd4.ok).mono ?_⟩
  rintro _ h4 ⟨rfl, rfl⟩
  refine ⟨_, rfl, W4.stats.mono ?_⟩
  rintro _ h5 ⟨x5, rfl⟩
  refine ⟨_, _, _, rfl, ?_⟩
  intro b h6 hb e6
  rw [zerosStats] at e6
  refine ⟨infoStats, rfl, by simp [Value.oneCell'], wr_new (zs := [_, _, _]) hb e6 rfl, ?_⟩
  intro h7 e7
  obtain ⟨x7, cb7, _⟩ := new_set (zs := [_, _, _]) hb e6 (by rfl) e7
  clear e6 e7
  refine ⟨((L4.free + 1 : Nat) : Int), by rw [wrapI64] <;> omega, (longW_c (L4.free + 1) 7 (by omega) h7).mono ?_⟩
  rintro _ h8 ⟨x8, rfl⟩
  have W8 : LD C4 h8 d σ4 _ L4 := W4.ext ((x5.trans x7).trans x8)
  have g8 := g4.ext ((x5.trans x7).trans x8)
  have K8 : Kp NoB h C4 h8 := K4.trans (Kp.ext C4 ((x5.trans x7).trans x8))
  have nb : ¬ C4 b := fun hc => by have := W4.lt b hc; have := x5.size; omega
  refine ⟨_, rfl, (lappend_c W8 rd4 g8.hh g8.n0 _ (by omega)).mono ?_⟩
  rintro _ h9 ⟨C9, W9, k9, rfl⟩
  have e9 := append_more (σ := σ4) (s := longW (L4.free + 1) 7) d4 (by rw [longW_size]; omega) rd4
  rw [longW_size] at e9
  rw [e9] at W9 ⊢
  have g9 := g8.kp k9
  have K9 := K8.trans k9
  have cb9 := k9.old ((x8.old b (Array.getElem?_eq_some_iff.1 cb7).1).trans cb7) nb
  have nb9 := k9.no (Array.getElem?_eq_some_iff.1 ((x8.old b (Array.getElem?_eq_some_iff.1 cb7).1).trans cb7)).1 nb
  refine ⟨_, rfl, (at_c W9).mono ?_⟩
  rintro _ h9 ⟨rfl, rfl⟩
  refine ⟨_, _, rfl, fun _ hq => ∃ C', LD C' hq d σ4 h2'.size L4 ∧ Gl C' hq a0 a1 ∧ Kp NoB h C' hq, ?_, ?_⟩
  · refine ⟨fun hq => hq[b]? = some (.cells #[vZ σ4.reads, vZ σ4.writes, vZ σ4.flushes] 48), cb9, fun hf => (by cases hf), fun _ => ?_⟩
    have stat : ∀ hq, Ext h9 hq → hq[b]? = some (.cells #[vZ σ4.reads, vZ σ4.writes, vZ σ4.flushes] 48) := fun hq x => (x.old b (Array.getElem?_eq_some_iff.1 cb9).1).trans cb9
    by_cases h65 : 65536 < L4.free + 1
    · rw [if_pos h65]
      refine ⟨fun _ => ⟨fun _ => ⟨fun hf => ?_, fun _ => ⟨fun hf => (by simp at hf), fun _ => ⟨fun hf => (by simp at hf), fun _ => (free_c W9 rd4.ok).mono ?_⟩⟩⟩, fun hf => (by simp at hf)⟩, fun hf => (by simp at hf)⟩
      · exfalso
        have h1 : L4.free = 65536 := by omega
        rw [h1] at hf; simp at hf
      · rintro _ h9 ⟨rfl, rfl⟩
        refine ⟨_, rfl, cb9, fun hf => (by simp at hf), fun _ => W9.stats.mono ?_⟩
        rintro _ h10 ⟨x10, rfl⟩
        exact ⟨_, _, _, rfl, stat _ x10, _, fun hq cc => cellsAt_one (cellH_at cc), fun hf => (by simp at hf), fun _ => ⟨C9, W9.ext x10, g9.ext x10, K9.trans (Kp.ext C9 x10)⟩⟩
    · rw [if_neg h65]
      refine ⟨fun hf => (by simp at hf), fun _ => ⟨fun hf => (by simp at hf), fun _ => ⟨fun hf => (by simp at hf), fun _ => (free_c W9 rd4.ok).mono ?_⟩⟩⟩
      rintro _ h9 ⟨rfl, rfl⟩
      refine ⟨_, rfl, cb9, fun hf => (by simp at hf), fun _ => W9.stats.mono ?_⟩
      rintro _ h10 ⟨x10, rfl⟩
      exact ⟨_, _, _, rfl, stat _ x10, _, fun hq cc => cellsAt_one (cellH_at cc), fun hf => (by simp at hf), fun _ => ⟨C9, W9.ext x10, g9.ext x10, K9.trans (Kp.ext C9 x10)⟩⟩
  rintro h10 ⟨C10, W10, g10, K10⟩
  have o4 := rd4.op d4
  have hco := Q4.co
  have hle := rd4.ok.le
  refine ⟨fun h0 => ⟨true, ⟨fun _ => ⟨rfl, rfl⟩, fun hne => ?_⟩, rfl, K10.ext_of⟩, fun h0 => ?_⟩
  · exfalso
    have h0 : (L4.free : Int) = 0 := of_decide_eq_true h0
    have hne : ¬ (L4.i : Int) = n := of_decide_eq_false hne
    have h0 : L4.free = 0 := by omega
    unfold Lg.free Lg.cap at h0
    rw [if_neg (by rw [d4]; rintro (h | h); cases h; omega)] at h0
    omega
  have h0 : ¬ (L4.free : Int) = 0 := of_decide_eq_false h0
  refine (longW_c L4.free 8 (by omega) h10).mono ?_
  rintro _ h11 ⟨x11, rfl⟩
  obtain ⟨r, hr⟩ : ∃ r, r = longW L4.free 8 := ⟨_, rfl⟩
  have hrs : r.size = L4.free := by rw [hr, longW_size]
  have hrn : r ≠ ⟨#[]⟩ := fun e => by rw [e] at hrs; have : 0 = L4.free := hrs; omega
  rw [← hr]
  have g11 := g10.ext x11
  refine ⟨_, rfl, (lappend_c (W10.ext x11) rd4 g11.hh g11.n0 r (by omega)).mono ?_⟩
  rintro _ h12 ⟨C12, W12, k12, rfl⟩
  have rd12 := appL_rdy (σ := σ4) (s := r) rd4
  rcases append_law B Q4 ga4 rd4 d4 r hrn (by omega) with ⟨hf, _⟩ | ⟨_, c12, ga12, _, d12, _⟩ | ⟨_, _, _, _, _, hp⟩
  · omega
  rotate_left
  · exact (hp (p4 rfl)).elim
  refine ⟨_, rfl, (free_c W12 rd12.ok).mono ?_⟩
  rintro _ h12 ⟨rfl, rfl⟩
  have hF12 : (appL σ4 L4 r).2.1.free ≤ 65536 := by unfold Lg.free; split <;> omega
  have hfull : L4.free ≠ 65536 → (appL σ4 L4 r).2.1.free = 0 := by
    intro hne
    have hni : ¬ L4.i = L4.count := fun e => by unfold Lg.free at h0; rw [if_pos (.inr e)] at h0; exact h0 rfl
    have hcap : L4.free = L4.cap := by
      unfold Lg.free at hne ⊢
      rw [if_neg (by rw [d4]; rintro (h | h); cases h; exact hni h)] at hne ⊢
      omega
    have e1 : appL σ4 L4 r = appR r.size true (bl r) σ4 L4 := by unfold appL; rw [if_neg (by rw [d4]; decide), if_neg hrn, if_neg (by omega), if_neg (by omega)]
    have hbn : bl r ≠ [] := fun e => hrn (bl_inj e)
    have go : L4.Go (bl r) := rd4.go d4 (by rw [bl_length]; omega) hbn
    have := full_law r.size true (bl r) σ4 L4 go hbn (by rw [bl_length]; omega) (by rw [bl_length]; exact Nat.le_refl _) (by rw [← e1]; exact c12)
    rw [← e1] at this
    unfold Lg.free
    rw [if_pos (.inr this)]
  refine ⟨_, rfl, true, ⟨fun _ => ⟨fun _ => ⟨fun _ => ⟨rfl, rfl⟩, fun hne => ⟨rfl, ?_⟩⟩, fun hf => ?_⟩, fun hf => (by rw [c12] at hf; simp at hf)⟩, rfl, (K10.trans (Kp.ext C10 x11)).trans k12 |>.ext_of⟩
  · have hne : ¬ (L4.free : Int) = 65536 := of_decide_eq_false hne
    rw [hfull (by omega)]; rfl
  · have hf : ¬ ((appL σ4 L4 r).2.1.free : Int) ≤ L4.free := of_decide_eq_false hf
    by_cases h65 : L4.free = 65536
    · omega
    · rw [hfull h65] at hf; omega

end
end Go.Vc
