import Derived.Test.YtlidgpojlgochaaGreatDoorS9ZCyA
import Derived.Test.YtlidgpojlgochaaGreatDoorS9ZCkX
set_option maxRecDepth 10000
/- CkptPlays: one call, in both; what holds of the disks. -/
namespace Go.Vc
open Go Go.Proofs Go.MapKept

/-! ## Two disks that differ in their reads go on alike -/

theorem stepped_rds (σ : DS) (r : Int) : DS.stepped { σ with reads := r } = { σ.stepped with reads := r } := by unfold DS.stepped; split <;> rfl

theorem Rds.write {σ τ : DS} (x : Rds σ τ) (n : Int) (s : ByteArray) : Rds (σ.write n s).1 (τ.write n s).1 ∧ (τ.write n s).2 = (σ.write n s).2 := by
  obtain ⟨r, rfl⟩ := x
  have ha : DS.asked { σ with reads := r } n = σ.asked n := rfl
  unfold DS.write
  rw [ha, stepped_rds σ r]
  split
  · split
    · split
      · exact ⟨⟨r, rfl⟩, rfl⟩
      · exact ⟨⟨r, rfl⟩, rfl⟩
    · exact ⟨⟨r, rfl⟩, rfl⟩
  · exact ⟨⟨r, rfl⟩, rfl⟩

theorem Rds.flush {σ τ : DS} (x : Rds σ τ) : Rds σ.flush.1 τ.flush.1 ∧ τ.flush.2 = σ.flush.2 := by
  obtain ⟨r, rfl⟩ := x
  have hg : DS.gone { σ with reads := r } = σ.gone := rfl
  unfold DS.flush
  rw [stepped_rds σ r, hg]
  split
  · exact ⟨⟨r, rfl⟩, rfl⟩
  · split
    · exact ⟨⟨r, rfl⟩, rfl⟩
    · exact ⟨⟨r, rfl⟩, rfl⟩

theorem Rds.readB {σ τ : DS} (x : Rds σ τ) (n : Int) : Rds (σ.read n).1 (τ.read n).1 ∧ (τ.read n).2 = (σ.read n).2 := by
  refine ⟨(Rds.read σ n).symm.trans (x.trans (Rds.read τ n)), ?_⟩
  obtain ⟨r, rfl⟩ := x
  have ha : DS.asked { σ with reads := r } n = σ.asked n := rfl
  unfold DS.read
  rw [ha]
  split <;> rfl

theorem Rds.put {σ τ : DS} (x : Rds σ τ) (n : Int) (f : Frm) : Rds (putF σ n f).1 (putF τ n f).1 ∧ (putF τ n f).2 = (putF σ n f).2 := by
  obtain ⟨y, e⟩ := x.readB n
  unfold putF
  rw [e]
  split
  · exact ⟨x, rfl⟩
  · split
    · exact ⟨y, rfl⟩
    · exact y.write n _

theorem Rds.run {l : List (DS → DS × Int)} (hl : ∀ f ∈ l, ∀ {σ τ : DS}, Rds σ τ → Rds (f σ).1 (f τ).1 ∧ (f τ).2 = (f σ).2) {σ τ : DS} (x : Rds σ τ) : Rds (runL l σ).1 (runL l τ).1 ∧ (runL l τ).2 = (runL l σ).2 := by
  induction l generalizing σ τ with
  | nil => exact ⟨x, rfl⟩
  | cons f l ih =>
    obtain ⟨y, e⟩ := hl f (by simp) x
    rw [runL, runL, e]
    split
    · exact ⟨y, e⟩
    · exact ih (fun g hg => hl g (by simp [hg])) y

theorem mem_steps {H : Hd} {image : ByteArray} {f : DS → DS × Int} (hf : f ∈ stepsF H image) : (∃ k, k < numP image ∧ f = putS H image k) ∨ f = DS.flush ∨ f = headS H image := by
  unfold stepsF at hf
  rcases List.mem_append.1 hf with h | h
  · obtain ⟨k, hk, rfl⟩ := List.mem_map.1 h
    exact .inl ⟨k, List.mem_range.1 hk, rfl⟩
  · simp at h
    rcases h with h | h | h
    · exact .inr (.inl h)
    · exact .inr (.inr h)
    · exact .inr (.inl h)

theorem Rds.writeC {σ τ : DS} (x : Rds σ τ) (H : Hd) (s : ByteArray) : Rds (Go.Vc.writeC σ H s).1 (Go.Vc.writeC τ H s).1 ∧ (Go.Vc.writeC τ H s).2 = (Go.Vc.writeC σ H s).2 := by
  unfold Go.Vc.writeC
  rw [x.safe]
  split
  · exact ⟨x, rfl⟩
  · split
    · exact ⟨x, rfl⟩
    · refine Rds.run (fun f hf σ τ x => ?_) x
      rcases mem_steps hf with ⟨k, _, rfl⟩ | rfl | rfl
      · exact x.put _ _
      · exact x.flush
      · exact x.put _ _

theorem Rds.cut {σ τ : DS} (x : Rds σ τ) (n : Int) : Rds (σ.cut n) (τ.cut n) := by
  obtain ⟨r, rfl⟩ := x
  unfold DS.cut
  show Rds _ (if σ.gone = true then _ else _)
  split <;> exact ⟨r, rfl⟩
theorem Rds.crash {σ τ : DS} (x : Rds σ τ) (fates : List (Int × Int)) : Rds (σ.crash fates) (τ.crash fates) := by
  obtain ⟨r, rfl⟩ := x
  exact ⟨r, rfl⟩

/-! ## How much waits -/

structure Bd (N : Nat) (σ : DS) : Prop where
  a : σ.pend.length ≤ N + 8
  b : σ.gone = false → σ.pend.length ≤ N
  c : σ.safe.length ≤ 14

theorem Bd.rds {N : Nat} {σ τ : DS} (b : Bd N σ) (x : Rds σ τ) : Bd N τ := by obtain ⟨r, rfl⟩ := x; exact ⟨b.a, b.b, b.c⟩
theorem Bd.more {N : Nat} {σ : DS} (b : Bd N σ) : Bd (N + 1) σ := ⟨by have := b.a; omega, fun h => by have := b.b h; omega, b.c⟩

theorem Bd.stepped {N : Nat} {σ : DS} (b : Bd N σ) (hg : σ.gone = false) : σ.stepped.pend.length ≤ N ∧ σ.stepped.safe.length ≤ 14 := by
  obtain ⟨e1, e2, _⟩ := σ.stepped_safe
  rw [e1, e2]; exact ⟨b.b hg, b.c⟩

theorem Bd.write {N : Nat} {σ : DS} (b : Bd N σ) (n : Int) (s : ByteArray) : Bd (N + 1) (σ.write n s).1 := by
  unfold DS.write
  split
  · rename_i ha
    obtain ⟨hg, _⟩ := DS.asked_zero ha
    obtain ⟨h1, h2⟩ := b.stepped hg
    split
    · split
      · exact ⟨by show σ.stepped.pend.length ≤ _; omega, fun _ => by show σ.stepped.pend.length ≤ _; omega, h2⟩
      · have hb := b.b hg
        exact ⟨by show (σ.pend ++ _).length ≤ _; simp; omega, fun _ => by show (σ.pend ++ _).length ≤ _; simp; omega, h2⟩
    · exact b.more
  · exact b.more

theorem layAll_len : ∀ (l : List (Nat × ByteArray)) (sf : List ByteArray), (layAll sf l).length = sf.length := layAll_length'

theorem Bd.flush {N : Nat} {σ : DS} (b : Bd N σ) : Bd N σ.flush.1 := by
  unfold DS.flush
  split
  · exact b
  · rename_i hg
    obtain ⟨h1, h2⟩ := b.stepped (by simpa using hg)
    split
    · exact ⟨by show σ.stepped.pend.length ≤ _; omega, fun _ => h1, h2⟩
    · exact ⟨Nat.zero_le _, fun _ => Nat.zero_le _, by show (layAll σ.safe σ.pend).length ≤ _; rw [layAll_len]; exact b.c⟩
theorem Bd.cut {N : Nat} {σ : DS} (b : Bd N σ) (n : Int) : Bd N (σ.cut n) := by
  unfold DS.cut
  split
  · exact b
  · exact ⟨b.a, b.b, b.c⟩
theorem layFates_len : ∀ (l : List (Nat × ByteArray)) (fates : List (Int × Int)) (sf : List ByteArray), (layFates sf l fates).length = sf.length := by
  intro l
  induction l with
  | nil => intro f sf; rfl
  | cons x l ih =>
    intro f sf
    cases f with
    | nil => rfl
    | cons y f =>
      show (layFates (layD sf x (keptN y)) l f).length = _
      rw [ih, layD_length]
theorem Bd.crash {N : Nat} {σ : DS} (b : Bd N σ) (fates : List (Int × Int)) : Bd N (σ.crash fates) :=
  ⟨Nat.zero_le _, fun _ => Nat.zero_le _, by show (layFates σ.safe σ.pend fates).length ≤ _; rw [layFates_len]; exact b.c⟩

/-- One step of a checkpoint: what waits is one more at most; where it fails, the power is off. -/
structure StepOk (n : Nat) (f : DS → DS × Int) : Prop where
  off : ∀ σ : DS, σ.gone = true → (f σ).1.gone = true ∧ (f σ).1.pend = σ.pend ∧ (f σ).1.safe = σ.safe ∧ (f σ).2 ≠ 0
  on : ∀ σ : DS, σ.gone = false → σ.safe.length = n → (f σ).1.safe.length = n ∧ (f σ).1.pend.length ≤ σ.pend.length + 1 ∧ (((f σ).2 ≠ 0 ∧ (f σ).1.gone = true) ∨ ((f σ).2 = 0 ∧ (f σ).1.gone = false))

theorem put_off {σ : DS} (hg : σ.gone = true) {n : Int} {f : Frm} (r : f.Right) : putF σ n f = (σ, 40) := by
  have ha : σ.asked n = 40 := by unfold DS.asked; rw [if_pos hg]
  have hr : σ.read n = (σ, ByteArray.empty, 40) := by unfold DS.read; rw [if_neg (by rw [ha]; decide), ha]
  unfold putF
  rw [if_neg (by rw [r.wrong]; simp), hr, if_pos (by show (40 : Int) ≠ 0; decide)]

theorem put_ok_step {N n : Nat} {f : Frm} (r : f.Right) (hn : n < N) : StepOk N fun σ => putF σ (n : Int) f := by
  constructor
  · intro σ hg
    show (putF σ (n : Int) f).1.gone = true ∧ _
    rw [put_off hg r]
    exact ⟨hg, rfl, rfl, by show (40 : Int) ≠ 0; decide⟩
  · intro σ hg hs
    have A : Alive σ σ.safe σ.pend σ.plan := ⟨hg, rfl, rfl, rfl⟩
    rcases put_step A (n := n) (by omega) r with ⟨_, h2, D⟩ | ⟨_, h2, D⟩
    · exact ⟨by show (putF σ (n : Int) f).1.safe.length = N; rw [D.s]; exact hs, by show (putF σ (n : Int) f).1.pend.length ≤ _; rw [D.q]; omega, .inl ⟨by show (putF σ (n : Int) f).2 ≠ 0; rw [h2]; decide, D.g⟩⟩
    · exact ⟨by show (putF σ (n : Int) f).1.safe.length = N; rw [D.s]; exact hs, by show (putF σ (n : Int) f).1.pend.length ≤ _; rw [D.q]; simp, .inr ⟨h2, D.g⟩⟩

theorem flush_ok_step (N : Nat) : StepOk N DS.flush := by
  constructor
  · intro σ hg
    have e : σ.flush = (σ, 40) := by unfold DS.flush; rw [if_pos hg]
    rw [e]
    exact ⟨hg, rfl, rfl, by show (40 : Int) ≠ 0; decide⟩
  · intro σ hg hs
    have A : Alive σ σ.safe σ.pend σ.plan := ⟨hg, rfl, rfl, rfl⟩
    rcases flush_step A with ⟨_, h2, D⟩ | ⟨_, h2, D⟩
    · exact ⟨by rw [D.s]; exact hs, by rw [D.q]; omega, .inl ⟨by rw [h2]; decide, D.g⟩⟩
    · exact ⟨by rw [D.s, layAll_len]; exact hs, by rw [D.q]; simp, .inr ⟨h2, D.g⟩⟩

theorem run_off {N : Nat} {l : List (DS → DS × Int)} (hl : ∀ f ∈ l, StepOk N f) {σ : DS} (hg : σ.gone = true) : (runL l σ).1.gone = true ∧ (runL l σ).1.pend = σ.pend ∧ (runL l σ).1.safe = σ.safe := by
  cases l with
  | nil => exact ⟨hg, rfl, rfl⟩
  | cons f l =>
    obtain ⟨h1, h2, h3, h4⟩ := (hl f (by simp)).off σ hg
    rw [runL, if_pos h4]
    exact ⟨h1, h2, h3⟩

theorem run_on {N : Nat} {l : List (DS → DS × Int)} (hl : ∀ f ∈ l, StepOk N f) {σ : DS} (hg : σ.gone = false) (hs : σ.safe.length = N) : (runL l σ).1.safe.length = N ∧ (runL l σ).1.pend.length ≤ σ.pend.length + l.length ∧
    (((runL l σ).2 ≠ 0 ∧ (runL l σ).1.gone = true) ∨ ((runL l σ).2 = 0 ∧ (runL l σ).1.gone = false)) := by
  induction l generalizing σ with
  | nil => exact ⟨hs, Nat.le_refl _, .inr ⟨rfl, hg⟩⟩
  | cons f l ih =>
    obtain ⟨h1, h2, h3⟩ := (hl f (by simp)).on σ hg hs
    rw [runL]
    rcases h3 with ⟨hc, hgo⟩ | ⟨hc, hgo⟩
    · rw [if_pos hc]
      exact ⟨h1, by simp; omega, .inl ⟨hc, hgo⟩⟩
    · rw [if_neg (by simpa using hc)]
      obtain ⟨k1, k2, k3⟩ := ih (fun g hg => hl g (by simp [hg])) hgo h1
      exact ⟨k1, by simp; omega, k3⟩

theorem run_snoc (l : List (DS → DS × Int)) (f : DS → DS × Int) (σ : DS) : runL (l ++ [f]) σ = if (runL l σ).2 ≠ 0 then runL l σ else f (runL l σ).1 := by
  induction l generalizing σ with
  | nil =>
    rw [List.nil_append, runL, runL, runL]
    rw [if_neg (show ¬ ((σ, (0 : Int)).2 ≠ 0) by simp)]
    split
    · rfl
    · rename_i h
      have h : (f σ).2 = 0 := Decidable.of_not_not h
      rw [← h]
  | cons g l ih =>
    rw [List.cons_append, runL, runL]
    split
    · rfl
    · exact ih _

theorem steps_ok {n : Nat} {H : Hd} {image : ByteArray} (F : FitsH n H image) : ∀ f ∈ stepsF H image, StepOk n f := by
  intro f hf
  rcases mem_steps hf with ⟨k, hk, rfl⟩ | rfl | rfl
  · have hp := F.pl
    have e : putS H image k = fun σ => putF σ ((plN H + k : Nat) : Int) (pieceM H image k) := by
      funext σ
      unfold putS
      rw [hp.1]
      congr 1
    rw [e]
    exact put_ok_step (F.pieceR hk) (by omega)
  · exact flush_ok_step n
  · have hs := F.slot
    have e : headS H image = fun σ => putF σ (H.slot.toNat : Int) (headM H image) := by
      funext σ
      unfold headS
      rw [← hs.1]
    rw [e]
    exact put_ok_step F.headR hs.2.2

theorem Bd.writeC {N : Nat} {σ : DS} (b : Bd N σ) (H : Hd) (s : ByteArray) : Bd N (Go.Vc.writeC σ H s).1 := by
  unfold Go.Vc.writeC
  split
  · exact b
  rename_i hA
  split
  · exact b
  rename_i hB
  have hne : s ≠ ⟨#[]⟩ := fun e => hA (.inr e)
  have hr : rightH σ.safe.length H = true := by
    cases h : rightH σ.safe.length H with
    | true => rfl
    | false => exact (hA (.inl h)).elim
  have hpos : 1 ≤ s.size := Nat.pos_of_ne_zero fun h0 => hne (bl_inj (List.eq_nil_of_length_eq_zero (by rw [bl_length]; exact h0)))
  have F : FitsH σ.safe.length H s := ⟨hr, hpos, by omega⟩
  have hF := F.b
  have hnum := F.num
  have hbc := b.c
  have hok := steps_ok F
  have hlen := steps_length H s
  by_cases hg : σ.gone = true
  · obtain ⟨k1, k2, k3⟩ := run_off hok hg
    exact ⟨by rw [k2]; exact b.a, fun h => (by rw [k1] at h; cases h), by rw [k3]; exact b.c⟩
  · have hg : σ.gone = false := by simpa using hg
    obtain ⟨k1, k2, k3⟩ := run_on hok hg rfl
    have hb := b.b hg
    refine ⟨by omega, fun h => ?_, by omega⟩
    rcases k3 with ⟨_, k4⟩ | ⟨k3, _⟩
    · rw [k4] at h; cases h
    have es : stepsF H s = ((List.range (numP s)).map (putS H s) ++ [DS.flush, headS H s]) ++ [DS.flush] := by unfold stepsF; simp
    rw [es, run_snoc] at k3 ⊢
    split at k3
    · rename_i hn; exact (hn k3).elim
    · rename_i hn
      rw [if_neg hn]
      generalize (runL ((List.range (numP s)).map (putS H s) ++ [DS.flush, headS H s]) σ).1 = τ at k3 ⊢
      have : τ.flush.1.pend = [] := by
        unfold DS.flush at k3 ⊢
        split at k3
        · simp at k3
        · rename_i h1
          rw [if_neg h1]
          split at k3
          · simp at k3
          · rename_i h2
            rw [if_neg h2]
      rw [this]
      exact Nat.zero_le _

/-! ## The calls -/

section
variable {B1 B2 : Nat → Prop} {h g h' : Hp} {d q : Nat} {σ τ σ' τ' : DS}

/-- Where two disks have come, from here on. -/
def TwoTo (B1 B2 : Nat → Prop) (h h' : Hp) (d q : Nat) (σ' τ' : DS) : Prop :=
  Same (Or2 B1 B2) h h' ∧ ∃ B1' B2', Two B1' B2' h' d q σ' τ' ∧ (∀ b, B1' b → B1 b ∨ h.size ≤ b) ∧ ∀ b, B2' b → B2 b ∨ h.size ≤ b

theorem TwoTo.of (t : Two B1 B2 h' d q σ' τ') (y : Same (Or2 B1 B2) h h') : TwoTo B1 B2 h h' d q σ' τ' := ⟨y, B1, B2, t, fun _ hb => .inl hb, fun _ hb => .inl hb⟩
theorem TwoTo.from (x : Ext h g) (t : TwoTo B1 B2 g h' d q σ' τ') : TwoTo B1 B2 h h' d q σ' τ' := by
  obtain ⟨y, B1', B2', t, k1, k2⟩ := t
  have := x.size
  exact ⟨(x.same _).trans y fun _ hb _ => hb, B1', B2', t, fun b hb => (k1 b hb).imp id fun h => by omega, fun b hb => (k2 b hb).imp id fun h => by omega⟩

theorem Or2.ne (t : Two B1 B2 h d q σ τ) {b : Nat} (hb : h.size ≤ b) : ¬ Or2 B1 B2 b := fun hx => by have := t.lt b hx; omega

/-- Each of both is written to, one behind the other. -/
theorem TwoTo.both {h2 h3 : Hp} (t : Two B1 B2 h d q σ τ) (y2 : Same B1 h h2) (D2 : DiskAt dI h2 (GrowB B1 h h2) d σ') (y3 : Same B2 h2 h3) (D3 : RefAt rI h3 (GrowB B2 h2 h3) q τ') (r : Rds σ' τ') (h0 : 0 < h.size) : TwoTo B1 B2 h h3 d q σ' τ' := by
  have s2 := y2.size
  have s3 := y3.size
  have la := t.a.lt
  have lb := t.b.lt
  refine ⟨y2.left.trans y3.right fun _ hb _ => hb, GrowB B1 h h2, GrowB B2 h2 h3, ⟨D2.other y3 fun b hb hb' => ?_, D3, r, fun b hb hb' => ?_, ?_, ?_⟩, fun b hb => hb.imp id fun h => h.1, fun b hb => hb.imp id fun h => by omega⟩
  · rcases hb with hb | hb
    · exact t.dis b hb hb'
    · have := lb b hb'; omega
  · rcases hb with hb | hb
    · rcases hb' with hb' | hb'
      · exact t.dis b hb hb'
      · have := la b hb; omega
    · rcases hb' with hb' | hb'
      · have := lb b hb'; omega
      · omega
  · rintro (hb | hb)
    · exact t.n0.1 hb
    · omega
  · rintro (hb | hb)
    · exact t.n0.2 hb
    · omega

/-- turnoutlaw20.pair.writes -/
theorem pwrites_c (t : Two B1 B2 h d q σ τ) (hh : Halves h) (H : Hd) (ok : H.Ok) (s : ByteArray) (hl : σ.pend.length ≤ 2199023250000) :
    CallsH Tryz.prog 20 #[.agg #[vP d, vP q], .agg (hdV H).toArray, .string s] h fun e h' => TwoTo B1 B2 h h' d q (Go.Vc.writeC σ H s).1 (Go.Vc.writeC τ H s).1 ∧ e = .returned (.bool true) := by
  refine V20 _ _ _ _ _ _ _ _ h _ ?_
  intro b g1 hb e1
  have x1 : Ext h g1 := by rw [e1]; exact Ext.push _ _
  have c1 : g1[b]? = some (.cells #[vP d, vP q] 34) := by rw [e1, hb]; exact push_last
  clear e1
  intro b1 g2 hb1 e2
  have x2 : Ext g1 g2 := by rw [e2]; exact Ext.push _ _
  have k2 : g2[b1]? = some (.cells (hdV H).toArray 39) := by rw [e2, hb1]; exact push_last
  clear e2
  have c2 := (x2.old b (Array.getElem?_eq_some_iff.1 c1).1).trans c1
  have x02 := x1.trans x2
  have t2 := t.ext x02
  have hh2 := hh.ext x02
  have s1 := x1.size
  have nb : ¬ Or2 B1 B2 b := Or2.ne t (by omega)
  have nb1 : ¬ Or2 B1 B2 b1 := Or2.ne t (by omega)
  have lb := (Array.getElem?_eq_some_iff.1 c2).1
  have lb1 := (Array.getElem?_eq_some_iff.1 k2).1
  obtain ⟨r, ec⟩ := t.r.writeC H s
  have hlt : τ.pend.length ≤ 2199023250000 := by rw [t.r.pend]; exact hl
  refine ⟨fun h' => h'[b]? = some (.cells #[vP d, vP q] 34) ∧ h'[b1]? = some (.cells (hdV H).toArray 39), ⟨c2, k2⟩, _, cellsAt_one (cellH_at c2), _, _, _, _, _, cellsAt_all (vs := hdV H) k2, (writeH_c t2.a hh2 t2.n0.1 H ok s (by omega)).mono ?_⟩
  rintro e g3 ⟨y3, D3, rfl⟩
  have c3 := (y3.left.old b lb nb).trans c2
  have k3 := (y3.left.old b1 lb1 nb1).trans k2
  refine ⟨_, rfl, ⟨c3, k3⟩, _, fun h' c => cellsAt_one (cellH_at c.1), _, _, _, _, _, fun h' c => cellsAt_all (vs := hdV H) c.2, (rWriteH_c (t2.b.other y3 fun x h1 h2 => t.dis x h2 h1) H ok s hlt).mono ?_⟩
  rintro e g4 ⟨y4, D4, rfl⟩
  have c4 := (y4.right (B1 := B1) |>.old b (Nat.lt_of_lt_of_le lb y3.size) nb).trans c3
  have k4 := (y4.right (B1 := B1) |>.old b1 (Nat.lt_of_lt_of_le lb1 y3.size) nb1).trans k3
  refine ⟨_, rfl, ⟨c4, k4⟩, TwoTo.from x02 (TwoTo.both t2 y3 D3 y4 D4 r (hh2.pos)), ?_⟩
  rw [ec]; simp

/-- turnoutlaw20.long, of any number -/
def longG (n : Nat) (w : Int) : ByteArray := tx ((List.range n).map fun i => UInt8.ofNat (IntKind.i64.wrap (w + ((i / 5 : Nat) : Int)) % 256).toNat)

theorem longG_c (n : Nat) (w : Int) (hn : n ≤ 4194304) (h : Hp) : CallsH Tryz.prog 15 #[vI n, vZ w] h fun e h' => Ext h h' ∧ e = .returned (.string (longG n w)) := by
  refine V15 _ _ h _ (semH_make rowB zerosB (l := n) (c := n) (Nat.le_refl _) (by omega) (by simp only [maxLen]; omega) ⟨_, _, _, rfl, ?_⟩)
  have x1 : Ext h (h.push (.cells (Array.replicate n (.int .u8 0)) 5)) := Ext.push _ _
  have o1 : Own (h.push (.cells (Array.replicate n (.int .u8 0)) 5)) h.size 5 1 (.slice (some ⟨h.size, 0, none⟩) n n) n (List.replicate n (.int .u8 0)) := own_made (z := .int .u8 0) (l := n) (Nat.le_refl _) (by simp only [maxLen]; omega) (Nat.le_refl _)
  generalize h.push (.cells (Array.replicate n (.int .u8 0)) 5) = h1 at x1 o1
  let C : Nat → UInt8 := fun i => UInt8.ofNat (IntKind.i64.wrap (w + ((i / 5 : Nat) : Int)) % 256).toNat
  refine ⟨fun l hr => ∃ i : Nat, l = [vI i] ∧ i ≤ n ∧ Ext h hr ∧ Own hr h.size 5 1 (.slice (some ⟨h.size, 0, none⟩) n n) n ((List.range n).map fun j => if j < i then vB (C j) else .int .u8 0), fun l _ => (n - numAt l 0).toNat,
    ⟨0, rfl, Nat.zero_le _, x1, ?_⟩, ?_⟩
  · have : (List.range n).map (fun j => if j < 0 then vB (C j) else Value.int .u8 0) = List.replicate n (.int .u8 0) := by
      apply List.ext_getElem?
      intro j
      by_cases hj : j < n
      · simp [hj]
      · simp [hj]
    rw [this]; exact o1
  rintro x hr ⟨i, hl, hi, xr, o⟩
  cases hl
  refine ⟨fun hlt => ?_, fun hlt => ?_⟩
  · have hlt : i < n := by have := of_decide_eq_true hlt; omega
    have hdiv : Int.tdiv (i : Int) 5 = ((i / 5 : Nat) : Int) := (Int.ofNat_tdiv i 5).symm
    have hu : IntKind.u8.wrap (IntKind.i64.wrap (w + ((i / 5 : Nat) : Int))) = ((C i).toNat : Int) := by
      show _ = ((UInt8.ofNat _).toNat : Int)
      rw [wrapU8, u8_nat]
      generalize IntKind.i64.wrap (w + ((i / 5 : Nat) : Int)) = z
      omega
    refine ⟨by decide, ((i / 5 : Nat) : Int), by rw [hdiv]; exact wrapI64 (by omega) (by omega), _, rfl, _, hu, ?_⟩
    refine o.store hlt rfl fun h2 o2 g2 _ => ?_
    refine ⟨_, incI (by omega), ⟨i + 1, rfl, hlt, xr.grown g2 fun k hk => (o.lt hk).1, ?_⟩, by simp only [numAt]; omega⟩
    have : ((List.range n).map fun j => if j < i then vB (C j) else Value.int .u8 0).set i (Value.int .u8 ((C i).toNat : Int)) = (List.range n).map fun j => if j < i + 1 then vB (C j) else Value.int .u8 0 := by
      apply List.ext_getElem?
      intro j
      rw [List.getElem?_set]
      by_cases hj : j < n
      · by_cases hij : i = j
        · subst hij
          simp [hj]
        · rw [if_neg hij]
          simp only [List.getElem?_map, List.getElem?_range hj, Option.map_some]
          congr 1
          by_cases h1 : j < i
          · rw [if_pos h1, if_pos (by omega)]
          · rw [if_neg h1, if_neg (by omega)]
      · have hij : i ≠ j := by omega
        rw [if_neg hij]
        simp [hj]
    rw [← this]; exact o2
  · have hi : i = n := by have := of_decide_eq_false hlt; omega
    subst hi
    refine semH_toText uBs uB uStr (t := longG i w) ?_ ⟨_, rfl, xr, rfl⟩
    have e1 : byteVs (longG i w).data.toList = (List.range i).map fun j => if j < i then vB (C j) else Value.int .u8 0 := by
      show byteVs (bl (longG i w)) = _
      unfold longG
      rw [bl_tx]
      apply List.ext_getElem?
      intro j
      by_cases hj : j < i
      · simp [byteVs, hj, C]
      · simp [byteVs, hj]
    rw [e1]
    exact o.seg

/-- turnoutlaw20.pick, of a length -/
theorem pickL_c (c n : Nat) (hn : 0 < n) (h : Hp) : CallsH Tryz.prog 5 #[vI c, vI n] h fun e h' => h' = h ∧ e = .returned (vI (c % n)) := by
  refine V5 _ _ h _ ⟨fun hc => ?_, fun _ => ⟨by omega, _, tmod_nat c n, rfl, rfl⟩⟩
  have := of_decide_eq_true hc
  omega

/-! ## One of a script's calls -/

structure COp where
  kind : Int
  on : Int
  n : Int
  H : Hd
  s : ByteArray
  fp : Option Addr
  fn : Nat
  fc : Nat
  fates : List (Int × Int)

def copV (o : COp) : List Value := [vZ o.kind, vZ o.on, vZ o.n, vZ o.H.slot, vU o.H.gen, vU o.H.ep, vZ o.H.ls, vZ o.H.ll, .string o.s, .slice o.fp o.fn o.fc]

structure COp.Ok (h : Hp) (o : COp) : Prop where
  n0 : -9223372036854775808 ≤ o.n
  n1 : o.n ≤ 9223372036854775807
  on0 : -9223372036854775808 ≤ o.on
  on1 : o.on ≤ 9223372036854775807
  hd : o.H.Ok
  seg : SegS h o.fp o.fn 2 (o.fates.map fateV)

theorem cells3 {h : Hp} {b : Nat} {o : COp} (c : h[b]? = some (.cells (copV o).toArray 42)) : cellsAt h b (0 + 3) (hdV o.H) := by
  refine cellsAt_of c fun j hj => ?_
  have hj : j < 5 := hj
  match j, hj with
  | 0, _ => rfl
  | 1, _ => rfl
  | 2, _ => rfl
  | 3, _ => rfl
  | 4, _ => rfl

/-- turnoutlaw20.pair.next -/
theorem pnext_c (t : Two B1 B2 h d q σ τ) (hh : Halves h) (s : ByteArray) (hl : σ.pend.length ≤ 2199023250000) :
    CallsH Tryz.prog 22 #[.agg #[vP d, vP q], .string s] h fun e h' => ∃ σ' τ', TwoTo B1 B2 h h' d q σ' τ' ∧ (∀ N, Bd N σ → Bd N σ') ∧ e = .returned (.bool true) := by
  refine V22 _ _ _ h _ ?_
  intro b g1 hb e1
  have x1 : Ext h g1 := by rw [e1]; exact Ext.push _ _
  have c1 : g1[b]? = some (.cells #[vP d, vP q] 34) := by rw [e1, hb]; exact push_last
  clear e1
  have t1 := t.ext x1
  have lb := (Array.getElem?_eq_some_iff.1 c1).1
  have nb : ¬ Or2 B1 B2 b := Or2.ne t (by omega)
  refine ⟨_, cellsAt_one (cellH_at c1), (rFind_c t1.b).mono ?_⟩
  rintro e g2 ⟨y2, D2, rfl⟩
  have t2 := t1.goB y2 D2 (find_rds τ)
  have y02 : Same (Or2 B1 B2) h g2 := (x1.same _).trans y2.right fun _ hb _ => hb
  have hh2 := t.halves hh y02
  have c2 := (y2.right (B1 := B1) |>.old b lb nb).trans c1
  obtain ⟨G, im, code, hF⟩ : ∃ G im code, (findF τ).2 = (G, im, code) := ⟨_, _, _, rfl⟩
  rw [hF]
  refine ⟨_, _, _, _, _, _, _, rfl, ?_⟩
  refine hd_new G fun b3 g3 hb3 x3 c3 => ?_
  have c23 := (x3.old b (Array.getElem?_eq_some_iff.1 c2).1).trans c2
  have t3 := t2.ext x3
  have y03 : Same (Or2 B1 B2) h g3 := y02.trans (x3.same _) fun _ hb _ => hb
  refine ⟨fun _ => ⟨_, _, TwoTo.of t3 y03, fun _ b => b, rfl⟩, fun hc => ?_⟩
  have hc : code = 0 := Decidable.of_not_not (show ¬ code ≠ 0 from of_decide_eq_false hc)
  subst hc
  refine ⟨_, _, _, _, _, cellsAt_all (vs := hdV G) c3, (refNext_c G 0 g3).mono ?_⟩
  rintro e g4 ⟨x4, rfl⟩
  obtain ⟨G', c', hN⟩ : ∃ G' c', nextF G 0 = (G', c') := ⟨_, _, rfl⟩
  rw [hN]
  have t4 := t3.ext x4
  refine ⟨_, _, _, _, _, _, rfl, ?_⟩
  refine hd_new G' fun b5 g5 hb5 x5 c5 => ?_
  have x35 := x4.trans x5
  have t5 := t3.ext x35
  have y05 : Same (Or2 B1 B2) h g5 := y03.trans (x35.same _) fun _ hb _ => hb
  refine ⟨fun _ => ⟨_, _, TwoTo.of t5 y05, fun _ b => b, rfl⟩, fun hc => ?_⟩
  have hc : c' = 0 := Decidable.of_not_not (show ¬ c' ≠ 0 from of_decide_eq_false hc)
  subst hc
  have cb5 := (x35.old b (Array.getElem?_eq_some_iff.1 c23).1).trans c23
  -- the head that is found is right, so the next one is a head
  have hgo : τ.gone = false := by
    cases hg : τ.gone with
    | false => rfl
    | true =>
      have hn := newest_off hg
      have hf : (findF τ).2.2.2 = 40 := by
        unfold findF
        rw [if_pos (by rw [hn]; decide), hn]
      rw [hF] at hf
      cases hf
  have hG : rightH τ.safe.length G = true := by
    rcases find_any hgo with ⟨_, hf⟩ | ⟨tk, l, hn, hf⟩
    · rw [hF] at hf; cases hf
    · rcases hf with hf | ⟨im', hf, _⟩
      · rw [hF] at hf; cases hf
      · rw [hF] at hf
        cases hf
        exact newest_right hgo (by rw [hn]; simp)
  obtain ⟨r1, r2, r3, r4, r5, r6, r7, r8⟩ := rightH_ok hG
  have okG : G'.Ok := by
    unfold nextF at hN
    split at hN
    · cases hN
    · split at hN
      · cases hN
      · cases hN
        exact ⟨by show _ ≤ 1 - G.slot; omega, by show 1 - G.slot ≤ _; omega, by show G.gen + 1 < _; omega, by show max 0 G.ep + 1 < _; omega, by show _ ≤ G.ls; omega, by show G.ls ≤ _; omega, by show _ ≤ G.ll; omega, by show G.ll ≤ _; omega⟩
  refine ⟨_, _, cellsAt_all (vs := [vP d, vP q]) cb5, _, _, _, _, _, cellsAt_all (vs := hdV G') c5, (pwrites_c t5 (t.halves hh y05) G' okG s hl).mono ?_⟩
  rintro e g6 ⟨⟨y6, B1', B2', t6, k1, k2⟩, rfl⟩
  have s5 := y05.size
  exact ⟨_, rfl, _, _, ⟨y05.trans y6 fun _ hb _ => hb, B1', B2', t6, fun b hb => (k1 b hb).imp id fun h => by omega, fun b hb => (k2 b hb).imp id fun h => by omega⟩, fun N b => b.writeC _ _, rfl⟩

end
end Go.Vc

/- CkptPlays: one call, in both. -/
namespace Go.Vc
open Go Go.Proofs Go.MapKept

/-- A row of bytes that came of a text: one is set. -/
theorem bytes_set {h : Hp} {b c : Nat} {cur : Array Value} {e : TypeId} {l : List UInt8} (cb : h[b]? = some (.cells cur e (c, c + 1))) (hc : cur.size = c) (hle : l.length ≤ c) (ht : cur.toList.take l.length = byteVs l) {i : Nat} (hi : i < l.length) (u : UInt8) :
    cellsAt h b (0 + Int.toNat (i : Int) * 1) [vB l[i]] ∧ wrAt h b (0 + Int.toNat (i : Int) * 1) 1 ∧
    ∃ cur' : Array Value, (setsH h b (0 + Int.toNat (i : Int) * 1) [vB u])[b]? = some (.cells cur' e (c, c + 1)) ∧ ∀ h' : Hp, h'[b]? = some (.cells cur' e (c, c + 1)) → Seg h' (some ⟨b, 0, none⟩) l.length (byteVs (l.set i u)) := by
  have hcur : ∀ j, j < l.length → cur[j]? = (byteVs l)[j]? := fun j hj => by
    rw [← ht, List.getElem?_take_of_lt hj]; simp
  have e0 : 0 + Int.toNat (i : Int) * 1 = i := by simp
  rw [e0]
  refine ⟨cellsAt_one ?_, wrAt_of cb (by omega) (.inr (.inl (by omega))), _, setsH_at cb, fun h' c' => ⟨by simp [byteVs], .inr ⟨b, 0, rfl, cellsAt_of c' fun j hj => ?_⟩⟩⟩
  · rw [cellH_at cb, hcur i hi]
    simp [byteVs, hi]
  · have hj : j < l.length := by simpa [byteVs] using hj
    rw [Nat.zero_add, layC_get (by omega)]
    by_cases hij : i = j
    · subst hij
      rw [if_pos ⟨Nat.le_refl _, by simp⟩]
      simp [byteVs]
    · rw [if_neg (by simp; omega), hcur j hj]
      simp [byteVs, hj, List.getElem_set_ne hij]

theorem half_b2 (L : Nat) : -2 ≤ ((L : Int) - 3).tdiv 2 ∧ ((L : Int) - 3).tdiv 2 ≤ L ∧ (3 ≤ L → 2 * ((L : Int) - 3).tdiv 2 ≤ (L : Int) - 3) := by
  by_cases h : 3 ≤ L
  · obtain ⟨m, hm⟩ : ∃ m : Nat, (L : Int) - 3 = m := ⟨L - 3, by omega⟩
    have : ((L : Int) - 3).tdiv 2 = ((m / 2 : Nat) : Int) := by rw [hm]; exact (Int.ofNat_tdiv m 2).symm
    rw [this]; omega
  · have : L = 0 ∨ L = 1 ∨ L = 2 := by omega
    rcases this with rfl | rfl | rfl <;> decide

section
variable {B1 B2 : Nat → Prop} {h g h' : Hp} {d q : Nat} {σ τ σ' τ' : DS}

set_option maxHeartbeats 1000000 in
/-- turnoutlaw20.pair.spoils -/
theorem pspoils_c (t : Two B1 B2 h d q σ τ) (hh : Halves h) (o : COp) (ok : o.Ok h) (hl : σ.pend.length ≤ 2199023250000) :
    CallsH Tryz.prog 24 #[.agg #[vP d, vP q], .agg (copV o).toArray] h fun e h' => ∃ σ' τ', TwoTo B1 B2 h h' d q σ' τ' ∧ (∀ N, Bd N σ → Bd (N + 1) σ') ∧ e = .returned (.bool true) := by
  refine V24 _ _ _ _ _ _ _ _ _ _ _ _ _ _ h _ ?_
  intro b g1 hb e1
  have x1 : Ext h g1 := by rw [e1]; exact Ext.push _ _
  have c1 : g1[b]? = some (.cells #[vP d, vP q] 34) := by rw [e1, hb]; exact push_last
  clear e1
  intro b1 g2 hb1 e2
  have x2 : Ext g1 g2 := by rw [e2]; exact Ext.push _ _
  have k2 : g2[b1]? = some (.cells (copV o).toArray 42) := by rw [e2, hb1]; exact push_last
  clear e2
  have c2 := (x2.old b (Array.getElem?_eq_some_iff.1 c1).1).trans c1
  have x02 := x1.trans x2
  have t2 := t.ext x02
  have s1 := x1.size
  have nb : ¬ Or2 B1 B2 b := Or2.ne t (by omega)
  have nb1 : ¬ Or2 B1 B2 b1 := Or2.ne t (by omega)
  have lb := (Array.getElem?_eq_some_iff.1 c2).1
  have lb1 := (Array.getElem?_eq_some_iff.1 k2).1
  have okd := t.a.ok
  have hsafe : τ.safe = σ.safe := t.r.safe
  refine ⟨fun h' => h'[b1]? = some (.cells (copV o).toArray 42), k2, _, fun h' c => cellsAt_one (cellH_at c), _, cellsAt_one (cellH_at c2), (rSize_c t2.b).mono ?_⟩
  rintro e g3 ⟨rfl, rfl⟩
  rw [hsafe]
  refine ⟨_, rfl, k2, (pick_c o.n σ.safe.length okd.pos ok.n0 ok.n1 g3).mono ?_⟩
  rintro e g4 ⟨rfl, rfl⟩
  obtain ⟨n, hn⟩ : ∃ n, n = pickN o.n σ.safe.length := ⟨_, rfl⟩
  have hnl : n < σ.safe.length := by rw [hn]; exact pickN_lt _ okd.pos
  rw [← hn]
  refine ⟨_, rfl, k2, _, cellsAt_one (cellH_at c2), (rRead_c t2.b (n : Int)).mono ?_⟩
  rintro e g5 ⟨y5, _, D5, rfl⟩
  have t5 := t2.goB y5 D5 (Rds.read τ n)
  have y05 : Same (Or2 B1 B2) h g5 := (x02.same _).trans y5.right fun _ hb _ => hb
  refine ⟨_, _, rfl, fun _ => ⟨_, _, TwoTo.of t5 y05, fun _ b => b.more, rfl⟩, fun hc => ?_⟩
  have hc : (τ.read (n : Int)).2.2 = 0 := Decidable.of_not_not (show ¬ (τ.read (n : Int)).2.2 ≠ 0 from of_decide_eq_false hc)
  have hsz := read_size t2.b.ok hc
  obtain ⟨s, hs⟩ : ∃ s, s = (τ.read (n : Int)).2.1 := ⟨_, rfl⟩
  rw [← hs] at hsz ⊢
  have hbl : (bl s).length = 512 := by rw [bl_length]; exact hsz
  have hh5 := t.halves hh y05
  refine semH_toBytes uStr uBs uB fun c cur hcs hcl hct => ⟨_, _, _, rfl, ?_⟩
  have x6 : Ext g5 (g5.push (.cells cur 5 (c, c + 1))) := Ext.push _ _
  have c6 : (g5.push (.cells cur 5 (c, c + 1)))[g5.size]? = some (.cells cur 5 (c, c + 1)) := push_last
  generalize g5.push (.cells cur 5 (c, c + 1)) = g6 at x6 c6
  have cb5 := (y5.right (B1 := B1) |>.old b lb nb).trans c2
  have k5 := (y5.right (B1 := B1) |>.old b1 lb1 nb1).trans k2
  have cb6 := (x6.old b (Array.getElem?_eq_some_iff.1 cb5).1).trans cb5
  have k6 := (x6.old b1 (Array.getElem?_eq_some_iff.1 k5).1).trans k5
  refine ⟨_, cellsAt_one (cellH_at k6), (pickL_c o.s.size 512 (by decide) g6).mono ?_⟩
  rintro e g7 ⟨rfl, rfl⟩
  have hi : o.s.size % 512 < (bl s).length := by rw [hbl]; omega
  obtain ⟨i, hie⟩ : ∃ i, i = o.s.size % 512 := ⟨_, rfl⟩
  rw [← hie] at hi ⊢
  obtain ⟨p1, p2, cur', p3, p4⟩ := bytes_set c6 hcs (l := bl s) (by rw [hbl]; omega) (by rw [hbl]; have := hct; rw [hsz] at this; exact this) hi ((bl s)[i] + 1)
  have hw : IntKind.u8.wrap (((bl s)[i].toNat : Int) + 1) = (((bl s)[i] + 1 : UInt8).toNat : Int) := by
    have h1 : ((bl s)[i] + 1).toNat = ((bl s)[i].toNat + 1) % 256 := by simp [UInt8.toNat_add]
    rw [wrapU8]; omega
  refine ⟨_, rfl, g5.size, 0, rfl, by omega, by omega, _, p1, _, hw, g5.size, 0, rfl, by omega, by omega, rfl, p2, ?_⟩
  intro g8 e8
  have c8 : g8[g5.size]? = some (.cells cur' 5 (c, c + 1)) := by rw [e8]; exact p3
  have y8 : Same (fun x => x = g5.size) g7 g8 := by rw [e8]; exact setsH_same rfl
  clear e8 p1 p2 p3
  have x8 : Ext g5 g8 := x6.over y8 fun x hx => by omega
  have t8 := t5.ext x8
  have y08 : Same (Or2 B1 B2) h g8 := y05.trans (x8.same _) fun _ hb _ => hb
  have cb8 := (x8.old b (Array.getElem?_eq_some_iff.1 cb5).1).trans cb5
  have hs5 := y05.size
  have n8 : ¬ Or2 B1 B2 g5.size := Or2.ne t (by omega)
  obtain ⟨T, hT⟩ : ∃ T, T = tx ((bl s).set i ((bl s)[i] + 1)) := ⟨_, rfl⟩
  have seg : ∀ h' : Hp, h'[g5.size]? = some (.cells cur' 5 (c, c + 1)) → Seg h' (some ⟨g5.size, 0, none⟩) s.size (byteVs T.data.toList) := fun h' c' => by
    have := p4 h' c'
    rw [bl_length] at this
    have e : T.data.toList = (bl s).set i ((bl s)[i] + 1) := by rw [hT]; exact bl_tx _
    rw [e]; exact this
  obtain ⟨r, ec⟩ := t5.r.write (n : Int) T
  have hp5 : (τ.read (n : Int)).1.pend.length ≤ 2199023250000 := by rw [read_pend, t.r.pend]; exact hl
  refine ⟨fun h' => h'[b]? = some (.cells #[vP d, vP q] 34) ∧ h'[g5.size]? = some (.cells cur' 5 (c, c + 1)), ⟨cb8, c8⟩, _, cellsAt_one (cellH_at cb8), T, fun w hw => run_toText uBs uB uStr w (seg _ hw.2), (write_c t8.a (n : Int) T (by omega)).mono ?_⟩
  rintro e g9 ⟨y9, D9, rfl⟩
  have lb8 := (Array.getElem?_eq_some_iff.1 cb8).1
  have l8 := (Array.getElem?_eq_some_iff.1 c8).1
  have cb9 := (y9.left (B2 := B2) |>.old b lb8 nb).trans cb8
  have c9 := (y9.left (B2 := B2) |>.old g5.size l8 n8).trans c8
  refine ⟨_, rfl, ⟨cb9, c9⟩, _, fun h' c => cellsAt_one (cellH_at c.1), T, fun w hw => run_toText uBs uB uStr w (seg _ hw.2), (rWrite_c (t8.b.other y9 fun x h1 h2 => t.dis x h2 h1) (n : Int) T (by omega)).mono ?_⟩
  rintro e g10 ⟨y10, D10, rfl⟩
  have cb10 := (y10.right (B1 := B1) |>.old b (Nat.lt_of_lt_of_le lb8 y9.size) nb).trans cb9
  have c10 := (y10.right (B1 := B1) |>.old g5.size (Nat.lt_of_lt_of_le l8 y9.size) n8).trans c9
  have tt := TwoTo.both t8 y9 D9 y10 D10 r (t.halves hh y08).pos
  obtain ⟨ya, B1', B2', tb, ka, kb⟩ := tt
  have s8 := y08.size
  exact ⟨_, rfl, ⟨cb10, c10⟩, _, _, ⟨y08.trans ya fun _ hb _ => hb, B1', B2', tb, fun b hb => (ka b hb).imp id fun h => by omega, fun b hb => (kb b hb).imp id fun h => by omega⟩, fun N b => b.write _ _, by rw [ec]; simp⟩

set_option maxHeartbeats 1000000 in
/-- turnoutlaw20.pair.fit -/
theorem pfit_c (t : Two B1 B2 h d q σ τ) (o : COp) (ok : o.Ok h) (hm : σ.safe.length ≤ 14) :
    CallsH Tryz.prog 21 #[.agg #[vP d, vP q], .agg (copV o).toArray] h fun e h' => Ext h h' ∧ ∃ (G : Hd) (s : ByteArray), G.Ok ∧ e = .returned (.tuple #[.agg (hdV G).toArray, .string s]) := by
  refine V21 _ _ _ _ _ _ _ _ _ _ _ _ _ _ h _ ?_
  intro b g1 hb e1
  have x1 : Ext h g1 := by rw [e1]; exact Ext.push _ _
  have c1 : g1[b]? = some (.cells #[vP d, vP q] 34) := by rw [e1, hb]; exact push_last
  clear e1
  intro b1 g2 hb1 e2
  have x2 : Ext g1 g2 := by rw [e2]; exact Ext.push _ _
  have k2 : g2[b1]? = some (.cells (copV o).toArray 42) := by rw [e2, hb1]; exact push_last
  clear e2
  have c2 := (x2.old b (Array.getElem?_eq_some_iff.1 c1).1).trans c1
  have l12 := (Array.getElem?_eq_some_iff.1 k2).1
  intro b2 g3 hb2 e3
  have x3 : Ext g2 g3 := by rw [e3]; exact Ext.push _ _
  have m3 : g3[b2]? = some (.cells (hdV Hd.no).toArray 39) := by rw [e3, hb2, zerosHead]; exact push_last
  clear e3
  have c3 := (x3.old b (Array.getElem?_eq_some_iff.1 c2).1).trans c2
  have k3 := (x3.old b1 (Array.getElem?_eq_some_iff.1 k2).1).trans k2
  have x03 := (x1.trans x2).trans x3
  have t3 := t.ext x03
  have okd := t.a.ok
  have hpos := okd.pos
  have hsafe : τ.safe = σ.safe := t.r.safe
  have s1 := x1.size
  have s2 := x2.size
  refine ⟨infoHead, _, cellsAt_one (cellH_at c3), (rSize_c t3.b).mono ?_⟩
  rintro e g4 ⟨rfl, rfl⟩
  rw [hsafe]
  obtain ⟨L, hL⟩ : ∃ L, L = σ.safe.length := ⟨_, rfl⟩
  rw [← hL] at hpos hm ⊢
  -- the head is set, and given back
  have fin : ∀ (hq hr : Hp) (G : Hd), Ext g4 hq → G.Ok → hr = setsH hq b2 0 (hdV G) → hr[b2]? = some (.cells (hdV G).toArray 39) ∧ Ext h hr ∧ ∀ bb, bb ≠ b2 → hr[bb]? = hq[bb]? := by
    intro hq hr G x okG er
    have mq := (x.old b2 (Array.getElem?_eq_some_iff.1 m3).1).trans m3
    obtain ⟨_, _, _, q4⟩ := hd_set mq G
    refine ⟨by rw [er]; exact q4, ?_, fun bb hbb => by rw [er]; exact setsH_ne hbb⟩
    have y : Same (fun x => x = b2) hq hr := by rw [er]; exact setsH_same rfl
    exact (x03.trans x).over y fun x hx => by omega
  have wr : ∀ (hq : Hp) (G : Hd), Ext g4 hq → List.length (hdV G) = 5 ∧ (∀ c ∈ hdV G, c.oneCell' = true) ∧ wrAt hq b2 0 5 := fun hq G x => by
    have mq := (x.old b2 (Array.getElem?_eq_some_iff.1 m3).1).trans m3
    obtain ⟨q1, q2, q3, _⟩ := hd_set mq G
    exact ⟨q1, q2, q3⟩
  have C3 : ∀ h' : Hp, h'[b1]? = some (.cells (copV o).toArray 42) → cellsAt h' b1 (0 + 8) [.string o.s] := fun h' c => cellsAt_one (cellH_at c)
  have hdiv : IntKind.i64.wrap (((L : Nat) : Int) - 3) = (L : Int) - 3 := wrapI64 (by omega) (by omega)
  obtain ⟨v0, v1, v2⟩ := half_b2 L
  refine ⟨_, rfl, _, hdiv, by decide, ((L : Int) - 3).tdiv 2, wrapI64 (by omega) (by omega), fun _ => ?_, fun hc => ?_⟩
  · obtain ⟨w1, w2, w3⟩ := wr g4 o.H (Ext.refl _)
    refine ⟨fun h' => h'[b1]? = some (.cells (copV o).toArray 42), k3, _, _, _, _, _, cells3 k3, o.s, C3, w1, w2, w3, ?_⟩
    intro g5 e5
    obtain ⟨f1, f2, f3⟩ := fin g4 g5 o.H (Ext.refl _) ok.hd e5
    exact ⟨(f3 b1 (by omega)).trans k3, _, _, _, _, _, cellsAt_all (vs := hdV o.H) f1, f2, o.H, o.s, ok.hd, rfl⟩
  have hc : ¬ ((L : Int) - 3).tdiv 2 < 1 := of_decide_eq_false hc
  obtain ⟨M, hM⟩ : ∃ M : Nat, ((L : Int) - 3).tdiv 2 = (M : Int) := ⟨(((L : Int) - 3).tdiv 2).toNat, by omega⟩
  rw [hM]
  refine ⟨_, cellsAt_one (cellH_at k3), (pick_c o.n M (by omega) ok.n0 ok.n1 g4).mono ?_⟩
  rintro e g5 ⟨rfl, rfl⟩
  have hs5 := pickN_lt o.n (show 0 < M by omega)
  obtain ⟨S, hS⟩ : ∃ S : Nat, S = 1 + pickN o.n M := ⟨_, rfl⟩
  have hSw : IntKind.i64.wrap ((1 : Int) + ((pickN o.n M : Nat) : Int)) = (S : Int) := by rw [wrapI64 (by omega) (by omega)]; omega
  have K : ∀ {ha hb : Hp} {bb : Nat} {ob : Obj}, Ext ha hb → ha[bb]? = some ob → hb[bb]? = some ob := fun x c => (x.old _ (Array.getElem?_eq_some_iff.1 c).1).trans c
  have hp2 := pickN_lt o.H.slot (show 0 < 2 by decide)
  obtain ⟨G, hG⟩ : ∃ G : Hd, G = ⟨(pickN o.H.slot 2 : Nat), 1 + o.H.gen % 9, 1 + o.H.ep % 9, (S : Int), (L : Int) - 2 - 2 * (S : Int)⟩ := ⟨_, rfl⟩
  have okG : G.Ok := by
    rw [hG]
    exact ⟨by show -9223372036854775808 ≤ ((pickN o.H.slot 2 : Nat) : Int); omega, by show ((pickN o.H.slot 2 : Nat) : Int) ≤ _; omega, by show 1 + o.H.gen % 9 < _; omega, by show 1 + o.H.ep % 9 < _; omega, by show -9223372036854775808 ≤ (S : Int); omega, by show (S : Int) ≤ _; omega, by show _ ≤ (L : Int) - 2 - 2 * (S : Int); omega, by show (L : Int) - 2 - 2 * (S : Int) ≤ _; omega⟩
  have hgen : IntKind.u64.wrap ((1 : Int) + ((o.H.gen % 9 : Nat) : Int)) = ((1 + o.H.gen % 9 : Nat) : Int) := by rw [wrapU64]; omega
  have hep : IntKind.u64.wrap ((1 : Int) + ((o.H.ep % 9 : Nat) : Int)) = ((1 + o.H.ep % 9 : Nat) : Int) := by rw [wrapU64]; omega
  have w43 : IntKind.i64.wrap ((L : Int) - 2) = (L : Int) - 2 := wrapI64 (by omega) (by omega)
  have w45 : IntKind.i64.wrap ((2 : Int) * (S : Int)) = 2 * (S : Int) := wrapI64 (by omega) (by omega)
  have w46 : IntKind.i64.wrap ((L : Int) - 2 - 2 * (S : Int)) = (L : Int) - 2 - 2 * (S : Int) := wrapI64 (by omega) (by omega)
  have w54 : IntKind.i64.wrap ((491 : Int) * (S : Int)) = ((491 * S : Nat) : Int) := by rw [wrapI64 (by omega) (by omega)]; omega
  have w55 : IntKind.i64.wrap (((491 * S : Nat) : Int) + 1) = ((491 * S + 1 : Nat) : Int) := by rw [wrapI64 (by omega) (by omega)]; omega
  obtain ⟨W, hW⟩ : ∃ W : Nat, W = 1 + o.s.size % (491 * S + 1) := ⟨_, rfl⟩
  have hWl := Nat.mod_lt o.s.size (show 0 < 491 * S + 1 by omega)
  have w57 : IntKind.i64.wrap ((1 : Int) + ((o.s.size % (491 * S + 1) : Nat) : Int)) = (W : Int) := by rw [wrapI64 (by omega) (by omega)]; omega
  -- the end, where the head lies in a block of its own
  have tail : ∀ (hq : Hp) (bh : Nat), Ext g5 hq → hq[bh]? = some (.cells (hdV G).toArray 39) → CallsH Tryz.prog 5 #[vI o.s.size, vI (491 * S + 1)] hq fun e h1 => h1 = hq ∧ e = .returned (vI (o.s.size % (491 * S + 1))) := fun hq bh x c => pickL_c _ _ (by omega) hq
  have C0 : ∀ h' : Hp, h'[b1]? = some (.cells (copV o).toArray 42) → cellsAt h' b1 ((0 + 3) + 0) [vZ o.H.slot] ∧ cellsAt h' b1 ((0 + 3) + 1) [vU o.H.gen] ∧ cellsAt h' b1 ((0 + 3) + 2) [vU o.H.ep] ∧ cellsAt h' b1 (0 + 2) [vZ o.n] := fun h' c => ⟨cellsAt_one (cellH_at c), cellsAt_one (cellH_at c), cellsAt_one (cellH_at c), cellsAt_one (cellH_at c)⟩
  have lb := (Array.getElem?_eq_some_iff.1 c3).1
  have lb1 := (Array.getElem?_eq_some_iff.1 k3).1
  have lb2 := (Array.getElem?_eq_some_iff.1 m3).1
  -- behind the head's making
  have last : ∀ {R : Ending → Hp → Prop} (hq : Hp) (bh : Nat), g5.size ≤ bh → Ext g5 hq → hq[bh]? = some (.cells (hdV G).toArray 39) → (∀ hr, Ext h hr → R (.returned (.tuple #[.agg (hdV G).toArray, .string (longG W o.n)])) hr) →
      ∃ Cv_2 : Hp → Prop, Cv_2 hq ∧
      ∃ x49f0_ : Int, ∃ x49f1_ : Int, ∃ x49f2_ : Int, ∃ x49f3_ : Int, ∃ x49f4_ : Int, (∀ h', Cv_2 h' → cellsAt h' bh 0 [(Value.int .i64 x49f0_), (Value.int .u64 x49f1_), (Value.int .u64 x49f2_), (Value.int .i64 x49f3_), (Value.int .i64 x49f4_)]) ∧
      ∃ x51_ : ByteArray, cellsAt hq b1 (0 + 8) [(Value.string x51_)] ∧
      ∃ x54_, IntKind.i64.wrap ((491 : Int) * (S : Int)) = x54_ ∧
      ∃ x55_, IntKind.i64.wrap (x54_ + (1 : Int)) = x55_ ∧
      CallsH Tryz.prog 5 #[(Value.int .i64 (ByteArray.size x51_ : Int)), (Value.int .i64 x55_)] hq fun en_4 hp_10 =>
      ∃ x56_ : Int, en_4 = .returned (Value.int .i64 x56_) ∧
      Cv_2 hp_10 ∧
      ∃ x57_, IntKind.i64.wrap ((1 : Int) + x56_) = x57_ ∧
      ∃ x59_ : Int, (∀ h', Cv_2 h' → cellsAt h' b1 (0 + 2) [(Value.int .i64 x59_)]) ∧
      CallsH Tryz.prog 15 #[(Value.int .i64 x57_), (Value.int .i64 x59_)] hp_10 fun en_5 hp_11 =>
      ∃ x60_ : ByteArray, en_5 = .returned (Value.string x60_) ∧
      Cv_2 hp_11 ∧
      List.length [(Value.int .i64 x49f0_), (Value.int .u64 x49f1_), (Value.int .u64 x49f2_), (Value.int .i64 x49f3_), (Value.int .i64 x49f4_)] = 5 ∧ (∀ c ∈ [(Value.int .i64 x49f0_), (Value.int .u64 x49f1_), (Value.int .u64 x49f2_), (Value.int .i64 x49f3_), (Value.int .i64 x49f4_)], c.oneCell' = true) ∧ wrAt hp_11 b2 0 5 ∧ ∀ hp_12, hp_12 = setsH hp_11 b2 0 [(Value.int .i64 x49f0_), (Value.int .u64 x49f1_), (Value.int .u64 x49f2_), (Value.int .i64 x49f3_), (Value.int .i64 x49f4_)] →
      Cv_2 hp_12 ∧
      ∃ resf0_1 : Int, ∃ resf1_1 : Int, ∃ resf2_1 : Int, ∃ resf3_1 : Int, ∃ resf4_1 : Int, cellsAt hp_12 b2 0 [(Value.int .i64 resf0_1), (Value.int .u64 resf1_1), (Value.int .u64 resf2_1), (Value.int .i64 resf3_1), (Value.int .i64 resf4_1)] ∧
      R (.returned (Value.tuple #[(Value.agg #[(Value.int .i64 resf0_1), (Value.int .u64 resf1_1), (Value.int .u64 resf2_1), (Value.int .i64 resf3_1), (Value.int .i64 resf4_1)]), (Value.string x60_)])) hp_12 := by
    intro R hq bh hbh x ch hR
    have kq := K x k3
    refine ⟨fun h' => h'[bh]? = some (.cells (hdV G).toArray 39) ∧ h'[b1]? = some (.cells (copV o).toArray 42), ⟨ch, kq⟩, G.slot, G.gen, G.ep, G.ls, G.ll, fun h' c => cellsAt_all (vs := hdV G) c.1, o.s, C3 _ kq, _, w54, _, w55, (tail hq bh x ch).mono ?_⟩
    rintro e g8 ⟨rfl, rfl⟩
    refine ⟨_, rfl, ⟨ch, kq⟩, _, w57, o.n, fun h' c => (C0 h' c.2).2.2.2, (longG_c W o.n (by omega) g8).mono ?_⟩
    rintro e g9 ⟨x9, rfl⟩
    have x59 := x.trans x9
    obtain ⟨w1, w2, w3⟩ := wr g9 G x59
    refine ⟨_, rfl, ⟨K x9 ch, K x9 kq⟩, w1, w2, w3, ?_⟩
    intro g10 e10
    obtain ⟨f1, f2, f3⟩ := fin g9 g10 G x59 okG e10
    exact ⟨⟨(f3 bh (by omega)).trans (K x9 ch), (f3 b1 (by omega)).trans (K x9 kq)⟩, G.slot, G.gen, G.ep, G.ls, G.ll, cellsAt_all (vs := hdV G) f1, hR g10 f2⟩
  let Cl : Hp → Prop := fun h' => h'[b]? = some (.cells #[vP d, vP q] 34) ∧ h'[b1]? = some (.cells (copV o).toArray 42)
  refine ⟨_, rfl, _, hSw, ⟨Cl, ⟨c3, k3⟩, o.H.slot, fun h' c => (C0 h' c.2).1, (pick_c o.H.slot 2 (by decide) ok.hd.s0 ok.hd.s1 g5).mono ?_⟩, ⟨Cl, ⟨c3, k3⟩, o.H.slot, fun h' c => (C0 h' c.2).1, ?_⟩, ⟨Cl, ⟨c3, k3⟩, o.H.slot, fun h' c => (C0 h' c.2).1, (pick_c o.H.slot 2 (by decide) ok.hd.s0 ok.hd.s1 g5).mono ?_⟩⟩
  · rintro e g6 ⟨rfl, rfl⟩
    refine ⟨_, rfl, ⟨c3, k3⟩, o.H.gen, fun h' c => (C0 h' c.2).2.1, by decide, _, tmod_nat o.H.gen 9, _, hgen, o.H.ep, fun h' c => (C0 h' c.2).2.2.1, by decide, _, tmod_nat o.H.ep 9, _, hep, _, fun h' c => cellsAt_one (cellH_at c.1), (rSize_c t3.b).mono ?_⟩
    rintro e g7 ⟨rfl, rfl⟩
    rw [hsafe, ← hL]
    refine ⟨_, rfl, ⟨c3, k3⟩, _, w43, _, w45, _, w46, ?_⟩
    intro b3 g8 hb3 e8
    have x8 : Ext g7 g8 := by rw [e8]; exact Ext.push _ _
    have c8 : g8[b3]? = some (.cells (hdV Hd.no).toArray 39) := by rw [e8, hb3, zerosHead]; exact push_last
    clear e8
    obtain ⟨q1, q2, q3, q4⟩ := hd_set c8 G
    have eG : hdV G = [vI (pickN o.H.slot 2), vU (1 + o.H.gen % 9), vU (1 + o.H.ep % 9), vI S, vZ ((L : Int) - 2 - 2 * (S : Int))] := by rw [hG]; rfl
    rw [eG] at q1 q2 q4
    refine ⟨infoHead, ⟨K x8 c3, K x8 k3⟩, q1, q2, q3, ?_⟩
    intro g9 e9
    have y9 : Same (fun x => x = b3) g8 g9 := by rw [e9]; exact setsH_same rfl
    have c9 : g9[b3]? = some (.cells (hdV G).toArray 39) := by rw [e9, eG]; exact q4
    have x9 : Ext g7 g9 := x8.over y9 fun x hx => by omega
    exact ⟨⟨K x9 c3, K x9 k3⟩, last (R := fun e hr => Ext h hr ∧ ∃ (G : Hd) (s : ByteArray), G.Ok ∧ e = .returned (.tuple #[.agg (hdV G).toArray, .string s])) g9 b3 (by omega) x9 c9 fun hr x => ⟨x, G, _, okG, rfl⟩⟩
  · intro b3 g6 hb3 e6
    have x6 : Ext g5 g6 := by rw [e6]; exact Ext.push _ _
    have c6 : g6[b3]? = some (.cells (hdV Hd.no).toArray 39) := by rw [e6, hb3, zerosHead]; exact push_last
    clear e6
    refine ⟨infoHead, ⟨K x6 c3, K x6 k3⟩, (pick_c o.H.slot 2 (by decide) ok.hd.s0 ok.hd.s1 g6).mono ?_⟩
    rintro e g7 ⟨rfl, rfl⟩
    refine ⟨_, rfl, ⟨K x6 c3, K x6 k3⟩, o.H.gen, fun h' c => (C0 h' c.2).2.1, by decide, _, tmod_nat o.H.gen 9, _, hgen, o.H.ep, fun h' c => (C0 h' c.2).2.2.1, by decide, _, tmod_nat o.H.ep 9, _, hep, _, fun h' c => cellsAt_one (cellH_at c.1), (rSize_c (t3.ext x6).b).mono ?_⟩
    rintro e g8 ⟨rfl, rfl⟩
    rw [hsafe, ← hL]
    obtain ⟨q1, q2, q3, q4⟩ := hd_set c6 G
    have eG : hdV G = [vI (pickN o.H.slot 2), vU (1 + o.H.gen % 9), vU (1 + o.H.ep % 9), vI S, vZ ((L : Int) - 2 - 2 * (S : Int))] := by rw [hG]; rfl
    rw [eG] at q1 q2 q4
    refine ⟨_, rfl, ⟨K x6 c3, K x6 k3⟩, _, w43, _, w45, _, w46, q1, q2, q3, ?_⟩
    intro g9 e9
    have y9 : Same (fun x => x = b3) g8 g9 := by rw [e9]; exact setsH_same rfl
    have c9 : g9[b3]? = some (.cells (hdV G).toArray 39) := by rw [e9, eG]; exact q4
    have x9 : Ext g5 g9 := x6.over y9 fun x hx => by omega
    exact ⟨⟨K x9 c3, K x9 k3⟩, last (R := fun e hr => Ext h hr ∧ ∃ (G : Hd) (s : ByteArray), G.Ok ∧ e = .returned (.tuple #[.agg (hdV G).toArray, .string s])) g9 b3 (by omega) x9 c9 fun hr x => ⟨x, G, _, okG, rfl⟩⟩
  · rintro e g6 ⟨rfl, rfl⟩
    refine ⟨_, rfl, ⟨c3, k3⟩, o.H.gen, fun h' c => (C0 h' c.2).2.1, by decide, _, tmod_nat o.H.gen 9, _, hgen, o.H.ep, fun h' c => (C0 h' c.2).2.2.1, by decide, _, tmod_nat o.H.ep 9, _, hep, _, fun h' c => cellsAt_one (cellH_at c.1), ?_⟩
    intro b3 g7 hb3 e7
    have x7 : Ext g6 g7 := by rw [e7]; exact Ext.push _ _
    have c7 : g7[b3]? = some (.cells (hdV Hd.no).toArray 39) := by rw [e7, hb3, zerosHead]; exact push_last
    clear e7
    refine ⟨infoHead, ⟨K x7 c3, K x7 k3⟩, (rSize_c (t3.ext x7).b).mono ?_⟩
    rintro e g8 ⟨rfl, rfl⟩
    rw [hsafe, ← hL]
    obtain ⟨q1, q2, q3, q4⟩ := hd_set c7 G
    have eG : hdV G = [vI (pickN o.H.slot 2), vU (1 + o.H.gen % 9), vU (1 + o.H.ep % 9), vI S, vZ ((L : Int) - 2 - 2 * (S : Int))] := by rw [hG]; rfl
    rw [eG] at q1 q2 q4
    refine ⟨_, rfl, ⟨K x7 c3, K x7 k3⟩, _, w43, _, w45, _, w46, q1, q2, q3, ?_⟩
    intro g9 e9
    have y9 : Same (fun x => x = b3) g8 g9 := by rw [e9]; exact setsH_same rfl
    have c9 : g9[b3]? = some (.cells (hdV G).toArray 39) := by rw [e9, eG]; exact q4
    have x9 : Ext g6 g9 := x7.over y9 fun x hx => by omega
    exact ⟨⟨K x9 c3, K x9 k3⟩, last (R := fun e hr => Ext h hr ∧ ∃ (G : Hd) (s : ByteArray), G.Ok ∧ e = .returned (.tuple #[.agg (hdV G).toArray, .string s])) g9 b3 (by omega) x9 c9 fun hr x => ⟨x, G, _, okG, rfl⟩⟩

end
end Go.Vc

