/- The document's disk: what is read of it. -/
import Derived.Test.YtlidgpojlgochaaDoorS9CDkE
import Derived.Test.YtlidgpojlgochaaDoorRfM
set_option maxRecDepth 10000
namespace Go.Vc
open Go Go.Proofs Go.MapKept

abbrev rI : RIds := ⟨9, 125, 99⟩
theorem rG : rI.Good := ⟨by decide, by decide, by decide⟩

theorem uPRd : Tryd.prog.underlying 62 = some (.pointer 99) := by kernel_rfl

section
variable {h : Hp} {B : Nat → Prop} {d : Nat} {σ : DS}

theorem rSize_c (D : RefAt rI h B d σ) : CallsH Tryd.prog 84 #[vP d] h fun e h' => h' = h ∧ e = .returned (vI σ.safe.length) := by
  obtain ⟨w, D⟩ := D
  exact V84 _ h _ ⟨d, 0, rfl, _, _, _, cellsAt_one (cellH_at D.cell), rfl, rfl⟩

theorem rOff_c (D : RefAt rI h B d σ) : CallsH Tryd.prog 50 #[vP d] h fun e h' => h' = h ∧ e = .returned (.bool σ.gone) := by
  obtain ⟨w, D⟩ := D
  exact V50 _ h _ ⟨d, 0, rfl, _, cellsAt_one (cellH_at D.cell), rfl, rfl⟩

theorem rStats_c (D : RefAt rI h B d σ) : CallsH Tryd.prog 47 #[vP d] h fun e h' => Ext h h' ∧ e = .returned (.agg #[vZ σ.reads, vZ σ.writes, vZ σ.flushes]) := by
  obtain ⟨w, D⟩ := D
  refine V47 _ h _ ?_
  rintro b h1 rfl rfl
  rw [zerosStats]
  have hx : Ext h (h.push (.cells #[vI 0, vI 0, vI 0] 58)) := Ext.push _ _
  have hc : (h.push (.cells #[vI 0, vI 0, vI 0] 58))[h.size]? = some (.cells #[vI 0, vI 0, vI 0] 58) := push_last
  have D1 := D.keep hx.size fun b hb => hx.old b (D.lt b hb)
  refine ⟨infoStats, d, 0, rfl, σ.reads, σ.writes, σ.flushes, cellsAt_of D1.cell ?_, rfl, by simp [Value.oneCell'], wrAt_of hc (by decide) (.inl (Nat.zero_le _)), ?_⟩
  · intro j hj
    have hj : j < 3 := hj
    match j, hj with
    | 0, _ => rfl
    | 1, _ => rfl
    | 2, _ => rfl
  · rintro h2 rfl
    have hc2 := setsH_at (vs := [vZ σ.reads, vZ σ.writes, vZ σ.flushes]) (o := 0) hc
    refine ⟨_, _, _, cellsAt_all (vs := [vZ σ.reads, vZ σ.writes, vZ σ.flushes]) hc2, ?_, rfl⟩
    exact hx.over (setsH_same (B := fun b => b = h.size) rfl) fun x hx => by rw [hx]; exact Nat.le_refl _

theorem lastOf_take {l : List (Nat × ByteArray)} {i : Nat} (hi : i < l.length) (n : Nat) : lastOf (l.take (i + 1)) n = if l[i].1 = n then some l[i].2 else lastOf (l.take i) n := by
  have : l.take (i + 1) = l.take i ++ [l[i]] := by rw [List.take_add_one, List.getElem?_eq_getElem hi]; rfl
  rw [this, lastOf_snoc]

/-- turnoutref04.Look -/
theorem rLook_c (D : RefAt rI h B d σ) (n : Nat) (hn : n < σ.safe.length) : CallsH Tryd.prog 88 #[vP d, vI n] h fun e h' => h' = h ∧ e = .returned (.string (σ.look n)) := by
  obtain ⟨w, D⟩ := D
  have hmax := D.wait.max
  refine V88 _ _ h _ ⟨d, 0, rfl, _, _, _, cellsAt_one (cellH_at D.cell), (σ.pend.length : Int) - 1, by rw [wrapI64] <;> omega, fun l hq => hq = h ∧ ∃ i : Nat, i ≤ σ.pend.length ∧ l = [vZ ((i : Int) - 1)] ∧ (lastOf (σ.pend.take i) n).getD (σ.safe.getD n ByteArray.empty) = σ.look n, fun l _ => (numAt l 0 + 1).toNat,
    ⟨rfl, σ.pend.length, Nat.le_refl _, rfl, by rw [List.take_length]; rfl⟩, ?_⟩
  rintro x hq ⟨rfl, i, hi, hl, hlk⟩
  cases hl
  refine ⟨fun hc => ?_, fun hc => ?_⟩
  · obtain ⟨j, rfl⟩ : ∃ j, i = j + 1 := ⟨i - 1, by simp at hc; omega⟩
    have hj : j < σ.pend.length := by omega
    rw [lastOf_take hj] at hlk
    obtain ⟨b, o, hp, h0, hin, hget⟩ := D.seg.get (i := j) (by simpa using hj)
    rw [List.getElem_map] at hget
    have e : (((j + 1 : Nat) : Int) - 1) = (j : Int) := by omega
    rw [e]
    refine ⟨d, 0, rfl, _, _, _, cellsAt_one (cellH_at D.cell), b, o, hp, h0, hin, _, hget 0 _ rfl, fun heq => ?_, fun hne => ?_⟩
    · have heq : σ.pend[j].1 = n := by simp at heq; omega
      rw [if_pos heq] at hlk
      refine ⟨d, 0, rfl, _, _, _, cellsAt_one (cellH_at D.cell), b, o, hp, h0, hin, _, hget 1 _ rfl, rfl, ?_⟩
      rw [← hlk]; rfl
    · have hne : ¬ σ.pend[j].1 = n := by simp at hne; omega
      rw [if_neg hne] at hlk
      exact ⟨_, by rw [wrapI64] <;> omega, ⟨rfl, j, by omega, rfl, hlk⟩, by simp only [numAt]; omega⟩
  · have hi0 : i = 0 := by simp at hc; omega
    subst hi0
    refine ⟨d, 0, rfl, _, _, _, cellsAt_one (cellH_at D.cell), D.safe.seg.text hn ⟨rfl, ?_⟩⟩
    rw [← hlk]
    simp [lastOf, List.getD, hn]

/-- turnoutref04.Read -/
theorem rRead_c (D : RefAt rI h B d σ) (n : Int) : CallsH Tryd.prog 76 #[vP d, vZ n] h fun e h' => Same B h h' ∧ h'.size = h.size ∧ RefAt rI h' B d (σ.read n).1 ∧ e = .returned (.tuple #[.string (σ.read n).2.1, vZ (σ.read n).2.2]) := by
  obtain ⟨w, D⟩ := D
  refine V76 _ _ h _ ⟨d, 0, rfl, _, cellsAt_one (cellH_at D.cell), fun hg => ?_, fun hg => ?_⟩
  · have ha : σ.asked n = 40 := by unfold DS.asked; rw [if_pos hg]
    have hr : σ.read n = (σ, ByteArray.empty, 40) := by unfold DS.read; rw [if_neg (by rw [ha]; decide), ha]
    rw [hr]
    exact ⟨Same.refl _ _, rfl, ⟨w, D⟩, rfl⟩
  refine ⟨fun l hq => l = [] ∧ hq = h ∧ 0 ≤ n ∧ n < σ.safe.length, ⟨decide (n < 0 ∨ (σ.safe.length : Int) ≤ n), ⟨fun hn => ⟨rfl, ?_⟩, fun hn => ⟨d, 0, rfl, _, _, _, cellsAt_one (cellH_at D.cell), rfl, ?_⟩⟩, fun hB => ?_, fun hB => ⟨rfl, rfl, ?_, ?_⟩⟩, ?_⟩
  · have hn : n < 0 := by simpa using hn
    simp [hn]
  · have hn : ¬ n < 0 := by simpa using hn
    simp [hn]
  · have hB := of_decide_eq_true hB
    have ha : σ.asked n = 41 := by unfold DS.asked; rw [if_neg (by simp [hg]), if_pos hB]
    have hr : σ.read n = (σ, ByteArray.empty, 41) := by unfold DS.read; rw [if_neg (by rw [ha]; decide), ha]
    rw [hr]
    exact ⟨Same.refl _ _, rfl, ⟨w, D⟩, rfl⟩
  · have := of_decide_eq_false hB; omega
  · have := of_decide_eq_false hB; omega
  rintro h1 ⟨_, rfl, hn0, hn1⟩
  obtain ⟨m, rfl⟩ := Int.eq_ofNat_of_zero_le hn0
  have hm : m < σ.safe.length := by omega
  have ha : σ.asked (m : Int) = 0 := by unfold DS.asked; rw [if_neg (by simp [hg]), if_neg (by omega)]
  have hr : σ.read (m : Int) = ({ σ with reads := inc64 σ.reads }, σ.look m, 0) := by unfold DS.read; rw [if_pos ha, Int.toNat_natCast]
  rw [hr]
  refine ⟨d, 0, rfl, _, cellsAt_one (cellH_at D.cell), _, rfl, d, 0, rfl, rfl, D.wr (by decide), ?_⟩
  rintro h2 rfl
  have D2 := D.set rG (σ' := { σ with reads := inc64 σ.reads }) (k := 0 + 4 + 0) (v := vZ (inc64 σ.reads)) rfl rfl rfl ⟨D.ok.pos, D.ok.most, D.ok.size, D.ok.pend, D.ok.plan⟩ D.off
  refine (rLook_c ⟨w, D2⟩ m hm).mono ?_
  rintro e h3 ⟨rfl, rfl⟩
  exact ⟨_, rfl, setsH_same D.bd, setsH_size, ⟨w, D2⟩, rfl⟩

/-- turnoutref04.Pending -/
theorem rPending_c (D : RefAt rI h B d σ) (hlen : σ.pend.length ≤ 8796093022208) : CallsH Tryd.prog 46 #[vP d] h fun e h' => Ext h h' ∧ ∃ p c, e = .returned (.slice p σ.pend.length c) ∧ Own h' h.size 3 1 (.slice p σ.pend.length c) σ.pend.length ((σ.pend.map (·.1)).map vI) := by
  obtain ⟨w, D⟩ := D
  refine V46 _ h _ ⟨fun l hq => ∃ (i : Nat) (p : Option Addr) (c : Nat), i ≤ σ.pend.length ∧ l = [.slice p i c, vI i] ∧ Own hq h.size 3 1 (.slice p i c) i (((σ.pend.take i).map (·.1)).map vI) ∧ Ext h hq, fun l _ => (σ.pend.length - numAt l 1).toNat,
    ⟨0, none, 0, Nat.zero_le _, rfl, Own.nil _ _ _ _, Ext.refl _⟩, ?_⟩
  rintro p n c x hq ⟨i, _, _, hi, hl, ho, hx⟩
  cases hl
  have D1 := D.keep hx.size fun b hb => hx.old b (D.lt b hb)
  refine ⟨d, 0, rfl, _, _, _, cellsAt_one (cellH_at D1.cell), fun hc => ?_, fun hc => ?_⟩
  · have hc : n < σ.pend.length := by simp at hc; omega
    obtain ⟨b, o, hp, h0, hin, hget⟩ := D1.seg.get (i := n) (by simpa using hc)
    rw [List.getElem_map] at hget
    refine ⟨d, 0, rfl, _, _, _, cellsAt_one (cellH_at D1.cell), b, o, hp, h0, hin, _, hget 0 _ rfl, ?_⟩
    refine semH_push rowI ho (vs := [vI σ.pend[n].1]) (m := 1) rfl rfl (by simp) (by simp) (by simp [Value.oneCell']) (by omega) (by simp only [maxLen]; omega) hx.size fun p2 c2 h2 ho2 hg2 _ _ => ?_
    refine ⟨_, incI (by omega), ⟨n + 1, p2, c2, hc, rfl, ?_, hx.own ho (Nat.le_refl _) hg2⟩, by simp only [numAt]; omega⟩
    have : σ.pend.take (n + 1) = σ.pend.take n ++ [σ.pend[n]] := by rw [List.take_add_one, List.getElem?_eq_getElem hc]; rfl
    rw [this, List.map_append, List.map_append]
    exact ho2
  · have hc : n = σ.pend.length := by simp at hc; omega
    subst hc
    rw [List.take_length] at ho
    exact ⟨hx, p, c, rfl, ho⟩

/-- turnoutref04.Image -/
theorem rImage_c (D : RefAt rI h B d σ) : CallsH Tryd.prog 48 #[vP d] h fun e h' => Ext h h' ∧ e = .returned (.string σ.image) := by
  obtain ⟨w, D⟩ := D
  have hl1 := D.ok.pos
  have hl2 := D.ok.most
  refine V48 _ h _ ⟨fun l hq => ∃ (i : Nat) (p : Option Addr) (n c : Nat), i ≤ σ.safe.length ∧ l = [.slice p n c, vI i] ∧ Own hq h.size 5 1 (.slice p n c) n (byteVs (flatB (σ.safe.take i))) ∧ Ext h hq,
    fun l _ => (σ.safe.length - numAt l 1).toNat, ⟨0, none, 0, 0, Nat.zero_le _, rfl, Own.nil _ _ _ _, Ext.refl _⟩, ?_⟩
  rintro bp bn bc x hq ⟨i, p, n, c, hi, hl, ho, hx⟩
  cases hl
  have D2 := D.keep hx.size fun b hb => hx.old b (D.lt b hb)
  have hbn : bn = i * 512 := by
    have h1 := ho.len.2.1
    have h2 : (flatB (σ.safe.take i)).length = (σ.safe.take i).length * 512 := flatB_length fun s hs => D.ok.size s (List.mem_of_mem_take hs)
    simp only [byteVs, List.length_map] at h1
    rw [← h1, h2, List.length_take, Nat.min_eq_left hi]
  refine ⟨d, 0, rfl, _, _, _, cellsAt_one (cellH_at D2.cell), fun hc => ?_, fun hc => ?_⟩
  · have hc : i < σ.safe.length := by simp at hc; omega
    have h512 := D.ok.size _ (List.getElem_mem hc)
    refine ⟨d, 0, rfl, _, _, _, cellsAt_one (cellH_at D2.cell), D2.safe.seg.text hc (semH_appendStr rowB uStr zeroB ho (by simp only [maxLen]; omega) (by omega) hx.size fun p' c' h' ho' hg' _ _ => ?_)⟩
    refine ⟨_, incI (by omega), ⟨i + 1, _, _, _, hc, rfl, ?_, hx.own ho (Nat.le_refl _) hg'⟩, by simp only [numAt]; omega⟩
    rw [flatB_take hc, byteVs, List.map_append]
    exact ho'
  · have hc : i = σ.safe.length := by simp at hc; omega
    subst hc
    rw [List.take_length] at ho
    exact semH_toText uBs uB uStr (t := σ.image) ho.seg ⟨_, rfl, hx, rfl⟩

/-- A new one, of blocks of its own. -/
def RFresh (h h' : Hp) (d : Nat) (σ : DS) : Prop := Ext h h' ∧ RefAt rI h' (fun b => h.size ≤ b ∧ b < h'.size) d σ

/-- What holds while sectors are laid behind one another. -/
structure Grows (h hq : Hp) (L : List ByteArray) : Prop where
  x : Ext h hq
  sz : h.size < hq.size
  ex : ∃ (p : Option Addr) (c : Nat), hq[h.size]? = some (.cells [Value.slice p L.length c, .slice none 0 0, .bool false, vI 0, vZ 0, vZ 0, vZ 0].toArray 99) ∧ Own hq h.size 9 1 (.slice p L.length c) L.length (L.map Value.string)

theorem Grows.fresh {hq : Hp} {L : List ByteArray} (g : Grows h hq L) (h1 : 1 ≤ L.length) (h2 : L.length ≤ 4096) (h3 : ∀ s ∈ L, s.size = 512) : RFresh h hq h.size (DS.fresh L) := by
  obtain ⟨x, sz, p, c, hc, ho⟩ := g
  refine ⟨x, ⟨p, c, none, 0⟩, { cell := hc, safe := ho.rebase fun _ _ => Nat.zero_le _, wait := Own.nil _ _ _ _, bd := ⟨Nat.le_refl _, sz⟩, bs := fun b hb => ?_, bw := by simp [Value.ownBlock], lt := fun b hb => hb.2, ok := DS.Ok.fresh h1 h2 h3, off := fun h => (by cases h) }⟩
  exact ho.lt hb

/-- A sector more, behind what else was made. -/
theorem Grows.push {hq : Hp} {L : List ByteArray} (g : Grows h hq L) (hl : L.length ≤ 4096) (s : ByteArray) {C : Hp → Prop} {h2 : Hp} (x2 : Ext hq h2) (hC1 : ∀ h', Ext h2 h' → C h') (hC2 : ∀ h' B, Same B h2 h' → (∀ b, B b → h.size < b) → C h') {p : Option Addr} {c : Nat} (hp : hq[h.size]? = some (.cells [Value.slice p L.length c, .slice none 0 0, .bool false, vI 0, vZ 0, vZ 0, vZ 0].toArray 99))
    {K : Hp → Prop} (hK : ∀ h', Grows h h' (L ++ [s]) → K h') :
    SemH Tryd.prog (Instr.buildSlice 86 1 #[(0, .string s)]) h2 fun v_ h3 => ∃ (p1 : Option Addr) (n1 c1 : Nat), v_ = (Value.slice p1 n1 c1) ∧ C h3 ∧
      SemH Tryd.prog (Builtin.append_ #[86, 86] 86 #[.slice p L.length c, .slice p1 n1 c1]) h3 fun v_1 h4 => ∃ (p2 : Option Addr) (n2 c2 : Nat), v_1 = (Value.slice p2 n2 c2) ∧ C h4 ∧
        Value.oneCell' (Value.slice p2 n2 c2) = true ∧ wrAt h4 h.size (0 + 0) 1 ∧ ∀ h5, h5 = setsH h4 h.size (0 + 0) [Value.slice p2 n2 c2] → K h5 := by
  obtain ⟨x, sz, p', c', hc, ho⟩ := g
  rw [hp] at hc
  injection hc with hc
  injection hc with hc _
  have hc : p = p' ∧ c = c' := by simpa using hc
  obtain ⟨rfl, rfl⟩ := hc
  have ho2 := ho.ext x2
  have hp2 := (x2.old _ sz).trans hp
  have s2 := x2.size
  have hne : ∀ b, (Value.slice p L.length c).ownBlock = some b → h.size < b := fun b hb => by
    have h1 := (ho.lt hb).1
    obtain ⟨cur, hcur⟩ := ho.blk hb
    refine Nat.lt_of_le_of_ne h1 fun e => ?_
    rw [← e, hp] at hcur; injection hcur with hcur; injection hcur with _ hcur; exact rG.sr hcur.symm
  have s0 := x.size
  refine semH_pushC rowS ho2 (vs := [.string s]) (m := 1) rfl rfl (by simp) (by simp) (by simp [Value.oneCell']) (by omega) (by simp only [maxLen]; omega) (by omega) hC1 (fun h' g => hC2 h' _ (g.same (fun b => h.size < b) hne) fun b hb => hb) fun p3 c3 h3 ho3 hg3 _ hb3 => ?_
  have hs3 := hg3.size
  have hp3 := (hg3.block h.size (by omega) fun e => Nat.lt_irrefl _ (hne _ e.symm)).trans hp2
  refine ⟨rfl, wrAt_of hp3 (show 0 + 0 + 1 ≤ 7 by decide) (.inl (Nat.zero_le _)), ?_⟩
  rintro h5 hh5
  have hc5 := setsH_at (vs := [Value.slice p3 (L.length + 1) c3]) (o := 0 + 0) hp3
  rw [← hh5] at hc5
  have s5 : h5.size = h3.size := by rw [hh5]; exact setsH_size
  have o5 : ∀ b, b ≠ h.size → h5[b]? = h3[b]? := fun b hb => by rw [hh5]; exact setsH_ne hb
  refine hK h5 ⟨⟨by omega, fun b hb => ?_⟩, by omega, p3, c3, ?_, ?_⟩
  · rw [o5 b (by omega), hg3.block b (by omega) (fun e => by have := hne b e.symm; omega), x2.old b (by omega)]
    exact x.old b hb
  · rw [hc5, List.length_append]; rfl
  · rw [List.length_append, List.map_append]
    refine ho3.keep fun b hb => o5 b fun e => ?_
    rcases hb3 with he | ⟨q, he, hq⟩
    · rw [he] at hb; have := hne b hb; omega
    · rw [he] at hb; cases hb; omega

theorem Grows.start (h : Hp) : Grows h (h.push (.cells #[Value.slice none 0 0, .slice none 0 0, .bool false, vI 0, vI 0, vI 0, vI 0] 99)) [] :=
  ⟨Ext.push _ _, by simp, none, 0, push_last, Own.nil _ _ _ _⟩

instance (image : ByteArray) : Decidable (LoadOk image) := by unfold LoadOk; infer_instance

/-- turnoutref04.Load -/
theorem rLoad_c (image : ByteArray) (himg : image.size ≤ 9223372036854775807) : CallsH Tryd.prog 27 #[.string image] h fun e h' => (¬ LoadOk image ∧ h' = h ∧ e = .returned (.tuple #[.pointer none, vZ 1])) ∨
    (LoadOk image ∧ ∃ d, RFresh h h' d (DS.fresh (chunks image)) ∧ e = .returned (.tuple #[vP d, vZ 0])) := by
  have hmod : Int.tmod (image.size : Int) 512 = ((image.size % 512 : Nat) : Int) := (Int.ofNat_tmod image.size 512).symm
  refine V27 _ h _ ⟨fun l hq => l = [] ∧ hq = h ∧ LoadOk image, ⟨decide (¬ LoadOk image), ⟨by decide, _, hmod, fun h1 => ⟨rfl, ?_⟩, fun h1 => ⟨fun h2 => ⟨rfl, ?_⟩, fun h2 => ⟨rfl, ?_⟩⟩⟩, fun hB => .inl ⟨of_decide_eq_true hB, rfl, rfl⟩, fun hB => ⟨rfl, rfl, ?_⟩⟩, ?_⟩
  · have h1 : ¬ image.size % 512 = 0 := by have := of_decide_eq_true h1; omega
    rw [decide_eq_true_eq]
    exact fun hok => h1 hok.1
  · have h2 : image.size = 0 := by have := of_decide_eq_true h2; omega
    rw [decide_eq_true_eq]
    exact fun hok => by have := hok.2.1; omega
  · have h1 : image.size % 512 = 0 := by have := of_decide_eq_false h1; omega
    have h2 : ¬ image.size = 0 := by have := of_decide_eq_false h2; omega
    apply decide_eq_decide.2
    constructor
    · intro hno
      have : ¬ image.size / 512 ≤ 4096 := fun h => hno ⟨h1, by omega, h⟩
      omega
    · intro hno hok
      have := hok.2.2
      omega
  · have hB := of_decide_eq_false hB
    exact Classical.byContradiction hB
  rintro h1 ⟨_, rfl, hok⟩
  obtain ⟨m, hm⟩ : ∃ m, m = image.size / 512 := ⟨_, rfl⟩
  have hm1 : image.size = m * 512 := by have := hok.1; omega
  have hm2 : 1 ≤ m ∧ m ≤ 4096 := by have := hok.2; omega
  have hcl : (chunks image).length = m := by simp [chunks, hm]
  rintro b h2 rfl rfl
  refine ⟨fun l hq => ∃ i : Nat, i ≤ m ∧ l = [vI (i * 512)] ∧ Grows h1 hq ((chunks image).take i), fun l _ => (image.size - numAt l 0).toNat, ⟨0, Nat.zero_le _, rfl, Grows.start h1⟩, ?_⟩
  rintro x hq ⟨i, hi, hl, g⟩
  cases hl
  have hil : ((chunks image).take i).length = i := by simp [hcl]; omega
  refine ⟨fun hc => ?_, fun hc => ?_⟩
  · have hc : i < m := by simp at hc; omega
    obtain ⟨p, c, hp, _⟩ := g.ex
    have sz := g.sz
    refine ⟨fun h' => h'[h1.size]? = hq[h1.size]?, rfl, _, _, _, fun h' (hc : h'[h1.size]? = hq[h1.size]?) => cellsAt_one (cellH_at (hc.trans hp)), ((i * 512 + 512 : Nat) : Int), by rw [wrapI64] <;> omega, i * 512, rfl, i * 512 + 512, rfl, by omega, by omega, _, rfl, ?_⟩
    refine g.push (by omega) _ (Ext.refl hq) (fun h' x => ?_) (fun h' B x hB => ?_) hp fun h' g' => ?_
    · exact x.old _ sz
    · exact x.old _ sz fun hb => Nat.lt_irrefl _ (hB _ hb)
    · refine ⟨((i * 512 + 512 : Nat) : Int), by rw [wrapI64] <;> omega, ⟨i + 1, hc, by rw [Nat.succ_mul], ?_⟩, by simp only [numAt]; omega⟩
      have e1 : (chunks image).take (i + 1) = (chunks image).take i ++ [image.extract (i * 512) (i * 512 + 512)] := by
        rw [List.take_add_one, List.getElem?_eq_getElem (by omega)]
        have h2 : (chunks image)[i]'(by omega) = image.extract (i * 512) (i * 512 + 512) := by simp only [chunks, List.getElem_map, List.getElem_range, Nat.succ_mul]
        rw [h2]; rfl
      rw [e1]; exact g'
  · have hc : i = m := by simp at hc; omega
    subst hc
    rw [List.take_of_length_le (by omega)] at g
    exact .inr ⟨hok, h1.size, g.fresh (by omega) (by omega) (fun s hs => chunks_size hs), rfl⟩

end

end Go.Vc
