import Derived.Test.YthkbecpgbjejkaaDoorS9WDkE
import Derived.Test.YthkbecpgbjejkaaDoorRfM
set_option maxRecDepth 10000
/- Contracts of the document's disk. -/
namespace Go.Vc
open Go Go.Proofs Go.MapKept

abbrev rI : RIds := ⟨9, 141, 106⟩
theorem rG : rI.Good := ⟨by decide, by decide, by decide⟩
theorem uPRd : Tryd.prog.underlying 58 = some (.pointer 106) := by kernel_rfl
theorem rowW2 : RowT Tryd.prog 104 141 2 24 := RowT.of (by kernel_rfl)
theorem zerosW : zeros Tryd.prog 141 = #[vI 0, .string ⟨#[]⟩] := by kernel_rfl
theorem infoW : ∃ i z, Tryd.prog.info? 141 = some i ∧ i.zero = some z := by
  have : ((Tryd.prog.info? 141).bind (·.zero)).isSome = true := by kernel_rfl
  obtain ⟨z, hz⟩ := Option.isSome_iff_exists.1 this
  obtain ⟨i, hi, hz⟩ := Option.bind_eq_some_iff.1 hz
  exact ⟨i, z, hi, hz⟩

section
variable {h : Hp} {B : Nat → Prop} {d : Nat} {σ : DS}

theorem rSize_c (D : RefAt rI h B d σ) : CallsH Tryd.prog 89 #[vP d] h fun e h' => h' = h ∧ e = .returned (vI σ.safe.length) := by
  obtain ⟨w, D⟩ := D
  exact V89 _ h _ ⟨d, 0, rfl, _, _, _, cellsAt_one (cellH_at D.cell), rfl, rfl⟩

theorem rOff_c (D : RefAt rI h B d σ) : CallsH Tryd.prog 61 #[vP d] h fun e h' => h' = h ∧ e = .returned (.bool σ.gone) := by
  obtain ⟨w, D⟩ := D
  exact V61 _ h _ ⟨d, 0, rfl, _, cellsAt_one (cellH_at D.cell), rfl, rfl⟩

theorem rStats_c (D : RefAt rI h B d σ) : CallsH Tryd.prog 59 #[vP d] h fun e h' => Ext h h' ∧ e = .returned (.agg #[vZ σ.reads, vZ σ.writes, vZ σ.flushes]) := by
  obtain ⟨w, D⟩ := D
  refine V59 _ h _ ?_
  rintro b h1 rfl rfl
  rw [zerosStats]
  have hx : Ext h (h.push (.cells #[vI 0, vI 0, vI 0] 48)) := Ext.push _ _
  have hc : (h.push (.cells #[vI 0, vI 0, vI 0] 48))[h.size]? = some (.cells #[vI 0, vI 0, vI 0] 48) := push_last
  have D1 := D.keep hx.size fun b hb => hx.old b (D.lt b hb)
  refine ⟨infoStats, d, 0, rfl, σ.reads, σ.writes, σ.flushes, cellsAt_of D1.cell ?_, rfl, by simp [Value.oneCell'], wrAt_of hc (by decide) (.inl (Nat.zero_le _)), ?_⟩
  · intro j hj
    have hj : j < 3 := hj
    match j, hj with
    | 0, _ => rfl
    | 1, _ => rfl
    | 2, _ => rfl
  · rintro h2 rfl
    have hc2 := setsH_at (vs := [vZ σ.reads, vZ σ.writes, vZ σ.flushes]) (o := 0) hc
    refine ⟨_, _, _, cellsAt_all (vs := [vZ σ.reads, vZ σ.writes, vZ σ.flushes]) hc2, ?_, rfl⟩
    exact hx.over (setsH_same (B := fun b => b = h.size) rfl) fun x hx => by rw [hx]; exact Nat.le_refl _

theorem lastOf_take {l : List (Nat × ByteArray)} {i : Nat} (hi : i < l.length) (n : Nat) : lastOf (l.take (i + 1)) n = if l[i].1 = n then some l[i].2 else lastOf (l.take i) n := by
  have : l.take (i + 1) = l.take i ++ [l[i]] := by rw [List.take_add_one, List.getElem?_eq_getElem hi]; rfl
  rw [this, lastOf_snoc]

/-- turnoutref04.Look -/
theorem rLook_c (D : RefAt rI h B d σ) (n : Nat) (hn : n < σ.safe.length) : CallsH Tryd.prog 96 #[vP d, vI n] h fun e h' => h' = h ∧ e = .returned (.string (σ.look n)) := by
  obtain ⟨w, D⟩ := D
  have hmax := D.wait.max
  refine V96 _ _ h _ ⟨d, 0, rfl, _, _, _, cellsAt_one (cellH_at D.cell), (σ.pend.length : Int) - 1, by rw [wrapI64] <;> omega, fun l hq => hq = h ∧ ∃ i : Nat, i ≤ σ.pend.length ∧ l = [vZ ((i : Int) - 1)] ∧ (lastOf (σ.pend.take i) n).getD (σ.safe.getD n ByteArray.empty) = σ.look n, fun l _ => (numAt l 0 + 1).toNat,
    ⟨rfl, σ.pend.length, Nat.le_refl _, rfl, by rw [List.take_length]; rfl⟩, ?_⟩
  rintro x hq ⟨rfl, i, hi, hl, hlk⟩
  cases hl
  refine ⟨fun hc => ?_, fun hc => ?_⟩
  · obtain ⟨j, rfl⟩ : ∃ j, i = j + 1 := ⟨i - 1, by simp at hc; omega⟩
    have hj : j < σ.pend.length := by omega
    rw [lastOf_take hj] at hlk
    obtain ⟨b, o, hp, h0, hin, hget⟩ := D.seg.get (i := j) (by simpa using hj)
    rw [List.getElem_map] at hget
    have e : (((j + 1 : Nat) : Int) - 1) = (j : Int) := by omega
    rw [e]
    refine ⟨d, 0, rfl, _, _, _, cellsAt_one (cellH_at D.cell), b, o, hp, h0, hin, _, hget 0 _ rfl, fun heq => ?_, fun hne => ?_⟩
    · have heq : σ.pend[j].1 = n := by simp at heq; omega
      rw [if_pos heq] at hlk
      refine ⟨d, 0, rfl, _, _, _, cellsAt_one (cellH_at D.cell), b, o, hp, h0, hin, _, hget 1 _ rfl, rfl, ?_⟩
      rw [← hlk]; rfl
    · have hne : ¬ σ.pend[j].1 = n := by simp at hne; omega
      rw [if_neg hne] at hlk
      exact ⟨_, by rw [wrapI64] <;> omega, ⟨rfl, j, by omega, rfl, hlk⟩, by simp only [numAt]; omega⟩
  · have hi0 : i = 0 := by simp at hc; omega
    subst hi0
    refine ⟨d, 0, rfl, _, _, _, cellsAt_one (cellH_at D.cell), D.safe.seg.text hn ⟨rfl, ?_⟩⟩
    rw [← hlk]
    simp [lastOf, List.getD, hn]

/-- turnoutref04.Read -/
theorem rRead_c (D : RefAt rI h B d σ) (n : Int) : CallsH Tryd.prog 90 #[vP d, vZ n] h fun e h' => Same B h h' ∧ h'.size = h.size ∧ RefAt rI h' B d (σ.read n).1 ∧ e = .returned (.tuple #[.string (σ.read n).2.1, vZ (σ.read n).2.2]) := by
  obtain ⟨w, D⟩ := D
  refine V90 _ _ h _ ⟨d, 0, rfl, _, cellsAt_one (cellH_at D.cell), fun hg => ?_, fun hg => ?_⟩
  · have ha : σ.asked n = 40 := by unfold DS.asked; rw [if_pos hg]
    have hr : σ.read n = (σ, ByteArray.empty, 40) := by unfold DS.read; rw [if_neg (by rw [ha]; decide), ha]
    rw [hr]
    exact ⟨Same.refl _ _, rfl, ⟨w, D⟩, rfl⟩
  refine ⟨fun l hq => l = [] ∧ hq = h ∧ 0 ≤ n ∧ n < σ.safe.length, ⟨decide (n < 0 ∨ (σ.safe.length : Int) ≤ n), ⟨fun hn => ⟨rfl, ?_⟩, fun hn => ⟨d, 0, rfl, _, _, _, cellsAt_one (cellH_at D.cell), rfl, ?_⟩⟩, fun hB => ?_, fun hB => ⟨rfl, rfl, ?_, ?_⟩⟩, ?_⟩
  · have hn : n < 0 := by simpa using hn
    simp [hn]
  · have hn : ¬ n < 0 := by simpa using hn
    simp [hn]
  · have hB := of_decide_eq_true hB
    have ha : σ.asked n = 41 := by unfold DS.asked; rw [if_neg (by simp [hg]), if_pos hB]
    have hr : σ.read n = (σ, ByteArray.empty, 41) := by unfold DS.read; rw [if_neg (by rw [ha]; decide), ha]
    rw [hr]
    exact ⟨Same.refl _ _, rfl, ⟨w, D⟩, rfl⟩
  · have := of_decide_eq_false hB; omega
  · have := of_decide_eq_false hB; omega
  rintro h1 ⟨_, rfl, hn0, hn1⟩
  obtain ⟨m, rfl⟩ := Int.eq_ofNat_of_zero_le hn0
  have hm : m < σ.safe.length := by omega
  have ha : σ.asked (m : Int) = 0 := by unfold DS.asked; rw [if_neg (by simp [hg]), if_neg (by omega)]
  have hr : σ.read (m : Int) = ({ σ with reads := inc64 σ.reads }, σ.look m, 0) := by unfold DS.read; rw [if_pos ha, Int.toNat_natCast]
  rw [hr]
  refine ⟨d, 0, rfl, _, cellsAt_one (cellH_at D.cell), _, rfl, d, 0, rfl, rfl, D.wr (by decide), ?_⟩
  rintro h2 rfl
  have D2 := D.set rG (σ' := { σ with reads := inc64 σ.reads }) (k := 0 + 4 + 0) (v := vZ (inc64 σ.reads)) rfl rfl rfl ⟨D.ok.pos, D.ok.most, D.ok.size, D.ok.pend, D.ok.plan⟩ D.off
  refine (rLook_c ⟨w, D2⟩ m hm).mono ?_
  rintro e h3 ⟨rfl, rfl⟩
  exact ⟨_, rfl, setsH_same D.bd, setsH_size, ⟨w, D2⟩, rfl⟩

/-- turnoutref04.step -/
theorem rStep_c {w : RW} (D : RefIs rI h B d σ w) (hg : σ.gone = false) : CallsH Tryd.prog 81 #[vP d] h fun e h' => Same B h h' ∧ h'.size = h.size ∧ RefIs rI h' B d σ.stepped w ∧ e = .returned (.bool σ.stepped.gone) := by
  refine V81 _ h _ ⟨d, 0, rfl, _, cellsAt_one (cellH_at D.cell), fun h0 => ?_, fun h0 => ?_⟩
  · have h0 : σ.plan ≠ 0 := by simp at h0; omega
    have hpl := D.ok.plan
    have hst : σ.stepped = { σ with plan := σ.plan - 1, gone := decide (σ.plan = 1) } := by
      unfold DS.stepped; rw [if_neg h0]
    have he : decide (((σ.plan - 1 : Nat) : Int) = 0) = decide (σ.plan = 1) := by
      apply decide_eq_decide.2; omega
    refine ⟨d, 0, rfl, _, cellsAt_one (cellH_at D.cell), ((σ.plan - 1 : Nat) : Int), by rw [wrapI64] <;> omega, d, 0, rfl, rfl, D.wr (by decide), ?_⟩
    rintro h1 rfl
    have D1 := D.set rG (σ' := { σ with plan := σ.plan - 1 }) (k := 0 + 3) (v := vI (σ.plan - 1)) rfl rfl rfl ⟨D.ok.pos, D.ok.most, D.ok.size, D.ok.pend, by show σ.plan - 1 ≤ _; omega⟩ (fun h => by rw [hg] at h; cases h)
    refine ⟨d, 0, rfl, _, cellsAt_one (cellH_at D1.cell), d, 0, rfl, rfl, D1.wr (by decide), ?_⟩
    rintro h2 rfl
    have D2 := D1.set rG (σ' := σ.stepped) (k := 0 + 2) (v := .bool (decide (((σ.plan - 1 : Nat) : Int) = 0))) (by rw [he, hst]; rfl) (by rw [hst]) (by rw [hst]) D.ok.stepped (DS.off_stepped D.off)
    refine ⟨d, 0, rfl, _, cellsAt_one (cellH_at D2.cell), ?_, ?_, D2, rfl⟩
    · exact (setsH_same D.bd).trans (setsH_same D.bd) fun _ h _ => h
    · rw [setsH_size, setsH_size]
  · have h0 : σ.plan = 0 := by simp at h0; omega
    have hst : σ.stepped = σ := by unfold DS.stepped; rw [if_pos h0]
    rw [hst]
    exact ⟨d, 0, rfl, _, cellsAt_one (cellH_at D.cell), Same.refl _ _, rfl, D, rfl⟩

/-- turnoutref04.Write -/
theorem rWrite_c (D : RefAt rI h B d σ) (n : Int) (s : ByteArray) (hlen : σ.pend.length ≤ 9000000000000) :
    CallsH Tryd.prog 57 #[vP d, vZ n, .string s] h fun e h' => Same B h h' ∧ RefAt rI h' (GrowB B h h') d (σ.write n s).1 ∧ e = .returned (vZ (σ.write n s).2) := by
  obtain ⟨w, D⟩ := D
  have same : RefAt rI h (GrowB B h h) d σ := ⟨w, D.more (fun b hb => .inl hb) (GrowB.lt D.lt (Nat.le_refl _))⟩
  refine V57 _ _ _ h _ ⟨d, 0, rfl, _, cellsAt_one (cellH_at D.cell), fun hg => ?_, fun hg => ?_⟩
  · have ha : σ.asked n = 40 := by unfold DS.asked; rw [if_pos hg]
    have hr : σ.write n s = (σ, 40) := by unfold DS.write; rw [if_neg (by rw [ha]; decide), ha]
    rw [hr]
    exact ⟨Same.refl _ _, same, rfl⟩
  refine ⟨fun l hq => l = [] ∧ hq = h ∧ 0 ≤ n ∧ n < σ.safe.length, ⟨decide (n < 0 ∨ (σ.safe.length : Int) ≤ n), ⟨fun hn => ⟨rfl, ?_⟩, fun hn => ⟨d, 0, rfl, _, _, _, cellsAt_one (cellH_at D.cell), rfl, ?_⟩⟩, fun hB => ?_, fun hB => ⟨rfl, rfl, ?_, ?_⟩⟩, ?_⟩
  · have hn : n < 0 := by simpa using hn
    simp [hn]
  · have hn : ¬ n < 0 := by simpa using hn
    simp [hn]
  · have hB := of_decide_eq_true hB
    have ha : σ.asked n = 41 := by unfold DS.asked; rw [if_neg (by simp [hg]), if_pos hB]
    have hr : σ.write n s = (σ, 41) := by unfold DS.write; rw [if_neg (by rw [ha]; decide), ha]
    rw [hr]
    exact ⟨Same.refl _ _, same, rfl⟩
  · have := of_decide_eq_false hB; omega
  · have := of_decide_eq_false hB; omega
  rintro h1 ⟨_, rfl, hn0, hn1⟩
  obtain ⟨m, rfl⟩ := Int.eq_ofNat_of_zero_le hn0
  have hm : m < σ.safe.length := by omega
  have ha : σ.asked (m : Int) = 0 := by unfold DS.asked; rw [if_neg (by simp [hg]), if_neg (by omega)]
  refine ⟨fun hne => ?_, fun hsz => ?_⟩
  · have hne : ¬ s.size = 512 := by simp at hne; omega
    have hr : σ.write (m : Int) s = (σ, 42) := by unfold DS.write; rw [if_pos ha, if_neg hne]
    rw [hr]
    exact ⟨Same.refl _ _, same, rfl⟩
  have hsz : s.size = 512 := by simp at hsz; omega
  refine (rStep_c D hg).mono ?_
  rintro e h2 ⟨hsm, hsz2, D2, rfl⟩
  refine ⟨_, rfl, fun hgo => ?_, fun hgo => ?_⟩
  · have hr : σ.write (m : Int) s = (σ.stepped, 40) := by unfold DS.write; rw [if_pos ha, if_pos hsz, if_pos hgo]
    rw [hr]
    exact ⟨hsm, ⟨w, D2.more (fun b hb => .inl hb) (GrowB.lt D.lt hsm.size)⟩, rfl⟩
  have hr : σ.write (m : Int) s = ({ σ.stepped with pend := σ.pend ++ [(m, s)], writes := inc64 σ.writes }, 0) := by
    unfold DS.write; rw [if_pos ha, if_pos hsz, if_neg (by simp [hgo]), Int.toNat_natCast]
  rw [hr]
  obtain ⟨e1, e2, e3, e4, e5⟩ := σ.stepped_safe
  obtain ⟨τ, hτ⟩ : ∃ τ, τ = σ.stepped := ⟨_, rfl⟩
  rw [← hτ] at D2 e1 e2 e4 hgo ⊢
  rw [← e2, ← e4]
  rw [← e1] at hm
  have hlen' : τ.pend.length ≤ 9000000000000 := by rw [e2]; exact hlen
  have N := D2.ne rG
  have hd2 : d < h2.size := D2.lt d D2.bd
  refine ⟨d, 0, rfl, _, _, _, cellsAt_one (cellH_at D2.cell), semH_pushS rowW2 (by decide) D2.wait (r := waitV (m, s)) rfl rfl (by decide) (by simp [waitV, Value.oneCell']) (by omega) (by simp only [maxLen]; omega) (Nat.zero_le _) fun p3 q3 h3 ho3 hg3 _ hb3 => ?_⟩
  have c3 := (hg3.block d hd2 fun e => N.2 d e.symm rfl).trans D2.cell
  refine ⟨d, 0, rfl, rfl, wrAt_of c3 (show 1 + 1 ≤ 7 by decide) (.inl (Nat.zero_le _)), ?_⟩
  rintro h4 hh4
  have c4 := setsH_at (vs := [Value.slice p3 (τ.pend.length + 1) q3]) (o := 0 + 1) c3
  rw [← hh4] at c4
  have s4 : h4.size = h3.size := by rw [hh4]; exact setsH_size
  have o4 : ∀ b, b ≠ d → h4[b]? = h3[b]? := fun b hb => by rw [hh4]; exact setsH_ne hb
  clear hh4
  refine ⟨d, 0, rfl, _, cellsAt_one (cellH_at c4), _, rfl, d, 0, rfl, rfl, wrAt_of c4 (show 5 + 1 ≤ 7 by decide) (.inl (Nat.zero_le _)), ?_⟩
  rintro h5 hh5
  have c5 := setsH_at (vs := [vZ (inc64 τ.writes)]) (o := 0 + 4 + 1) c4
  have hh5' : h5 = setsH h4 d (0 + 4 + 1) [vZ (inc64 τ.writes)] := hh5
  rw [← hh5'] at c5
  have s5 : h5.size = h4.size := by rw [hh5]; exact setsH_size
  have o5 : ∀ b, b ≠ d → h5[b]? = h4[b]? := fun b hb => by rw [hh5]; exact setsH_ne hb
  clear hh5 hh5'
  have hlen1 : (τ.pend ++ [(m, s)]).length = τ.pend.length + 1 := by simp
  have s3 := hg3.size
  have hsmF : Same B h1 h5 := by
    refine ⟨by omega, fun b hb hnb => ?_⟩
    have hbd : b ≠ d := fun e => hnb (e ▸ D.bd)
    rw [o5 b hbd, o4 b hbd, hg3.block b (by omega) fun e => hnb (D2.bw b e.symm)]
    exact hsm.old b hb hnb
  have b3 : ∀ b, (Value.slice p3 (τ.pend.length + 1) q3).ownBlock = some b → ((Value.slice w.pw τ.pend.length w.cw).ownBlock = some b ∨ h2.size ≤ b) ∧ b < h3.size := fun b hb => by
    refine ⟨?_, (ho3.lt hb).2⟩
    rcases hb3 with he | ⟨q, he, hq⟩
    · exact .inl (he ▸ hb)
    · rw [he] at hb; cases hb; exact .inr hq
  refine ⟨hsmF, ⟨{ w with pw := p3, cw := q3 }, ?_⟩, rfl⟩
  refine { cell := ?_, safe := ?_, wait := ?_, bd := .inl D.bd, bs := fun b hb => .inl (D2.bs b hb), bw := ?_, lt := GrowB.lt D.lt hsmF.size, ok := D2.ok.pushed hm hsz, off := D2.off }
  · rw [c5]; simp only [DS.rcells, hlen1]; rfl
  · refine D2.safe.keep fun b hb => ?_
    have hbd := N.1 b hb
    rw [o5 b hbd, o4 b hbd]
    refine hg3.block b (D2.lt b (D2.bs b hb)) fun e => ?_
    obtain ⟨cur, hc⟩ := D2.safe.blk hb
    obtain ⟨cur', hc'⟩ := D2.wait.blk e.symm
    rw [hc] at hc'; injection hc' with hc'; injection hc' with _ hc'; exact rG.sw hc'
  · show Own h5 0 141 2 (.slice p3 (τ.pend ++ [(m, s)]).length q3) (τ.pend ++ [(m, s)]).length ((τ.pend ++ [(m, s)]).map waitV).flatten
    rw [hlen1, List.map_append, List.flatten_append]
    have : ([(m, s)].map waitV).flatten = waitV (m, s) := by simp
    rw [this]
    refine ho3.keep fun b hb => ?_
    have hbd : b ≠ d := by
      rcases (b3 b hb).1 with h1 | h1
      · exact N.2 b h1
      · omega
    rw [o5 b hbd, o4 b hbd]
  · show ∀ b, (Value.slice p3 (τ.pend ++ [(m, s)]).length q3).ownBlock = some b → _
    rw [hlen1]
    intro b hb
    obtain ⟨h1, h2'⟩ := b3 b hb
    rcases h1 with h1 | h1
    · exact .inl (D2.bw b h1)
    · exact .inr ⟨by omega, by omega⟩

/-- Nothing waits any more. -/
theorem RefIs.clear {w : RW} {h' : Hp} (D : RefIs rI h B d σ w) (hh : h' = setsH h d (0 + 1) [Value.slice none 0 0]) : RefIs rI h' B d { σ with pend := [] } { w with pw := none, cw := 0 } := by
  have N := D.ne rG
  have c1 := setsH_at (vs := [Value.slice none 0 0]) (o := 0 + 1) D.cell
  rw [← hh] at c1
  have k : ∀ b, b ≠ d → h'[b]? = h[b]? := fun b hb => by rw [hh]; exact setsH_ne hb
  have s1 : h'.size = h.size := by rw [hh]; exact setsH_size
  exact ⟨c1, D.safe.keep fun b hb => k b (N.1 b hb), Own.nil _ _ _ _, D.bd, D.bs, by simp [Value.ownBlock], fun b hb => by rw [s1]; exact D.lt b hb, ⟨D.ok.pos, D.ok.most, D.ok.size, by simp, D.ok.plan⟩, D.off⟩

theorem bl_inj' {a b : ByteArray} (h : a.data.toList = b.data.toList) : a = b := by
  apply ByteArray.ext; exact Array.toList_inj.1 h

theorem layD_whole {safe : List ByteArray} {x : Nat × ByteArray} (h : ∀ s ∈ safe, s.size = 512) (hn : x.1 < safe.length) (hs : x.2.size = 512) : layD safe x 512 = safe.set x.1 x.2 := by
  have e1 : layD safe x 512 = safe.set x.1 (layT safe[x.1] x.2 512) := layD_set hn
  have hx := h _ (List.getElem_mem hn)
  rw [e1]
  congr 1
  apply bl_inj'
  unfold layT
  have e : ∀ a b : ByteArray, (a ++ b).data.toList = a.data.toList ++ b.data.toList := fun a b => by rw [ByteArray.data_append, Array.toList_append]
  have h1 : x.2.data.toList.length = 512 := by simpa using hs
  have h2 : (safe[x.1]).data.toList.length = 512 := by simpa using hx
  rw [e, Lib.extract_data, Lib.extract_data, List.drop_zero, List.take_of_length_le (by omega), List.drop_of_length_le (by omega)]
  simp

/-- turnoutref04.Flush -/
theorem rFlush_c (D : RefAt rI h B d σ) : CallsH Tryd.prog 79 #[vP d] h fun e h' => Same B h h' ∧ h'.size = h.size ∧ RefAt rI h' B d σ.flush.1 ∧ e = .returned (vZ σ.flush.2) := by
  obtain ⟨w, D⟩ := D
  refine V79 _ h _ ⟨d, 0, rfl, _, cellsAt_one (cellH_at D.cell), fun hg => ?_, fun hg => (rStep_c D hg).mono ?_⟩
  · have hr : σ.flush = (σ, 40) := by unfold DS.flush; rw [if_pos hg]
    rw [hr]
    exact ⟨Same.refl _ _, rfl, ⟨w, D⟩, rfl⟩
  rintro e h2 ⟨hsm2, hsz2, D2, rfl⟩
  refine ⟨_, rfl, fun hgo => ?_, fun hgo => ?_⟩
  · have hr : σ.flush = (σ.stepped, 40) := by unfold DS.flush; rw [if_neg (by simp [hg]), if_pos hgo]
    rw [hr]
    exact ⟨hsm2, hsz2, ⟨w, D2⟩, rfl⟩
  have hfl : σ.flush = ({ σ.stepped with safe := layAll σ.safe σ.pend, pend := [], flushes := inc64 σ.flushes }, 0) := by
    unfold DS.flush
    rw [if_neg (by simp [hg]), if_neg (by simp [hgo])]
  rw [hfl]
  obtain ⟨e1, e2, e3, e4, e5⟩ := σ.stepped_safe
  generalize σ.stepped = τ at *
  rw [← e1, ← e2, ← e5]
  have hmax := D2.wait.max
  refine ⟨fun l hq => ∃ i : Nat, i ≤ τ.pend.length ∧ l = [vI i] ∧ Same B h hq ∧ hq.size = h.size ∧ RefIs rI hq B d (τ.with (layAll τ.safe (τ.pend.take i))) w,
    fun l _ => (τ.pend.length - numAt l 0).toNat, ⟨0, Nat.zero_le _, rfl, hsm2, hsz2, D2⟩, ?_⟩
  rintro x hq ⟨i, hi, hl, hsm, hsz, D3⟩
  cases hl
  refine ⟨d, 0, rfl, _, _, _, cellsAt_one (cellH_at D3.cell), fun hc => ?_, fun hc => ?_⟩
  · have hc : i < τ.pend.length := by
      have : decide ((i : Int) < (τ.pend.length : Int)) = true := hc
      simp at this; omega
    obtain ⟨b, o, hp, h0, hin, hget⟩ := D3.seg.get (i := i) (by show i < (List.map waitV τ.pend).length; simpa using hc)
    have hget : ∀ j v, (waitV τ.pend[i])[j]? = some v → cellsAt hq b ((o + Int.toNat (i : Int) * 2) + j) [v] := fun j v hj => hget j v (by show ((List.map waitV τ.pend)[i]'(by simpa using hc))[j]? = some v; simpa using hj)
    obtain ⟨hn, hs⟩ := D2.ok.pend _ (List.getElem_mem hc)
    have hl := (layAll_ok (τ.pend.take i) τ.safe D2.ok.size fun x hx => (D2.ok.pend x (List.mem_of_mem_take hx)).2)
    have hn3 : τ.pend[i].1 < (τ.with (layAll τ.safe (τ.pend.take i))).safe.length := by show _ < (layAll _ _).length; rw [hl.2]; exact hn
    refine ⟨d, 0, rfl, _, _, _, cellsAt_one (cellH_at D3.cell), d, 0, rfl, _, _, _, cellsAt_one (cellH_at D3.cell), b, o, hp, h0, hin, _, hget 0 _ rfl, d, 0, rfl, _, _, _, cellsAt_one (cellH_at D3.cell), b, o, hp, h0, hin, _, hget 1 _ rfl, ?_⟩
    refine D3.safe.store hn3 rfl fun h' ho hgr hszz => ⟨_, incI (by omega), ⟨i + 1, hc, rfl, hsm.trans (hgr.same B D3.bs) fun _ h _ => h, hszz.trans hsz, ?_⟩, by simp only [numAt]; omega⟩
    rw [layAll_take hc]
    have hlay : layD (layAll τ.safe (τ.pend.take i)) τ.pend[i] 512 = (layAll τ.safe (τ.pend.take i)).set τ.pend[i].1 τ.pend[i].2 := layD_whole hl.1 (by exact hn3) hs
    have := D3.laid rG (safe := layD (layAll τ.safe (τ.pend.take i)) τ.pend[i] 512) (layD_length _ _ _) (layD_size hl.1 hs (Nat.le_refl _)) (by rw [hlay, List.map_set]; exact ho) hgr
    exact this
  · have hc : i = τ.pend.length := by
      have : decide ((i : Int) < (τ.pend.length : Int)) = false := hc
      simp at this; omega
    subst hc
    rw [List.take_length] at D3
    refine ⟨d, 0, rfl, rfl, D3.wr (by decide), ?_⟩
    rintro h4 hh4
    have D4 := D3.clear hh4
    refine ⟨d, 0, rfl, _, cellsAt_one (cellH_at D4.cell), _, rfl, d, 0, rfl, rfl, D4.wr (by decide), ?_⟩
    rintro h5 rfl
    have D5 := D4.set rG (σ' := { τ with safe := layAll τ.safe τ.pend, pend := [], flushes := inc64 τ.flushes }) (k := 0 + 4 + 2) (v := vZ (inc64 τ.flushes)) rfl rfl rfl ⟨D4.ok.pos, D4.ok.most, D4.ok.size, D4.ok.pend, D4.ok.plan⟩ D4.off
    refine ⟨?_, ?_, ⟨_, D5⟩, rfl⟩
    · subst hh4
      exact (hsm.trans (setsH_same D3.bd) fun _ h _ => h).trans (setsH_same D3.bd) fun _ h _ => h
    · rw [setsH_size, hh4, setsH_size]; exact hsz

/-- turnoutref04.Cut -/
theorem rCut_c (D : RefAt rI h B d σ) (n : Int) (hn : n ≤ 9223372036854775807) : CallsH Tryd.prog 54 #[vP d, vZ n] h fun e h' => Same B h h' ∧ h'.size = h.size ∧ RefAt rI h' B d (σ.cut n) ∧ e = .returned (.tuple #[]) := by
  obtain ⟨w, D⟩ := D
  refine V54 _ _ h _ ⟨d, 0, rfl, rfl, D.wr (by decide), ?_⟩
  rintro h1 rfl
  have D1 := D.set rG (σ' := { σ with plan := 0 }) (k := 0 + 3) (v := vI 0) rfl rfl rfl ⟨D.ok.pos, D.ok.most, D.ok.size, D.ok.pend, Nat.zero_le _⟩ (fun _ => rfl)
  refine ⟨decide (0 < n ∧ σ.gone = false), ⟨fun hp => ⟨d, 0, rfl, _, cellsAt_one (cellH_at D1.cell), rfl, ?_⟩, fun hp => ⟨rfl, ?_⟩⟩, fun hB => ?_, fun hB => ?_⟩
  · have hp : 0 < n := by simpa using hp
    show decide _ = !σ.gone
    cases σ.gone <;> simp [hp]
  · have hp : ¬ 0 < n := by simpa using hp
    simp [hp]
  · have hB := of_decide_eq_true hB
    obtain ⟨k, hk⟩ := Int.eq_ofNat_of_zero_le (show 0 ≤ n by omega)
    have hc : σ.cut n = { σ with plan := k } := by
      unfold DS.cut
      rw [if_neg (by simp [hB.2])]
      have : (max n 0).toNat = k := by omega
      rw [this]
    subst hk
    refine ⟨d, 0, rfl, rfl, D1.wr (by decide), ?_⟩
    rintro h2 rfl
    rw [hc]
    have D2 := D1.set rG (σ' := { σ with plan := k }) (k := 0 + 3) (v := vI k) rfl rfl rfl ⟨D.ok.pos, D.ok.most, D.ok.size, D.ok.pend, by show k ≤ _; omega⟩ (fun h => by have : σ.gone = true := h; rw [hB.2] at this; cases this)
    exact ⟨(setsH_same D.bd).trans (setsH_same D.bd) fun _ h _ => h, by rw [setsH_size, setsH_size], ⟨_, D2⟩, rfl⟩
  · have hB := of_decide_eq_false hB
    have hc : σ.cut n = { σ with plan := 0 } := by
      unfold DS.cut
      cases hg : σ.gone with
      | true =>
        rw [if_pos rfl]
        have := D.off hg
        rw [← hg, ← this]
      | false =>
        rw [if_neg (by simp)]
        have : (max n 0).toNat = 0 := by
          have : ¬ 0 < n := fun h => hB ⟨h, hg⟩
          omega
        rw [this, ← hg]
    rw [hc]
    exact ⟨setsH_same D.bd, setsH_size, ⟨_, D1⟩, rfl⟩

/-- turnoutref04.Pending -/
theorem rPending_c (D : RefAt rI h B d σ) (hlen : σ.pend.length ≤ 8796093022208) : CallsH Tryd.prog 62 #[vP d] h fun e h' => Ext h h' ∧ ∃ p c, e = .returned (.slice p σ.pend.length c) ∧ Own h' h.size 3 1 (.slice p σ.pend.length c) σ.pend.length ((σ.pend.map (·.1)).map vI) := by
  obtain ⟨w, D⟩ := D
  refine V62 _ h _ ⟨fun l hq => ∃ (i : Nat) (p : Option Addr) (c : Nat), i ≤ σ.pend.length ∧ l = [.slice p i c, vI i] ∧ Own hq h.size 3 1 (.slice p i c) i (((σ.pend.take i).map (·.1)).map vI) ∧ Ext h hq, fun l _ => (σ.pend.length - numAt l 1).toNat,
    ⟨0, none, 0, Nat.zero_le _, rfl, Own.nil _ _ _ _, Ext.refl _⟩, ?_⟩
  rintro p n c x hq ⟨i, _, _, hi, hl, ho, hx⟩
  cases hl
  have D1 := D.keep hx.size fun b hb => hx.old b (D.lt b hb)
  refine ⟨d, 0, rfl, _, _, _, cellsAt_one (cellH_at D1.cell), fun hc => ?_, fun hc => ?_⟩
  · have hc : n < σ.pend.length := by simp at hc; omega
    obtain ⟨b, o, hp, h0, hin, hget⟩ := D1.seg.get (i := n) (by simpa using hc)
    rw [List.getElem_map] at hget
    refine ⟨d, 0, rfl, _, _, _, cellsAt_one (cellH_at D1.cell), b, o, hp, h0, hin, _, hget 0 _ rfl, ?_⟩
    refine semH_push rowI ho (vs := [vI σ.pend[n].1]) (m := 1) rfl rfl (by simp) (by simp) (by simp [Value.oneCell']) (by omega) (by simp only [maxLen]; omega) hx.size fun p2 c2 h2 ho2 hg2 _ _ => ?_
    refine ⟨_, incI (by omega), ⟨n + 1, p2, c2, hc, rfl, ?_, hx.own ho (Nat.le_refl _) hg2⟩, by simp only [numAt]; omega⟩
    have : σ.pend.take (n + 1) = σ.pend.take n ++ [σ.pend[n]] := by rw [List.take_add_one, List.getElem?_eq_getElem hc]; rfl
    rw [this, List.map_append, List.map_append]
    exact ho2
  · have hc : n = σ.pend.length := by simp at hc; omega
    subst hc
    rw [List.take_length] at ho
    exact ⟨hx, p, c, rfl, ho⟩

/-- turnoutref04.Image -/
theorem rImage_c (D : RefAt rI h B d σ) : CallsH Tryd.prog 64 #[vP d] h fun e h' => Ext h h' ∧ e = .returned (.string σ.image) := by
  obtain ⟨w, D⟩ := D
  have hl1 := D.ok.pos
  have hl2 := D.ok.most
  refine V64 _ h _ ⟨fun l hq => ∃ (i : Nat) (p : Option Addr) (n c : Nat), i ≤ σ.safe.length ∧ l = [.slice p n c, vI i] ∧ Own hq h.size 5 1 (.slice p n c) n (byteVs (flatB (σ.safe.take i))) ∧ Ext h hq,
    fun l _ => (σ.safe.length - numAt l 1).toNat, ⟨0, none, 0, 0, Nat.zero_le _, rfl, Own.nil _ _ _ _, Ext.refl _⟩, ?_⟩
  rintro bp bn bc x hq ⟨i, p, n, c, hi, hl, ho, hx⟩
  cases hl
  have D2 := D.keep hx.size fun b hb => hx.old b (D.lt b hb)
  have hbn : bn = i * 512 := by
    have h1 := ho.len.2.1
    have h2 : (flatB (σ.safe.take i)).length = (σ.safe.take i).length * 512 := flatB_length fun s hs => D.ok.size s (List.mem_of_mem_take hs)
    simp only [byteVs, List.length_map] at h1
    rw [← h1, h2, List.length_take, Nat.min_eq_left hi]
  refine ⟨d, 0, rfl, _, _, _, cellsAt_one (cellH_at D2.cell), fun hc => ?_, fun hc => ?_⟩
  · have hc : i < σ.safe.length := by simp at hc; omega
    have h512 := D.ok.size _ (List.getElem_mem hc)
    refine ⟨d, 0, rfl, _, _, _, cellsAt_one (cellH_at D2.cell), D2.safe.seg.text hc (semH_appendStr rowB uStr zeroB ho (by simp only [maxLen]; omega) (by omega) hx.size fun p' c' h' ho' hg' _ _ => ?_)⟩
    refine ⟨_, incI (by omega), ⟨i + 1, _, _, _, hc, rfl, ?_, hx.own ho (Nat.le_refl _) hg'⟩, by simp only [numAt]; omega⟩
    rw [flatB_take hc, byteVs, List.map_append]
    exact ho'
  · have hc : i = σ.safe.length := by simp at hc; omega
    subst hc
    rw [List.take_length] at ho
    exact semH_toText uBs uB uStr (t := σ.image) ho.seg ⟨_, rfl, hx, rfl⟩

end
end Go.Vc

/- Contracts of the document's disk: Crash, New, Load. -/
namespace Go.Vc
open Go Go.Proofs Go.MapKept

section
variable {h : Hp} {B : Nat → Prop} {d : Nat} {σ : DS}

/-- turnoutref04.Crash -/
theorem rCrash_c (D : RefAt rI h B d σ) (fates : List (Int × Int)) {p : Option Addr} {n c : Nat} (hf : SegS h p n 2 (fates.map fateV)) (hB : ∀ b o, p = some ⟨b, o, none⟩ → fates ≠ [] → ¬ B b) :
    CallsH Tryd.prog 55 #[vP d, .slice p n c] h fun e h' => Same B h h' ∧ RefAt rI h' B d (σ.crash fates) ∧ e = .returned (.tuple #[]) := by
  obtain ⟨w, D⟩ := D
  have hfl : fates.length = n := by have := hf.1; simpa using this
  have hmax := D.wait.max
  refine V55 _ _ _ _ h _ ⟨fun l hq => l = [] ∧ Same B h hq ∧ RefIs rI hq B d (σ.with (layFates σ.safe σ.pend fates)) w,
    ⟨fun l hq => ∃ i : Nat, i ≤ σ.pend.length ∧ i ≤ fates.length ∧ l = [vI i] ∧ Same B h hq ∧ RefIs rI hq B d (σ.with (layFates σ.safe (σ.pend.take i) fates)) w, fun l _ => (σ.pend.length - numAt l 0).toNat,
      ⟨0, Nat.zero_le _, Nat.zero_le _, rfl, Same.refl _ _, D⟩, ?_⟩, ?_⟩
  · rintro x hq ⟨i, hi, hif, hl, hsm, D3⟩
    cases hl
    refine ⟨fun l hr => l = [] ∧ hr = hq ∧ i < σ.pend.length ∧ i < fates.length, ⟨decide (i < σ.pend.length ∧ i < fates.length), ⟨d, 0, rfl, _, _, _, cellsAt_one (cellH_at D3.cell), fun hc => ⟨rfl, ?_⟩, fun hc => ⟨rfl, ?_⟩⟩, fun hB => ⟨rfl, rfl, of_decide_eq_true hB⟩, fun hB => ⟨rfl, hsm, ?_⟩⟩, ?_⟩
    · have hc : i < σ.pend.length := by
        have : decide ((i : Int) < (σ.pend.length : Int)) = true := hc
        simp at this; omega
      apply decide_eq_decide.2; omega
    · have hc : ¬ i < σ.pend.length := by
        have : decide ((i : Int) < (σ.pend.length : Int)) = false := hc
        simp at this; omega
      rw [decide_eq_false_iff_not]; omega
    · have hB := of_decide_eq_false hB
      by_cases h1 : i = σ.pend.length
      · subst h1
        rw [List.take_length] at D3; exact D3
      · have : fates.length ≤ i := by omega
        rw [layFates_short this] at D3; exact D3
    rintro hr ⟨_, rfl, hip, hif'⟩
    obtain ⟨b2, o2, hp2, h20, h2n, hc2⟩ := D3.seg.at (i := i) (by show i < (List.map waitV σ.pend).length; simpa using hip)
    have hc2 : cellsAt hr b2 (o2 + Int.toNat (i : Int) * 2) [vI σ.pend[i].1, .string σ.pend[i].2] := by
      have e : ((σ.with (layFates σ.safe (σ.pend.take i) fates)).pend.map waitV)[i]'(by show i < (List.map waitV σ.pend).length; simpa using hip) = waitV σ.pend[i] := by
        show (List.map waitV σ.pend)[i]'(by simpa using hip) = _
        rw [List.getElem_map]
      rw [e] at hc2; exact hc2
    refine ⟨d, 0, rfl, _, _, _, cellsAt_one (cellH_at D3.cell), b2, o2, hp2, h20, h2n, _, _, hc2, ?_⟩
    rintro b3 h2 rfl rfl
    rw [zerosW]
    have x2 : Ext hr (hr.push (.cells #[vI 0, .string ⟨#[]⟩] 141)) := Ext.push _ _
    have cc2 : (hr.push (.cells #[vI 0, .string ⟨#[]⟩] 141))[hr.size]? = some (.cells #[vI 0, .string ⟨#[]⟩] 141) := push_last
    generalize (hr.push (.cells #[vI 0, .string ⟨#[]⟩] 141)) = h2 at x2 cc2
    refine ⟨infoW, rfl, by simp [Value.oneCell'], wrAt_of cc2 (by decide) (.inl (Nat.zero_le _)), ?_⟩
    rintro h3 hh3
    have cc3 := setsH_at (vs := [vI σ.pend[i].1, Value.string σ.pend[i].2]) (o := 0) cc2
    rw [← hh3] at cc3
    have x3 : Ext hr h3 := by
      refine x2.over ?_ (fun x hx => hx) (B := fun b => hr.size ≤ b)
      rw [hh3]; exact setsH_same (Nat.le_refl _)
    clear hh3
    have D4 : RefIs rI h3 B d (σ.with (layFates σ.safe (σ.pend.take i) fates)) w := D3.keep x3.size fun b hb => x3.old b (D3.lt b hb)
    have hsm3 : Same B h h3 := hsm.trans (x3.same B) fun _ h _ => h
    have hfq : SegS h3 p n 2 (fates.map fateV) := hf.keep fun b o hp hne => hsm3.old b (hf.block (by decide) hp hne) (hB b o hp fun e => hne (by rw [e]; rfl))
    obtain ⟨b4, o4, hp4, h40, h4n, hget⟩ := hfq.get (i := i) (by simpa using hif')
    rw [List.getElem_map] at hget
    have l0 := hget 0 _ rfl
    have l1 := hget 1 _ rfl
    refine ⟨fun l hs => l = [vI (keptN fates[i])] ∧ hs = h3, ⟨b4, o4, hp4, h40, h4n, _, l0, fun h1 => ⟨?_, rfl⟩, fun h1 => ⟨fun h2 => ⟨b4, o4, hp4, h40, h4n, _, l1, ?_, rfl⟩, fun h2 => ⟨?_, rfl⟩⟩⟩, ?_⟩
    · have h1 : fates[i].1 = 1 := by simpa using h1
      simp [keptN, h1]
    · have h1 : ¬ fates[i].1 = 1 := by simpa using h1
      have h2 : fates[i].1 = 2 := by simpa using h2
      have : (((min (max fates[i].2 0) 512).toNat : Nat) : Int) = min (max fates[i].2 0) 512 := by omega
      simp [keptN, h2, this]
    · have h1 : ¬ fates[i].1 = 1 := by simpa using h1
      have h2 : ¬ fates[i].1 = 2 := by simpa using h2
      simp [keptN, h1, h2]
    rintro kk h4 ⟨hl, rfl⟩
    cases hl
    have hk := keptN_le fates[i]
    obtain ⟨hpn, hps⟩ := D.ok.pend _ (List.getElem_mem hip)
    have hlen := (layFates_ok (σ.pend.take i) fates σ.safe D.ok.size fun x hx => (D.ok.pend x (List.mem_of_mem_take hx)).2)
    have hn4 : σ.pend[i].1 < (σ.with (layFates σ.safe (σ.pend.take i) fates)).safe.length := by show _ < (layFates _ _ _).length; rw [hlen.2]; exact hpn
    have hx : ((layFates σ.safe (σ.pend.take i) fates)[σ.pend[i].1]'hn4).size = 512 := hlen.1 _ (List.getElem_mem _)
    refine ⟨d, 0, rfl, _, _, _, cellsAt_one (cellH_at D4.cell), _, cellsAt_one (cellH_at cc3), _, cellsAt_one (cellH_at cc3), keptN fates[i], rfl, Nat.zero_le _, by omega, _, rfl, d, 0, rfl, _, _, _, cellsAt_one (cellH_at D4.cell), _, cellsAt_one (cellH_at cc3), ?_⟩
    refine D4.safe.seg.text hn4 ⟨keptN fates[i], rfl, by show _ ≤ ((layFates σ.safe (σ.pend.take i) fates)[σ.pend[i].1]'hn4).size; omega, Nat.le_refl _, _, rfl, ?_, _, rfl, ?_⟩
    · rw [ByteArray.size_extract, ByteArray.size_extract]
      have : ((σ.with (layFates σ.safe (σ.pend.take i) fates)).safe[σ.pend[i].1]'hn4).size = 512 := hx
      omega
    · refine D4.safe.store hn4 rfl fun h' ho hgr hszz => ⟨_, incI (by omega), ⟨i + 1, hip, hif', rfl, hsm3.trans (hgr.same B D4.bs) fun _ h _ => h, ?_⟩, by simp only [numAt]; omega⟩
      rw [layFates_take hip hif']
      have hlay : layD (layFates σ.safe (σ.pend.take i) fates) σ.pend[i] (keptN fates[i]) = (layFates σ.safe (σ.pend.take i) fates).set σ.pend[i].1 (layT ((layFates σ.safe (σ.pend.take i) fates)[σ.pend[i].1]'hn4) σ.pend[i].2 (keptN fates[i])) := layD_set hn4
      exact D4.laid rG (safe := layD (layFates σ.safe (σ.pend.take i) fates) σ.pend[i] (keptN fates[i])) (layD_length _ _ _) (layD_size hlen.1 hps hk) (by rw [hlay, List.map_set]; exact ho) hgr
  · rintro hq ⟨_, hsm, D3⟩
    refine ⟨d, 0, rfl, rfl, D3.wr (by decide), ?_⟩
    rintro h4 hh4
    have D4 := D3.clear hh4
    have hsm4 : Same B h h4 := by subst hh4; exact hsm.trans (setsH_same D3.bd) fun _ h _ => h
    clear hh4
    refine ⟨d, 0, rfl, rfl, D4.wr (by decide), ?_⟩
    rintro h5 rfl
    have D5 := D4.set rG (σ' := { (σ.with (layFates σ.safe σ.pend fates)) with pend := [], gone := false }) (k := 0 + 2) (v := .bool false) rfl rfl rfl ⟨D4.ok.pos, D4.ok.most, D4.ok.size, D4.ok.pend, D4.ok.plan⟩ (fun h => by cases h)
    refine ⟨d, 0, rfl, rfl, D5.wr (by decide), ?_⟩
    rintro h6 rfl
    have D6 := D5.set rG (σ' := σ.crash fates) (k := 0 + 3) (v := vI 0) rfl rfl rfl (D.ok.crash fates) (fun _ => rfl)
    exact ⟨(hsm4.trans (setsH_same D4.bd) fun _ h _ => h).trans (setsH_same D4.bd) fun _ h _ => h, ⟨_, D6⟩, rfl⟩

theorem noughts_c (h : Hp) : CallsH Tryd.prog 49 #[] h fun e h' => Ext h h' ∧ e = .returned (.string zero512) := by
  refine V49 h _ ?_
  refine semH_make rowB zerosB (l := 512) (c := 512) (Nat.le_refl _) (by omega) (by simp only [maxLen]; omega) ⟨_, _, _, rfl, ?_⟩
  have ho2 : Own (h.push (.cells (Array.replicate 512 (.int .u8 0)) 5)) h.size 5 1 (.slice (some ⟨h.size, 0, none⟩) 512 512) 512 (List.replicate 512 (.int .u8 0)) := own_made (z := .int .u8 0) (l := 512) (Nat.le_refl _) (by simp only [maxLen]; omega) (Nat.le_refl _)
  have hbz : byteVs zero512.data.toList = List.replicate 512 (.int .u8 0) := List.map_replicate
  exact semH_toText uBs uB uStr (t := zero512) (by rw [hbz]; exact ho2.seg) ⟨_, rfl, Ext.push _ _, rfl⟩

/-- A new one, of blocks of its own. -/
def RFresh (h h' : Hp) (d : Nat) (σ : DS) : Prop := Ext h h' ∧ RefAt rI h' (fun b => h.size ≤ b ∧ b < h'.size) d σ

/-- What holds while sectors are laid behind one another. -/
structure Grows (h hq : Hp) (L : List ByteArray) : Prop where
  x : Ext h hq
  sz : h.size < hq.size
  ex : ∃ (p : Option Addr) (c : Nat), hq[h.size]? = some (.cells [Value.slice p L.length c, .slice none 0 0, .bool false, vI 0, vZ 0, vZ 0, vZ 0].toArray 106) ∧ Own hq h.size 9 1 (.slice p L.length c) L.length (L.map Value.string)

theorem Grows.fresh {hq : Hp} {L : List ByteArray} (g : Grows h hq L) (h1 : 1 ≤ L.length) (h2 : L.length ≤ 4096) (h3 : ∀ s ∈ L, s.size = 512) : RFresh h hq h.size (DS.fresh L) := by
  obtain ⟨x, sz, p, c, hc, ho⟩ := g
  refine ⟨x, ⟨p, c, none, 0⟩, { cell := hc, safe := ho.rebase fun _ _ => Nat.zero_le _, wait := Own.nil _ _ _ _, bd := ⟨Nat.le_refl _, sz⟩, bs := fun b hb => ?_, bw := by simp [Value.ownBlock], lt := fun b hb => hb.2, ok := DS.Ok.fresh h1 h2 h3, off := fun h => (by cases h) }⟩
  exact ho.lt hb

/-- A sector more, behind what else was made. -/
theorem Grows.push {hq : Hp} {L : List ByteArray} (g : Grows h hq L) (hl : L.length ≤ 4096) (s : ByteArray) {C : Hp → Prop} {h2 : Hp} (x2 : Ext hq h2) (hC1 : ∀ h', Ext h2 h' → C h') (hC2 : ∀ h' B, Same B h2 h' → (∀ b, B b → h.size < b) → C h') {p : Option Addr} {c : Nat} (hp : hq[h.size]? = some (.cells [Value.slice p L.length c, .slice none 0 0, .bool false, vI 0, vZ 0, vZ 0, vZ 0].toArray 106))
    {K : Hp → Prop} (hK : ∀ h', Grows h h' (L ++ [s]) → K h') :
    SemH Tryd.prog (Instr.buildSlice 32 1 #[(0, .string s)]) h2 fun v_ h3 => ∃ (p1 : Option Addr) (n1 c1 : Nat), v_ = (Value.slice p1 n1 c1) ∧ C h3 ∧
      SemH Tryd.prog (Builtin.append_ #[32, 32] 32 #[.slice p L.length c, .slice p1 n1 c1]) h3 fun v_1 h4 => ∃ (p2 : Option Addr) (n2 c2 : Nat), v_1 = (Value.slice p2 n2 c2) ∧ C h4 ∧
        Value.oneCell' (Value.slice p2 n2 c2) = true ∧ wrAt h4 h.size (0 + 0) 1 ∧ ∀ h5, h5 = setsH h4 h.size (0 + 0) [Value.slice p2 n2 c2] → K h5 := by
  obtain ⟨x, sz, p', c', hc, ho⟩ := g
  rw [hp] at hc
  injection hc with hc
  injection hc with hc _
  have hc : p = p' ∧ c = c' := by simpa using hc
  obtain ⟨rfl, rfl⟩ := hc
  have ho2 := ho.ext x2
  have hp2 := (x2.old _ sz).trans hp
  have s2 := x2.size
  have hne : ∀ b, (Value.slice p L.length c).ownBlock = some b → h.size < b := fun b hb => by
    have h1 := (ho.lt hb).1
    obtain ⟨cur, hcur⟩ := ho.blk hb
    refine Nat.lt_of_le_of_ne h1 fun e => ?_
    rw [← e, hp] at hcur; injection hcur with hcur; injection hcur with _ hcur; exact rG.sr hcur.symm
  have s0 := x.size
  refine semH_pushC rowS ho2 (vs := [.string s]) (m := 1) rfl rfl (by simp) (by simp) (by simp [Value.oneCell']) (by omega) (by simp only [maxLen]; omega) (by omega) hC1 (fun h' g => hC2 h' _ (g.same (fun b => h.size < b) hne) fun b hb => hb) fun p3 c3 h3 ho3 hg3 _ hb3 => ?_
  have hs3 := hg3.size
  have hp3 := (hg3.block h.size (by omega) fun e => Nat.lt_irrefl _ (hne _ e.symm)).trans hp2
  refine ⟨rfl, wrAt_of hp3 (show 0 + 0 + 1 ≤ 7 by decide) (.inl (Nat.zero_le _)), ?_⟩
  rintro h5 hh5
  have hc5 := setsH_at (vs := [Value.slice p3 (L.length + 1) c3]) (o := 0 + 0) hp3
  rw [← hh5] at hc5
  have s5 : h5.size = h3.size := by rw [hh5]; exact setsH_size
  have o5 : ∀ b, b ≠ h.size → h5[b]? = h3[b]? := fun b hb => by rw [hh5]; exact setsH_ne hb
  refine hK h5 ⟨⟨by omega, fun b hb => ?_⟩, by omega, p3, c3, ?_, ?_⟩
  · rw [o5 b (by omega), hg3.block b (by omega) (fun e => by have := hne b e.symm; omega), x2.old b (by omega)]
    exact x.old b hb
  · rw [hc5, List.length_append]; rfl
  · rw [List.length_append, List.map_append]
    refine ho3.keep fun b hb => o5 b fun e => ?_
    rcases hb3 with he | ⟨q, he, hq⟩
    · rw [he] at hb; have := hne b hb; omega
    · rw [he] at hb; cases hb; omega

theorem Grows.start (h : Hp) : Grows h (h.push (.cells #[Value.slice none 0 0, .slice none 0 0, .bool false, vI 0, vI 0, vI 0, vI 0] 106)) [] :=
  ⟨Ext.push _ _, by simp, none, 0, push_last, Own.nil _ _ _ _⟩

/-- turnoutref04.New -/
theorem rNew_c (n : Int) : CallsH Tryd.prog 33 #[vZ n] h fun e h' => (((n < 1 ∨ 4096 < n) ∧ h' = h ∧ e = .returned (.tuple #[.pointer none, vZ 1])) ∨
    (1 ≤ n ∧ n ≤ 4096 ∧ ∃ d, RFresh h h' d (DS.new n.toNat) ∧ e = .returned (.tuple #[vP d, vZ 0]))) := by
  refine V33 _ h _ ⟨fun l hq => l = [] ∧ hq = h ∧ 1 ≤ n ∧ n ≤ 4096, ⟨decide (n < 1 ∨ 4096 < n), ⟨fun hn => ⟨rfl, ?_⟩, fun hn => ⟨rfl, ?_⟩⟩, fun hB => .inl ⟨of_decide_eq_true hB, rfl, rfl⟩, fun hB => ⟨rfl, rfl, ?_, ?_⟩⟩, ?_⟩
  · have hn : n < 1 := by simpa using hn
    simp [hn]
  · have hn : ¬ n < 1 := by simpa using hn
    simp [hn]
  · have := of_decide_eq_false hB; omega
  · have := of_decide_eq_false hB; omega
  rintro h1 ⟨_, rfl, hn1, hn2⟩
  obtain ⟨m, rfl⟩ := Int.eq_ofNat_of_zero_le (show 0 ≤ n by omega)
  rintro b h2 rfl rfl
  refine ⟨fun l hq => ∃ i : Nat, i ≤ m ∧ l = [vI i] ∧ Grows h1 hq (List.replicate i zero512), fun l _ => (m - numAt l 0).toNat, ⟨0, Nat.zero_le _, rfl, Grows.start h1⟩, ?_⟩
  rintro x hq ⟨i, hi, hl, g⟩
  cases hl
  refine ⟨fun hc => ?_, fun hc => ?_⟩
  · have hc : i < m := by simp at hc; omega
    obtain ⟨p, c, hp, _⟩ := g.ex
    have sz := g.sz
    refine ⟨fun h' => h'[h1.size]? = hq[h1.size]?, rfl, _, _, _, fun h' (hc : h'[h1.size]? = hq[h1.size]?) => cellsAt_one (cellH_at (hc.trans hp)), (noughts_c hq).mono ?_⟩
    rintro e h3 ⟨x3, rfl⟩
    refine ⟨_, rfl, x3.old _ sz, g.push (by simp; omega) zero512 x3 (fun h' x => ?_) (fun h' B x hB => ?_) hp fun h' g' => ?_⟩
    · exact (x.old _ (Nat.lt_of_lt_of_le sz x3.size)).trans (x3.old _ sz)
    · exact (x.old _ (Nat.lt_of_lt_of_le sz x3.size) fun hb => Nat.lt_irrefl _ (hB _ hb)).trans (x3.old _ sz)
    · refine ⟨_, incI (by omega), ⟨i + 1, hc, rfl, ?_⟩, by simp only [numAt]; omega⟩
      rw [List.replicate_succ']; exact g'
  · have hc : i = m := by simp at hc; omega
    subst hc
    exact .inr ⟨hn1, hn2, h1.size, g.fresh (by simp; omega) (by simp; omega) (fun s hs => by rw [List.eq_of_mem_replicate hs]; exact zero512_size), rfl⟩

instance (image : ByteArray) : Decidable (LoadOk image) := by unfold LoadOk; infer_instance

/-- turnoutref04.Load -/
theorem rLoad_c (image : ByteArray) (himg : image.size ≤ 9223372036854775807) : CallsH Tryd.prog 26 #[.string image] h fun e h' => (¬ LoadOk image ∧ h' = h ∧ e = .returned (.tuple #[.pointer none, vZ 1])) ∨
    (LoadOk image ∧ ∃ d, RFresh h h' d (DS.fresh (chunks image)) ∧ e = .returned (.tuple #[vP d, vZ 0])) := by
  have hmod : Int.tmod (image.size : Int) 512 = ((image.size % 512 : Nat) : Int) := (Int.ofNat_tmod image.size 512).symm
  refine V26 _ h _ ⟨fun l hq => l = [] ∧ hq = h ∧ LoadOk image, ⟨decide (¬ LoadOk image), ⟨by decide, _, hmod, fun h1 => ⟨rfl, ?_⟩, fun h1 => ⟨fun h2 => ⟨rfl, ?_⟩, fun h2 => ⟨rfl, ?_⟩⟩⟩, fun hB => .inl ⟨of_decide_eq_true hB, rfl, rfl⟩, fun hB => ⟨rfl, rfl, ?_⟩⟩, ?_⟩
  · have h1 : ¬ image.size % 512 = 0 := by have := of_decide_eq_true h1; omega
    rw [decide_eq_true_eq]
    exact fun hok => h1 hok.1
  · have h2 : image.size = 0 := by have := of_decide_eq_true h2; omega
    rw [decide_eq_true_eq]
    exact fun hok => by have := hok.2.1; omega
  · have h1 : image.size % 512 = 0 := by have := of_decide_eq_false h1; omega
    have h2 : ¬ image.size = 0 := by have := of_decide_eq_false h2; omega
    apply decide_eq_decide.2
    constructor
    · intro hno
      have : ¬ image.size / 512 ≤ 4096 := fun h => hno ⟨h1, by omega, h⟩
      omega
    · intro hno hok
      have := hok.2.2
      omega
  · have hB := of_decide_eq_false hB
    exact Classical.byContradiction hB
  rintro h1 ⟨_, rfl, hok⟩
  obtain ⟨m, hm⟩ : ∃ m, m = image.size / 512 := ⟨_, rfl⟩
  have hm1 : image.size = m * 512 := by have := hok.1; omega
  have hm2 : 1 ≤ m ∧ m ≤ 4096 := by have := hok.2; omega
  have hcl : (chunks image).length = m := by simp [chunks, hm]
  rintro b h2 rfl rfl
  refine ⟨fun l hq => ∃ i : Nat, i ≤ m ∧ l = [vI (i * 512)] ∧ Grows h1 hq ((chunks image).take i), fun l _ => (image.size - numAt l 0).toNat, ⟨0, Nat.zero_le _, rfl, Grows.start h1⟩, ?_⟩
  rintro x hq ⟨i, hi, hl, g⟩
  cases hl
  have hil : ((chunks image).take i).length = i := by simp [hcl]; omega
  refine ⟨fun hc => ?_, fun hc => ?_⟩
  · have hc : i < m := by simp at hc; omega
    obtain ⟨p, c, hp, _⟩ := g.ex
    have sz := g.sz
    refine ⟨fun h' => h'[h1.size]? = hq[h1.size]?, rfl, _, _, _, fun h' (hc : h'[h1.size]? = hq[h1.size]?) => cellsAt_one (cellH_at (hc.trans hp)), ((i * 512 + 512 : Nat) : Int), by rw [wrapI64] <;> omega, i * 512, rfl, i * 512 + 512, rfl, by omega, by omega, _, rfl, ?_⟩
    refine g.push (by omega) _ (Ext.refl hq) (fun h' x => ?_) (fun h' B x hB => ?_) hp fun h' g' => ?_
    · exact x.old _ sz
    · exact x.old _ sz fun hb => Nat.lt_irrefl _ (hB _ hb)
    · refine ⟨((i * 512 + 512 : Nat) : Int), by rw [wrapI64] <;> omega, ⟨i + 1, hc, by rw [Nat.succ_mul], ?_⟩, by simp only [numAt]; omega⟩
      have e1 : (chunks image).take (i + 1) = (chunks image).take i ++ [image.extract (i * 512) (i * 512 + 512)] := by
        rw [List.take_add_one, List.getElem?_eq_getElem (by omega)]
        have h2 : (chunks image)[i]'(by omega) = image.extract (i * 512) (i * 512 + 512) := by simp only [chunks, List.getElem_map, List.getElem_range, Nat.succ_mul]
        rw [h2]; rfl
      rw [e1]; exact g'
  · have hc : i = m := by simp at hc; omega
    subst hc
    rw [List.take_of_length_le (by omega)] at g
    exact .inr ⟨hok, h1.size, g.fresh (by omega) (by omega) (fun s hs => chunks_size hs), rfl⟩

end
end Go.Vc

