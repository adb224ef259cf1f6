/- Contracts of the disk's functions. -/
import Derived.Test.YthkbecpgbjejkaaDoorS9WV
import Derived.Test.YthkbecpgbjejkaaDoorDkM
set_option maxRecDepth 10000
namespace Go.Vc
open Go Go.Proofs Go.MapKept

abbrev dI : DIds := ⟨9, 3, 110, 103, 80⟩
theorem dG : dI.Good := ⟨by decide, by decide, by decide, by decide, by decide, by decide⟩
theorem uPD : Tryd.prog.underlying 41 = some (.pointer 103) := by kernel_rfl
theorem rowI : RowT Tryd.prog 52 3 1 8 := RowT.of (by kernel_rfl)
theorem rowL : RowT Tryd.prog 101 110 1 8 := RowT.of (by kernel_rfl)
theorem rowS : RowT Tryd.prog 32 9 1 16 := RowT.of (by kernel_rfl)
theorem rowB : RowT Tryd.prog 71 5 1 1 := RowT.of (by kernel_rfl)
theorem mapD : MapT Tryd.prog 100 3 9 (.int .i64) (.string ⟨#[]⟩) := ⟨by kernel_rfl, by kernel_rfl, by kernel_rfl⟩
theorem uStr : Tryd.prog.underlying 9 = some .string := by kernel_rfl
theorem uBs : Tryd.prog.underlying 71 = some (.slice 5) := by kernel_rfl
theorem uB : Tryd.prog.underlying 5 = some (.int .u8) := by kernel_rfl

section
variable {h : Hp} {B : Nat → Prop} {d : Nat} {σ : DS}

/-- A field of the disk's own is set. -/
theorem DiskIs.set {w : DW} (D : DiskIs dI h B d σ w) {σ' : DS} {k : Nat} {v : Value} (hc : (σ.cells w).set k v = σ'.cells w) (hs : σ'.safe = σ.safe) (hp : σ'.pend = σ.pend) (ok : σ'.Ok) : DiskIs dI (setsH h d k [v]) B d σ' w := by
  have N := D.ne dG
  have k' : ∀ b, b ≠ d → (setsH h d k [v])[b]? = h[b]? := fun b hb => setsH_ne hb
  refine ⟨?_, ?_, ?_, ?_, ?_, ?_, ?_, D.bd, D.br, ?_, ?_, ?_, D.bc, ?_, ?_, ok⟩
  · rw [setsH_at D.cell]
    simp only [layC, List.setIfInBounds_toArray, hc]
  · rw [hs]; exact D.safe.keep fun b hb => k' b (N.2.1 b hb)
  · rw [hp]; exact D.order.keep fun b hb => k' b (N.2.2.1 b hb)
  · rw [hp]; exact D.lays.keep fun b hb => k' b (N.2.2.2.1 b hb)
  · rw [hp]
    intro i hi
    obtain ⟨c, h1, h2, h3⟩ := D.caught i hi
    have := N.2.2.2.2 i hi c h1
    exact ⟨c, h1, (k' _ this.1).trans h2, (k' _ this.2).trans h3⟩
  · exact D.map.congr (k' _ N.1)
  · rw [hp]; exact D.now
  · rw [hs]; exact D.bs
  · rw [hp]; exact D.bo
  · rw [hp]; exact D.bl
  · rw [hp, hs]; exact D.apart
  · intro b hb; rw [setsH_size]; exact D.lt b hb

/-- disk.asked -/
theorem asked_c (D : DiskAt dI h B d σ) (n : Int) : CallsH Tryd.prog 66 #[vP d, vZ n] h fun e h' => h' = h ∧ e = .returned (vZ (σ.asked n)) := by
  obtain ⟨w, D⟩ := D
  refine V66 _ _ h _ ⟨false, eqv_ptr uPD _, fun hf => (by cases hf), fun _ => ⟨d, 0, rfl, _, cellsAt_one (cellH_at D.cell), fun hg => ?_, fun hg => ?_⟩⟩
  · exact ⟨rfl, by simp [DS.asked, hg]⟩
  · refine ⟨decide (n < 0 ∨ (σ.safe.length : Int) ≤ n), ⟨fun hn => ⟨rfl, ?_⟩, fun hn => ⟨d, 0, rfl, _, _, _, cellsAt_one (cellH_at D.cell), rfl, ?_⟩⟩, fun hB => ⟨rfl, ?_⟩, fun hB => ⟨rfl, ?_⟩⟩
    · have hn : n < 0 := by simpa using hn
      simp [hn]
    · have hn : ¬ n < 0 := by simpa using hn
      simp [hn]
    · have hB := of_decide_eq_true hB
      unfold DS.asked
      rw [if_neg (by simp [hg]), if_pos hB]
    · have hB := of_decide_eq_false hB
      unfold DS.asked
      rw [if_neg (by simp [hg]), if_neg hB]

theorem asked_nil (n : Int) : CallsH Tryd.prog 66 #[.pointer none, vZ n] h fun e h' => h' = h ∧ e = .returned (vZ 1) :=
  V66 _ _ h _ ⟨true, eqv_nil uPD, fun _ => ⟨rfl, rfl⟩, fun hf => by cases hf⟩

/-- disk.step -/
theorem step_c {w : DW} (D : DiskIs dI h B d σ w) (hg : σ.gone = false) : CallsH Tryd.prog 67 #[vP d] h fun e h' => Same B h h' ∧ h'.size = h.size ∧ DiskIs dI h' B d σ.stepped w ∧ e = .returned (.bool (!σ.stepped.gone)) := by
  refine V67 _ h _ ⟨d, 0, rfl, _, cellsAt_one (cellH_at D.cell), fun h0 => ?_, fun h0 => ?_⟩
  · have h0 : σ.plan = 0 := by simp at h0; omega
    refine ⟨Same.refl _ _, rfl, ?_, ?_⟩
    · unfold DS.stepped; rw [if_pos h0]; exact D
    · unfold DS.stepped; rw [if_pos h0, hg]; rfl
  · have h0 : σ.plan ≠ 0 := by simp at h0; omega
    have hpl := D.ok.plan
    refine ⟨d, 0, rfl, _, cellsAt_one (cellH_at D.cell), ((σ.plan - 1 : Nat) : Int), by rw [wrapI64] <;> omega, d, 0, rfl, rfl, D.wr (by decide), ?_⟩
    rintro h1 rfl
    have D1 := D.set (σ' := { σ with plan := σ.plan - 1 }) (k := 0 + 5) (v := vI (σ.plan - 1)) rfl rfl rfl ⟨D.ok.pos, D.ok.most, D.ok.size, D.ok.pend, by show σ.plan - 1 ≤ _; omega⟩
    refine ⟨d, 0, rfl, _, cellsAt_one (cellH_at D1.cell), d, 0, rfl, rfl, D1.wr (by decide), ?_⟩
    rintro h2 rfl
    have he : decide (((σ.plan - 1 : Nat) : Int) = 0) = decide (σ.plan = 1) := by
      apply decide_eq_decide.2; omega
    have hst : σ.stepped = { σ with plan := σ.plan - 1, gone := decide (σ.plan = 1) } := by
      unfold DS.stepped; rw [if_neg h0]
    have D2 := D1.set (σ' := σ.stepped) (k := 0 + 4) (v := .bool (decide (((σ.plan - 1 : Nat) : Int) = 0))) (by rw [he, hst]; rfl) (by rw [hst]) (by rw [hst]) D.ok.stepped
    refine ⟨d, 0, rfl, _, cellsAt_one (cellH_at D2.cell), ?_, ?_, D2, rfl⟩
    · exact (setsH_same D.bd).trans (setsH_same D.bd) fun _ h _ => h
    · rw [setsH_size, setsH_size]

/-- disk.kept -/
theorem kept_c (f : Int × Int) : CallsH Tryd.prog 47 #[.agg #[vZ f.1, vZ f.2]] h fun e h' => Ext h h' ∧ e = .returned (vI (keptN f)) := by
  refine V47 _ _ h _ ?_
  rintro b h1 rfl rfl
  have hc : (h.push (.cells #[vZ f.1, vZ f.2] 113))[h.size]? = some (.cells #[vZ f.1, vZ f.2] 113) := push_last
  refine ⟨_, cellsAt_one (cellH_at hc), fun h1 => ⟨Ext.push _ _, ?_⟩, fun h1 => ⟨fun h2 => ⟨_, cellsAt_one (cellH_at hc), Ext.push _ _, ?_⟩, fun h2 => ⟨Ext.push _ _, ?_⟩⟩⟩
  · have h1 : f.1 = 1 := by simpa using h1
    simp [keptN, h1]
  · have h1 : ¬ f.1 = 1 := by simpa using h1
    have h2 : f.1 = 2 := by simpa using h2
    have : (((min (max f.2 0) 512).toNat : Nat) : Int) = min (max f.2 0) 512 := by omega
    simp [keptN, h2, this]
  · have h1 : ¬ f.1 = 1 := by simpa using h1
    have h2 : ¬ f.1 = 2 := by simpa using h2
    simp [keptN, h1, h2]

/-- The safe bytes are laid over. -/
theorem DiskIs.laid {w : DW} (D : DiskIs dI h B d σ w) {h' : Hp} {safe : List ByteArray} (hl : safe.length = σ.safe.length) (hz : ∀ s ∈ safe, s.size = 512)
    (ho : Own h' 0 9 1 (.slice w.ps σ.safe.length w.cs) σ.safe.length (safe.map Value.string)) (g : Grown h h' (Value.slice w.ps σ.safe.length w.cs).ownBlock) : DiskIs dI h' B d { σ with safe := safe } w := by
  have N := D.ne dG
  have k : ∀ b, b < h.size → (∀ q, (Value.slice w.ps σ.safe.length w.cs).ownBlock = some q → b ≠ q) → h'[b]? = h[b]? := fun b hb hn => g.block b hb fun e => hn b e.symm rfl
  have hcells : DS.cells { σ with safe := safe } w = σ.cells w := by simp only [DS.cells, hl]
  have other : ∀ (b : Nat) (o : Obj), h[b]? = some o → (∀ cur, o ≠ Obj.cells cur 9) → h'[b]? = h[b]? := by
    intro b o hb hne
    refine k b (Array.getElem?_eq_some_iff.1 hb).1 fun q hq e => ?_
    subst e
    obtain ⟨cur, hc⟩ := D.safe.blk hq
    rw [hb] at hc
    exact hne cur (Option.some.inj hc)
  refine ⟨?_, ?_, ?_, ?_, ?_, ?_, D.now, D.bd, D.br, ?_, D.bo, D.bl, D.bc, ?_, fun b hb => Nat.lt_of_lt_of_le (D.lt b hb) g.size, ⟨by show 1 ≤ safe.length; rw [hl]; exact D.ok.pos, by show safe.length ≤ _; rw [hl]; exact D.ok.most, hz, by show ∀ x ∈ σ.pend, x.1 < safe.length ∧ _; rw [hl]; exact D.ok.pend, D.ok.plan⟩⟩
  · rw [hcells, k d (D.lt d D.bd) fun q hq e => N.2.1 q hq e.symm]; exact D.cell
  · show Own h' 0 9 1 (.slice w.ps safe.length w.cs) safe.length _
    rw [hl]; exact ho
  · refine D.order.keep fun b hb => ?_
    obtain ⟨cur, hc⟩ := D.order.blk hb
    exact other b _ hc fun cur' e => by injection e with _ e; exact dG.si e.symm
  · refine D.lays.keep fun b hb => ?_
    obtain ⟨cur, hc⟩ := D.lays.blk hb
    exact other b _ hc fun cur' e => by injection e with _ e; exact dG.sl e.symm
  · intro i hi
    obtain ⟨c, h1, h2, h3⟩ := D.caught i hi
    refine ⟨c, h1, (other _ _ h2 fun cur' e => by injection e with _ e; exact dG.si e.symm).trans h2, ?_⟩
    refine (k c.2 (Array.getElem?_eq_some_iff.1 h3).1 fun q hq e => (D.apart c (List.mem_of_getElem? h1)).2 (by rw [hq, e])).trans h3
  · obtain ⟨es, cl, hm, he⟩ := D.map
    exact ⟨es, cl, (other _ _ hm fun _ e => by cases e).trans hm, he⟩
  · show ∀ b, (Value.slice w.ps safe.length w.cs).ownBlock = some b → B b
    rw [hl]; exact D.bs
  · show ∀ c ∈ w.cv, _ ∧ (Value.slice w.ps safe.length w.cs).ownBlock ≠ some c.2
    rw [hl]; exact D.apart

/-- The function that lays a write down. -/
theorem close_c {w : DW} (D : DiskIs dI h B d σ w) {i : Nat} (hi : i < σ.pend.length) {c : Nat × Nat} (hc : w.cv[i]? = some c) {k : Nat} (hk : k ≤ 512) :
    CallsH Tryd.prog 80 #[.slice w.ps σ.safe.length w.cs, vI k, vP c.2, vP c.1] h fun e h' => Same B h h' ∧ h'.size = h.size ∧ DiskIs dI h' B d { σ with safe := layD σ.safe σ.pend[i] k } w ∧ e = .returned (.tuple #[]) := by
  obtain ⟨c', h1, h2, h3⟩ := D.caught i hi
  rw [hc] at h1
  cases h1
  obtain ⟨hn, hs⟩ := D.ok.pend _ (List.getElem_mem hi)
  have hx : (σ.safe[σ.pend[i].1]).size = 512 := D.ok.size _ (List.getElem_mem _)
  refine V80 _ _ _ _ _ _ h _ ⟨c.1, 0, rfl, _, cellsAt_one (cellH_at h2), c.2, 0, rfl, _, cellsAt_one (cellH_at h3), k, rfl, Nat.zero_le _, by omega, _, rfl, c.1, 0, rfl, _, cellsAt_one (cellH_at h2), ?_⟩
  refine D.safe.seg.text hn ⟨k, rfl, by omega, Nat.le_refl _, _, rfl, by rw [ByteArray.size_extract, ByteArray.size_extract]; omega, _, rfl, ?_⟩
  refine D.safe.store hn (by rfl) fun h' ho hg hsz => ?_
  have e : layD σ.safe σ.pend[i] k = σ.safe.set σ.pend[i].1 (layT σ.safe[σ.pend[i].1] σ.pend[i].2 k) := layD_set hn
  refine ⟨hg.same B D.bs, hsz, ?_, rfl⟩
  refine D.laid (layD_length _ _ _) (layD_size D.ok.size hs hk) ?_ hg
  rw [e, List.map_set]
  exact ho

/-- disk.forget -/
theorem forget_c {w : DW} (D : DiskIs dI h B d σ w) : CallsH Tryd.prog 48 #[vP d] h fun e h' => Same B h h' ∧ h'.size = h.size ∧ DiskIs dI h' B d { σ with pend := [] } { w with po := none, co := 0, pl := none, cl := 0, l := [], cv := [] } ∧ e = .returned (.tuple #[]) := by
  have N := D.ne dG
  refine V48 _ h _ ⟨d, 0, rfl, _, cellsAt_one (cellH_at D.cell), semH_clearMap mapD D.map fun h1 hm1 hs1 ho1 => ⟨rfl, ?_⟩⟩
  have c1 : h1[d]? = some (.cells (σ.cells w).toArray 103) := (ho1 d N.1.symm).trans D.cell
  refine ⟨d, 0, rfl, rfl, wrAt_of c1 (show 2 + 1 ≤ 9 by decide) (.inl (Nat.zero_le _)), ?_⟩
  rintro h2 rfl
  have c2 := setsH_at (vs := [Value.slice none 0 0]) (o := 0 + 2) c1
  refine ⟨d, 0, rfl, rfl, wrAt_of c2 (show 3 + 1 ≤ 9 by decide) (.inl (Nat.zero_le _)), ?_⟩
  rintro h3 rfl
  have c3 := setsH_at (vs := [Value.slice none 0 0]) (o := 0 + 3) c2
  have k : ∀ b, b ≠ d → b ≠ w.r → (setsH (setsH h1 d (0 + 2) [Value.slice none 0 0]) d (0 + 3) [Value.slice none 0 0])[b]? = h[b]? := fun b hb hr => by
    rw [setsH_ne hb, setsH_ne hb]; exact ho1 b hr
  have hsz : (setsH (setsH h1 d (0 + 2) [Value.slice none 0 0]) d (0 + 3) [Value.slice none 0 0]).size = h.size := by rw [setsH_size, setsH_size, hs1]
  refine ⟨⟨Nat.le_of_eq hsz.symm, fun b _ hb => k b (fun e => hb (e ▸ D.bd)) fun e => hb (e ▸ D.br)⟩, hsz, ⟨c3, ?_, Own.nil _ _ _ _, Own.nil _ _ _ _, by simp, ?_, NowOk.nil, D.bd, D.br, D.bs, by simp [Value.ownBlock], by simp [Value.ownBlock], by simp, by simp, fun b hb => by rw [hsz]; exact D.lt b hb, ⟨D.ok.pos, D.ok.most, D.ok.size, by simp, D.ok.plan⟩⟩, rfl⟩
  · refine D.safe.keep fun b hb => k b (N.2.1 b hb) fun e => ?_
    obtain ⟨cur, hc⟩ := D.safe.blk hb
    obtain ⟨es, cl, hm, _⟩ := D.map
    rw [e, hm] at hc; cases hc
  · exact hm1.congr (by rw [setsH_ne N.1, setsH_ne N.1])

end
end Go.Vc
