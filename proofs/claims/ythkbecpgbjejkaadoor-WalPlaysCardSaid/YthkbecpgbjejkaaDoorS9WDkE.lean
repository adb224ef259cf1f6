/- Contracts of the disk's other methods, and of its makers. -/
import Derived.Test.YthkbecpgbjejkaaDoorS9WDkD
set_option maxRecDepth 10000
namespace Go.Vc
open Go Go.Proofs Go.MapKept

section
variable {h : Hp} {B : Nat → Prop} {d : Nat} {σ : DS}

/-- disk.Cut -/
theorem cut_c (D : DiskAt dI h B d σ) (n : Int) (hn : n ≤ 9223372036854775807) : CallsH Tryd.prog 31 #[vP d, vZ n] h fun e h' => Same B h h' ∧ h'.size = h.size ∧ DiskAt dI h' B d (σ.cut n) ∧ e = .returned (.tuple #[]) := by
  obtain ⟨w, D⟩ := D
  refine V31 _ _ h _ ⟨σ.gone, ⟨false, eqv_ptr uPD _, fun hf => (by cases hf), fun _ => ⟨d, 0, rfl, _, cellsAt_one (cellH_at D.cell), rfl, rfl⟩⟩, fun hg => ?_, fun hg => ?_⟩
  · unfold DS.cut
    rw [if_pos hg]
    exact ⟨Same.refl _ _, rfl, ⟨w, D⟩, rfl⟩
  · refine ⟨d, 0, rfl, rfl, D.wr (by decide), ?_⟩
    rintro h1 rfl
    obtain ⟨k, hk⟩ : ∃ k : Nat, k = (max n 0).toNat := ⟨_, rfl⟩
    have hk' : max n 0 = (k : Int) := by omega
    have hc : σ.cut n = { σ with plan := k } := by unfold DS.cut; rw [if_neg (by simp [hg]), hk]
    have ok := D.ok.cut n hn
    rw [hc] at ok ⊢
    rw [hk']
    have D1 := D.set (σ' := { σ with plan := k }) (k := 0 + 5) (v := vI k) rfl rfl rfl ok
    exact ⟨setsH_same D.bd, setsH_size, ⟨_, D1⟩, rfl⟩

theorem cut_nil (n : Int) : CallsH Tryd.prog 31 #[.pointer none, vZ n] h fun e h' => h' = h ∧ e = .returned (.tuple #[]) :=
  V31 _ _ h _ ⟨true, ⟨true, eqv_nil uPD, fun _ => ⟨rfl, rfl⟩, fun hf => (by cases hf)⟩, fun _ => ⟨rfl, rfl⟩, fun hf => (by cases hf)⟩

/-- disk.Off -/
theorem off_c (D : DiskAt dI h B d σ) : CallsH Tryd.prog 60 #[vP d] h fun e h' => h' = h ∧ e = .returned (.bool σ.gone) := by
  obtain ⟨w, D⟩ := D
  exact V60 _ h _ ⟨σ.gone, ⟨false, eqv_ptr uPD _, fun _ => ⟨d, 0, rfl, _, cellsAt_one (cellH_at D.cell), rfl, rfl⟩, fun hf => (by cases hf)⟩, rfl, rfl⟩

theorem off_nil : CallsH Tryd.prog 60 #[.pointer none] h fun e h' => h' = h ∧ e = .returned (.bool false) :=
  V60 _ h _ ⟨false, ⟨true, eqv_nil uPD, fun hf => (by cases hf), fun _ => ⟨rfl, rfl⟩⟩, rfl, rfl⟩

/-- disk.Size -/
theorem size_c (D : DiskAt dI h B d σ) : CallsH Tryd.prog 68 #[vP d] h fun e h' => h' = h ∧ e = .returned (vI σ.safe.length) := by
  obtain ⟨w, D⟩ := D
  exact V68 _ h _ ⟨false, eqv_ptr uPD _, fun hf => (by cases hf), fun _ => ⟨d, 0, rfl, _, _, _, cellsAt_one (cellH_at D.cell), rfl, rfl⟩⟩

theorem size_nil : CallsH Tryd.prog 68 #[.pointer none] h fun e h' => h' = h ∧ e = .returned (vI 0) :=
  V68 _ h _ ⟨true, eqv_nil uPD, fun _ => ⟨rfl, rfl⟩, fun hf => (by cases hf)⟩

theorem zerosStats : zeros Tryd.prog 48 = #[vI 0, vI 0, vI 0] := by kernel_rfl
theorem infoStats : ∃ i z, Tryd.prog.info? 48 = some i ∧ i.zero = some z := by
  have : ((Tryd.prog.info? 48).bind (·.zero)).isSome = true := by kernel_rfl
  obtain ⟨z, hz⟩ := Option.isSome_iff_exists.1 this
  obtain ⟨i, hi, hz⟩ := Option.bind_eq_some_iff.1 hz
  exact ⟨i, z, hi, hz⟩

/-- disk.Stats -/
theorem stats_c (D : DiskAt dI h B d σ) : CallsH Tryd.prog 22 #[vP d] h fun e h' => Ext h h' ∧ e = .returned (.agg #[vZ σ.reads, vZ σ.writes, vZ σ.flushes]) := by
  obtain ⟨w, D⟩ := D
  refine V22 _ h _ ?_
  rintro b h1 rfl rfl
  rw [zerosStats]
  have hx : Ext h (h.push (.cells #[vI 0, vI 0, vI 0] 48)) := Ext.push _ _
  have hc : (h.push (.cells #[vI 0, vI 0, vI 0] 48))[h.size]? = some (.cells #[vI 0, vI 0, vI 0] 48) := push_last
  have D1 := D.keep hx.size fun b hb => hx.old b (D.lt b hb)
  refine ⟨infoStats, false, eqv_ptr uPD _, fun hf => (by cases hf), fun _ => ⟨d, 0, rfl, σ.reads, σ.writes, σ.flushes, cellsAt_of D1.cell ?_, rfl, by simp [Value.oneCell'], wrAt_of hc (by decide) (.inl (Nat.zero_le _)), ?_⟩⟩
  · intro j hj
    have hj : j < 3 := hj
    match j, hj with
    | 0, _ => rfl
    | 1, _ => rfl
    | 2, _ => rfl
  · rintro h2 rfl
    have hc2 := setsH_at (vs := [vZ σ.reads, vZ σ.writes, vZ σ.flushes]) (o := 0) hc
    refine ⟨_, _, _, cellsAt_all (vs := [vZ σ.reads, vZ σ.writes, vZ σ.flushes]) hc2, ?_, rfl⟩
    exact hx.over (setsH_same (B := fun b => b = h.size) rfl) fun x hx => by rw [hx]; exact Nat.le_refl _

theorem stats_nil : CallsH Tryd.prog 22 #[.pointer none] h fun e h' => Ext h h' ∧ e = .returned (.agg #[vI 0, vI 0, vI 0]) := by
  refine V22 _ h _ ?_
  rintro b h1 rfl rfl
  rw [zerosStats]
  have hx : Ext h (h.push (.cells #[vI 0, vI 0, vI 0] 48)) := Ext.push _ _
  have hc : (h.push (.cells #[vI 0, vI 0, vI 0] 48))[h.size]? = some (.cells #[vI 0, vI 0, vI 0] 48) := push_last
  refine ⟨infoStats, true, eqv_nil uPD, fun _ => ⟨rfl, by simp [Value.oneCell'], wrAt_of hc (by decide) (.inl (Nat.zero_le _)), ?_⟩, fun hf => (by cases hf)⟩
  rintro h2 rfl
  have hc2 := setsH_at (vs := [vI 0, vI 0, vI 0]) (o := 0) hc
  refine ⟨_, _, _, cellsAt_all (vs := [vI 0, vI 0, vI 0]) hc2, ?_, rfl⟩
  exact hx.over (setsH_same (B := fun b => b = h.size) rfl) fun x hx => by rw [hx]; exact Nat.le_refl _

theorem oneI (l : List Nat) : ∀ v ∈ l.map vI, v.oneCell' = true := by
  intro v hv
  obtain ⟨_, _, rfl⟩ := List.mem_map.1 hv
  rfl

/-- disk.Pending -/
theorem pending_c (D : DiskAt dI h B d σ) (hlen : σ.pend.length ≤ 8796093022208) : CallsH Tryd.prog 24 #[vP d] h fun e h' => Ext h h' ∧ ∃ p c, e = .returned (.slice p σ.pend.length c) ∧ Own h' h.size 3 1 (.slice p σ.pend.length c) σ.pend.length ((σ.pend.map (·.1)).map vI) := by
  obtain ⟨w, D⟩ := D
  refine V24 _ h _ ⟨false, eqv_ptr uPD _, fun hf => (by cases hf), fun _ => ⟨d, 0, rfl, _, _, _, cellsAt_one (cellH_at D.cell), ?_⟩⟩
  refine semH_appendSeg rowI (Own.nil h h.size 3 1) D.order.seg ?_ (by omega) (by simp only [maxLen]; omega) (Nat.le_refl _) fun p' c' h' ho hg _ _ => ?_
  · intro v hv
    obtain ⟨x, _, rfl⟩ := List.mem_map.1 hv
    rfl
  · simp only [List.nil_append, Nat.zero_add] at ho ⊢
    refine ⟨⟨hg.size, fun b hb => hg.block b hb (by simp [Value.ownBlock])⟩, p', c', rfl, ?_⟩
    rw [List.map_map]; exact ho

theorem pending_nil : CallsH Tryd.prog 24 #[.pointer none] h fun e h' => h' = h ∧ e = .returned (.slice none 0 0) :=
  V24 _ h _ ⟨true, eqv_nil uPD, fun _ => ⟨rfl, rfl⟩, fun hf => (by cases hf)⟩

/-- The bytes of texts, one behind the other. -/
def flatB (l : List ByteArray) : List UInt8 := (l.map fun b => b.data.toList).flatten

theorem flatB_take {l : List ByteArray} {i : Nat} (hi : i < l.length) : flatB (l.take (i + 1)) = flatB (l.take i) ++ l[i].data.toList := by
  have : l.take (i + 1) = l.take i ++ [l[i]] := by rw [List.take_add_one, List.getElem?_eq_getElem hi]; rfl
  unfold flatB
  rw [this, List.map_append, List.flatten_append]
  simp only [List.map_cons, List.map_nil, List.flatten_cons, List.flatten_nil, List.append_nil]

theorem flatB_length {l : List ByteArray} (h : ∀ s ∈ l, s.size = 512) : (flatB l).length = l.length * 512 := by
  unfold flatB
  induction l with
  | nil => rfl
  | cons x r ih =>
    rw [List.map_cons, List.flatten_cons, List.length_append, ih (fun s hs => h s (by simp [hs])), List.length_cons]
    have : x.data.toList.length = 512 := by have := h x (by simp); simpa using this
    omega

theorem zeroB : (Tryd.prog.info? 5).bind (·.zero) = some (.int .u8 0) := by kernel_rfl
theorem zerosB : zeros Tryd.prog 5 = #[.int .u8 0] := by kernel_rfl
theorem zerosS : zeros Tryd.prog 9 = #[.string ⟨#[]⟩] := by kernel_rfl

/-- disk.Image -/
theorem image_c (D : DiskAt dI h B d σ) : CallsH Tryd.prog 63 #[vP d] h fun e h' => Ext h h' ∧ e = .returned (.string σ.image) := by
  obtain ⟨w, D⟩ := D
  have hl1 := D.ok.pos
  have hl2 := D.ok.most
  refine V63 _ h _ ⟨false, eqv_ptr uPD _, fun hf => (by cases hf), fun _ => ⟨d, 0, rfl, _, _, _, cellsAt_one (cellH_at D.cell), ((σ.safe.length * 512 : Nat) : Int), by rw [wrapI64] <;> omega, ?_⟩⟩
  refine semH_make rowB zerosB (l := 0) (Nat.zero_le _) (by omega) (by simp only [maxLen]; omega) ⟨_, _, _, rfl, ?_⟩
  have hx1 : Ext h (h.push (.cells (Array.replicate (σ.safe.length * 512) (.int .u8 0)) 5)) := Ext.push _ _
  have D1 := D.keep hx1.size fun b hb => hx1.old b (D.lt b hb)
  have ho1 : Own (h.push (.cells (Array.replicate (σ.safe.length * 512) (.int .u8 0)) 5)) h.size 5 1 (.slice (some ⟨h.size, 0, none⟩) 0 (σ.safe.length * 512)) 0 [] := own_made (z := .int .u8 0) (l := 0) (Nat.zero_le _) (by simp only [maxLen]; omega) (Nat.le_refl _)
  refine ⟨d, 0, rfl, _, _, _, cellsAt_one (cellH_at D1.cell), fun l hq => ∃ (i : Nat) (p : Option Addr) (n c : Nat), i ≤ σ.safe.length ∧ l = [.slice p n c, vI i] ∧ Own hq h.size 5 1 (.slice p n c) n (byteVs (flatB (σ.safe.take i))) ∧ Ext h hq,
    fun l _ => (σ.safe.length - numAt l 1).toNat, ⟨0, _, _, _, Nat.zero_le _, rfl, ho1, hx1⟩, ?_⟩
  rintro bp bn bc x hq ⟨i, p, n, c, hi, hl, ho, hx⟩
  cases hl
  have D2 := D.keep hx.size fun b hb => hx.old b (D.lt b hb)
  have hbn : bn = i * 512 := by
    have h1 := ho.len.2.1
    have h2 : (flatB (σ.safe.take i)).length = (σ.safe.take i).length * 512 := flatB_length fun s hs => D.ok.size s (List.mem_of_mem_take hs)
    simp only [byteVs, List.length_map] at h1
    rw [← h1, h2, List.length_take, Nat.min_eq_left hi]
  refine ⟨fun hc => ?_, fun hc => ?_⟩
  · have hc : i < σ.safe.length := by simp at hc; omega
    have h512 := D.ok.size _ (List.getElem_mem hc)
    refine D2.safe.seg.text hc (semH_appendStr rowB uStr zeroB ho (by simp only [maxLen]; omega) (by omega) hx.size fun p' c' h' ho' hg' _ _ => ?_)
    refine ⟨_, incI (by omega), ⟨i + 1, _, _, _, hc, rfl, ?_, hx.own ho (Nat.le_refl _) hg'⟩, by simp only [numAt]; omega⟩
    rw [flatB_take hc, byteVs, List.map_append]
    exact ho'
  · have hc : i = σ.safe.length := by simp at hc; omega
    subst hc
    rw [List.take_length] at ho
    exact semH_toText uBs uB uStr (t := σ.image) ho.seg ⟨_, rfl, hx, rfl⟩

theorem image_nil : CallsH Tryd.prog 63 #[.pointer none] h fun e h' => h' = h ∧ e = .returned (.string ⟨#[]⟩) :=
  V63 _ h _ ⟨true, eqv_nil uPD, fun _ => ⟨rfl, rfl⟩, fun hf => (by cases hf)⟩

/-- A new disk, of blocks of its own. -/
def Fresh (h h' : Hp) (d : Nat) (σ : DS) : Prop := Ext h h' ∧ DiskAt dI h' (fun b => h.size ≤ b ∧ b < h'.size) d σ

/-- disk.New -/
theorem new_c (n : Int) : CallsH Tryd.prog 19 #[vZ n] h fun e h' => (((n < 1 ∨ 4096 < n) ∧ h' = h ∧ e = .returned (.tuple #[.pointer none, vZ 1])) ∨
    (1 ≤ n ∧ n ≤ 4096 ∧ ∃ d, Fresh h h' d (DS.new n.toNat) ∧ e = .returned (.tuple #[vP d, vZ 0]))) := by
  refine V19 _ h _ ⟨fun l hq => l = [] ∧ hq = h ∧ 1 ≤ n ∧ n ≤ 4096, ⟨decide (n < 1 ∨ 4096 < n), ⟨fun hn => ⟨rfl, ?_⟩, fun hn => ⟨rfl, ?_⟩⟩, fun hB => .inl ⟨of_decide_eq_true hB, rfl, rfl⟩, fun hB => ⟨rfl, rfl, ?_, ?_⟩⟩, ?_⟩
  · have hn : n < 1 := by simpa using hn
    simp [hn]
  · have hn : ¬ n < 1 := by simpa using hn
    simp [hn]
  · have := of_decide_eq_false hB; omega
  · have := of_decide_eq_false hB; omega
  rintro h1 ⟨_, rfl, hn1, hn2⟩
  obtain ⟨m, rfl⟩ := Int.eq_ofNat_of_zero_le (show 0 ≤ n by omega)
  refine semH_make rowB zerosB (l := 512) (c := 512) (Nat.le_refl _) (by omega) (by simp only [maxLen]; omega) ⟨_, _, _, rfl, ?_⟩
  have ho2 : Own (h1.push (.cells (Array.replicate 512 (.int .u8 0)) 5)) h1.size 5 1 (.slice (some ⟨h1.size, 0, none⟩) 512 512) 512 (List.replicate 512 (.int .u8 0)) := own_made (z := .int .u8 0) (l := 512) (Nat.le_refl _) (by simp only [maxLen]; omega) (Nat.le_refl _)
  generalize hh2 : h1.push (.cells (Array.replicate 512 (.int .u8 0)) 5) = h2 at ho2
  have hx2 : Ext h1 h2 := by rw [← hh2]; exact Ext.push _ _
  have hbz : byteVs zero512.data.toList = List.replicate 512 (.int .u8 0) := List.map_replicate
  refine semH_toText uBs uB uStr (t := zero512) (by rw [hbz]; exact ho2.seg) ⟨_, rfl, ?_⟩
  refine semH_make rowS zerosS (l := m) (c := m) (Nat.le_refl _) (by omega) (by simp only [maxLen]; omega) ⟨_, _, _, rfl, ?_⟩
  rintro r h4 rfl rfl b h5 rfl rfl
  have ho3 : Own (h2.push (.cells (Array.replicate m (.string ⟨#[]⟩)) 9)) h2.size 9 1 (.slice (some ⟨h2.size, 0, none⟩) m m) m (List.replicate m (.string ⟨#[]⟩)) := own_made (z := .string ⟨#[]⟩) (l := m) (Nat.le_refl _) (by simp only [maxLen]; omega) (Nat.le_refl _)
  generalize hh3 : h2.push (.cells (Array.replicate m (.string ⟨#[]⟩)) 9) = h3 at ho3
  have hx3 : Ext h2 h3 := by rw [← hh3]; exact Ext.push _ _
  have hs3 : h3.size = h2.size + 1 := by rw [← hh3]; simp
  generalize hh4 : h3.push (.map #[] 0) = h4
  have hx4 : Ext h3 h4 := by rw [← hh4]; exact Ext.push _ _
  have hs4 : h4.size = h3.size + 1 := by rw [← hh4]; simp
  have hm4 : MapAt h4 h3.size [] := by rw [← hh4]; exact MapAt.new h3
  have hs2 : h2.size = h1.size + 1 := by rw [← hh2]; simp
  obtain ⟨w, hw⟩ : ∃ w : DW, w = ⟨some ⟨h2.size, 0, none⟩, m, h3.size, none, 0, none, 0, [], []⟩ := ⟨_, rfl⟩
  have hx0 : Ext h1 h4 := (hx2.trans hx3).trans hx4
  -- the state while the sectors are filled
  have inv : ∀ (hq : Hp) (L : List ByteArray), L.length = m → hq.size = h4.size + 1 → hq[h4.size]? = some (.cells (DS.cells (DS.fresh L) w).toArray 103) → Own hq 0 9 1 (.slice (some ⟨h2.size, 0, none⟩) m m) m (L.map Value.string) →
      (∀ b, b < h4.size → b ≠ h2.size → hq[b]? = h4[b]?) → (∀ s ∈ L, s.size = 512) → Fresh h1 hq h4.size (DS.fresh L) := by
    intro hq L hL hsz hcell hown hold h512
    refine ⟨⟨by omega, fun b hb => (hold b (by omega) (by omega)).trans (hx0.old b hb)⟩, w, ?_⟩
    subst hw
    refine { cell := hcell, safe := ?_, order := Own.nil _ _ _ _, lays := Own.nil _ _ _ _, caught := fun i hi => (by cases hi), map := hm4.congr (hold _ (by omega) (by omega)), now := NowOk.nil, bd := by omega, br := by show _ ≤ h3.size ∧ h3.size < _; omega, bs := ?_, bo := by simp [Value.ownBlock], bl := by simp [Value.ownBlock], bc := by simp, apart := by simp, lt := fun b hb => hb.2, ok := DS.Ok.fresh (by omega) (by omega) h512 }
    · show Own hq 0 9 1 (.slice (some ⟨h2.size, 0, none⟩) L.length m) L.length (L.map Value.string)
      rw [hL]; exact hown
    · intro b hb
      have : b = h2.size := by simp [Value.ownBlock] at hb; omega
      omega
  have hcell5 : (h4.push (.cells (DS.cells (DS.fresh (List.replicate m (⟨#[]⟩ : ByteArray))) w).toArray 103))[h4.size]? = some (.cells (DS.cells (DS.fresh (List.replicate m (⟨#[]⟩ : ByteArray))) w).toArray 103) := push_last
  have hcw : ∀ L : List ByteArray, L.length = m → DS.cells (DS.fresh L) w = [Value.slice (some ⟨h2.size, 0, none⟩) m m, .map (some h3.size), .slice none 0 0, .slice none 0 0, .bool false, vI 0, vZ 0, vZ 0, vZ 0] := fun L hL => by
    rw [hw]; simp only [DS.cells, DS.fresh, hL]; rfl
  rw [hcw _ (by simp)] at hcell5
  generalize hh5 : h4.push (.cells #[Value.slice (some ⟨h2.size, 0, none⟩) m m, .map (some h3.size), .slice none 0 0, .slice none 0 0, .bool false, vI 0, vI 0, vI 0, vI 0] 103) = h5
  have hcell5 : h5[h4.size]? = some (.cells [Value.slice (some ⟨h2.size, 0, none⟩) m m, .map (some h3.size), .slice none 0 0, .slice none 0 0, .bool false, vI 0, vZ 0, vZ 0, vZ 0].toArray 103) := by rw [← hh5]; exact push_last
  have hx5 : Ext h4 h5 := by rw [← hh5]; exact Ext.push _ _
  have hs5 : h5.size = h4.size + 1 := by rw [← hh5]; simp
  clear hh5
  refine ⟨_, _, _, cellsAt_one (cellH_at hcell5), fun l hq => ∃ i : Nat, i ≤ m ∧ l = [vI i] ∧ hq.size = h4.size + 1 ∧ hq[h4.size]? = some (.cells [Value.slice (some ⟨h2.size, 0, none⟩) m m, .map (some h3.size), .slice none 0 0, .slice none 0 0, .bool false, vI 0, vZ 0, vZ 0, vZ 0].toArray 103) ∧
      Own hq 0 9 1 (.slice (some ⟨h2.size, 0, none⟩) m m) m ((List.replicate i zero512 ++ List.replicate (m - i) (⟨#[]⟩ : ByteArray)).map Value.string) ∧ (∀ b, b < h4.size → b ≠ h2.size → hq[b]? = h4[b]?),
    fun l _ => (m - numAt l 0).toNat, ⟨0, Nat.zero_le _, rfl, hs5, hcell5, ?_, fun b hb _ => hx5.old b hb⟩, ?_⟩
  · have := ((ho3.ext hx4).ext hx5).rebase (base' := 0) fun _ _ => Nat.zero_le _
    simpa using this
  rintro x hq ⟨i, hi, hl, hsz, hcell, hown, hold⟩
  cases hl
  refine ⟨fun hc => ?_, fun hc => ?_⟩
  · have hc : i < m := by simp at hc; omega
    refine ⟨_, _, _, cellsAt_one (cellH_at hcell), hown.store hc rfl fun h' ho' hg' hsz' => ⟨_, incI (by omega), ⟨i + 1, hc, rfl, by omega, ?_, ?_, ?_⟩, by simp only [numAt]; omega⟩⟩
    · exact (hg'.block _ (by omega) (by simp [Value.ownBlock]; omega)).trans hcell
    · have e : (List.replicate i zero512 ++ List.replicate (m - i) (⟨#[]⟩ : ByteArray)).set i zero512 = List.replicate (i + 1) zero512 ++ List.replicate (m - (i + 1)) ⟨#[]⟩ := by
        rw [List.set_append_right _ _ (by simp), List.length_replicate, Nat.sub_self, show m - i = m - (i + 1) + 1 by omega, List.replicate_succ, List.set_cons_zero, List.replicate_succ', List.append_assoc]; rfl
      rw [← e, List.map_set]; exact ho'
    · intro b hb hne
      exact (hg'.block b (by omega) (by simp [Value.ownBlock]; omega)).trans (hold b hb hne)
  · have hc : i = m := by simp at hc; omega
    subst hc
    rw [Nat.sub_self] at hown
    simp only [List.replicate_zero, List.append_nil] at hown
    refine .inr ⟨hn1, hn2, h4.size, inv hq (List.replicate i zero512) (by simp) hsz ?_ hown hold (fun s hs => ?_), rfl⟩
    · rw [hcw _ (by simp)]; exact hcell
    · rw [List.eq_of_mem_replicate hs]; exact zero512_size


/-- An image's sectors. -/
def chunks (image : ByteArray) : List ByteArray := (List.range (image.size / 512)).map fun i => image.extract (i * 512) ((i + 1) * 512)

def LoadOk (image : ByteArray) : Prop := image.size % 512 = 0 ∧ 1 ≤ image.size / 512 ∧ image.size / 512 ≤ 4096

theorem chunks_size {image : ByteArray} {s : ByteArray} (hs : s ∈ chunks image) : s.size = 512 := by
  obtain ⟨i, hi, rfl⟩ := List.mem_map.1 hs
  have := List.mem_range.1 hi
  rw [ByteArray.size_extract]
  have h2 : (i + 1) * 512 ≤ image.size := by
    have := Nat.mul_le_mul_right 512 (show i + 1 ≤ image.size / 512 by omega)
    omega
  omega

/-- disk.Load -/
theorem load_c (image : ByteArray) (himg : image.size ≤ 9223372036854775807) : CallsH Tryd.prog 25 #[.string image] h fun e h' => (¬ LoadOk image ∧ h' = h ∧ e = .returned (.tuple #[.pointer none, vZ 1])) ∨
    (LoadOk image ∧ ∃ d, Fresh h h' d (DS.fresh (chunks image)) ∧ e = .returned (.tuple #[vP d, vZ 0])) := by
  obtain ⟨n, hn⟩ : ∃ n, n = image.size / 512 := ⟨_, rfl⟩
  have hdv : IntKind.i64.wrap (Int.tdiv (image.size : Int) 512) = (n : Int) := by
    have : Int.tdiv (image.size : Int) 512 = ((image.size / 512 : Nat) : Int) := (Int.ofNat_tdiv image.size 512).symm
    rw [this, wrapI64] <;> omega
  refine V25 _ h _ ⟨by decide, (n : Int), hdv, ((n * 512 : Nat) : Int), by rw [wrapI64] <;> omega, fun hne => ?_, fun heq => ?_⟩
  · have hne : ¬ n * 512 = image.size := by simp at hne; omega
    exact .inl ⟨fun hok => by have := hok.1; omega, rfl, rfl⟩
  have heq : n * 512 = image.size := by simp at heq; omega
  refine (new_c (n : Int)).mono ?_
  rintro e h1 (⟨hbad, rfl, rfl⟩ | ⟨hn1, hn2, d, ⟨hx1, w, D1⟩, rfl⟩)
  · refine ⟨_, _, rfl, fun _ => .inl ⟨fun hok => ?_, rfl, rfl⟩, fun hf => (by simp at hf)⟩
    have := hok.2
    omega
  refine ⟨_, _, rfl, fun hf => (by simp at hf), fun _ => ?_⟩
  have hok : LoadOk image := ⟨by omega, by omega, by omega⟩
  have hlen : (DS.new n).safe.length = n := by simp [DS.new, DS.fresh]
  rw [Int.toNat_natCast] at D1
  refine ⟨d, 0, rfl, _, _, _, cellsAt_one (cellH_at D1.cell), fun l hq => ∃ i : Nat, i ≤ n ∧ l = [vI i] ∧ hq.size = h1.size ∧ Ext h hq ∧ DiskIs dI hq (fun b => h.size ≤ b ∧ b < h1.size) d (DS.fresh ((chunks image).take i ++ List.replicate (n - i) zero512)) w,
    fun l _ => (n - numAt l 0).toNat, ⟨0, Nat.zero_le _, rfl, rfl, hx1, by simpa [DS.new] using D1⟩, ?_⟩
  rintro x hq ⟨i, hi, hl, hsz, hx, D⟩
  cases hl
  have hcl : (chunks image).length = n := by simp [chunks, hn]
  have hl2 : (DS.fresh ((chunks image).take i ++ List.replicate (n - i) zero512)).safe.length = n := by simp [DS.fresh, hcl]; omega
  refine ⟨fun hc => ?_, fun hc => ?_⟩
  · have hc : i < n := by rw [hlen] at hc; simp at hc; omega
    have hb2 : (i + 1) * 512 ≤ image.size := by
      have := Nat.mul_le_mul_right 512 (show i + 1 ≤ n by omega)
      omega
    refine ⟨d, 0, rfl, _, _, _, cellsAt_one (cellH_at D.cell), ((i * 512 : Nat) : Int), by rw [wrapI64] <;> omega, _, incI (by omega), (((i + 1) * 512 : Nat) : Int), by rw [wrapI64] <;> omega, i * 512, rfl, (i + 1) * 512, rfl, by omega, hb2, _, rfl, ?_⟩
    refine D.safe.store (by rw [hl2]; exact hc) rfl fun h' ho hg hsz' => ⟨_, incI (by omega), ⟨i + 1, hc, rfl, hsz'.trans hsz, ?_, ?_⟩, by simp only [numAt]; omega⟩
    · refine hx.over (hg.same (fun b => h.size ≤ b) fun b hb => (D.bs b hb).1) fun x h => h
    · have e : ((chunks image).take i ++ List.replicate (n - i) zero512).set i (image.extract (i * 512) ((i + 1) * 512)) = (chunks image).take (i + 1) ++ List.replicate (n - (i + 1)) zero512 := by
        have h1 : ((chunks image).take i).length = i := by simp [hcl]; omega
        rw [List.set_append_right _ _ (by omega), h1, Nat.sub_self, show n - i = n - (i + 1) + 1 by omega, List.replicate_succ, List.set_cons_zero, List.take_add_one, List.getElem?_eq_getElem (by omega)]
        have h2 : (chunks image)[i]'(by omega) = image.extract (i * 512) ((i + 1) * 512) := by simp [chunks]
        rw [h2]; simp
      have := D.laid (safe := (chunks image).take (i + 1) ++ List.replicate (n - (i + 1)) zero512) (by rw [hl2]; simp [hcl]; omega) ?_ ?_ hg
      · exact this
      · intro s hs
        rcases List.mem_append.1 hs with hs | hs
        · exact chunks_size (List.mem_of_mem_take hs)
        · rw [List.eq_of_mem_replicate hs]; exact zero512_size
      · rw [← e, List.map_set]; exact ho
  · have hc : i = n := by rw [hlen] at hc; simp at hc; omega
    subst hc
    refine .inr ⟨hok, d, ⟨hx, w, ?_⟩, rfl⟩
    rw [Nat.sub_self, List.replicate_zero, List.append_nil, List.take_of_length_le (by omega)] at D
    rw [hsz]
    exact D

end
end Go.Vc
