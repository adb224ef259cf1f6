/- Contracts of the document's disk: Crash, New, Load. -/
import Derived.Test.YthkbecpgbjejkaaDoorS9WRfC
set_option maxRecDepth 10000
namespace Go.Vc
open Go Go.Proofs Go.MapKept

section
variable {h : Hp} {B : Nat → Prop} {d : Nat} {σ : DS}

/-- turnoutref04.Crash -/
theorem rCrash_c (D : RefAt rI h B d σ) (fates : List (Int × Int)) {p : Option Addr} {n c : Nat} (hf : SegS h p n 2 (fates.map fateV)) (hB : ∀ b o, p = some ⟨b, o, none⟩ → fates ≠ [] → ¬ B b) :
    CallsH Tryd.prog 55 #[vP d, .slice p n c] h fun e h' => Same B h h' ∧ RefAt rI h' B d (σ.crash fates) ∧ e = .returned (.tuple #[]) := by
  obtain ⟨w, D⟩ := D
  have hfl : fates.length = n := by have := hf.1; simpa using this
  have hmax := D.wait.max
  refine V55 _ _ _ _ h _ ⟨fun l hq => l = [] ∧ Same B h hq ∧ RefIs rI hq B d (σ.with (layFates σ.safe σ.pend fates)) w,
    ⟨fun l hq => ∃ i : Nat, i ≤ σ.pend.length ∧ i ≤ fates.length ∧ l = [vI i] ∧ Same B h hq ∧ RefIs rI hq B d (σ.with (layFates σ.safe (σ.pend.take i) fates)) w, fun l _ => (σ.pend.length - numAt l 0).toNat,
      ⟨0, Nat.zero_le _, Nat.zero_le _, rfl, Same.refl _ _, D⟩, ?_⟩, ?_⟩
  · rintro x hq ⟨i, hi, hif, hl, hsm, D3⟩
    cases hl
    refine ⟨fun l hr => l = [] ∧ hr = hq ∧ i < σ.pend.length ∧ i < fates.length, ⟨decide (i < σ.pend.length ∧ i < fates.length), ⟨d, 0, rfl, _, _, _, cellsAt_one (cellH_at D3.cell), fun hc => ⟨rfl, ?_⟩, fun hc => ⟨rfl, ?_⟩⟩, fun hB => ⟨rfl, rfl, of_decide_eq_true hB⟩, fun hB => ⟨rfl, hsm, ?_⟩⟩, ?_⟩
    · have hc : i < σ.pend.length := by
        have : decide ((i : Int) < (σ.pend.length : Int)) = true := hc
        simp at this; omega
      apply decide_eq_decide.2; omega
    · have hc : ¬ i < σ.pend.length := by
        have : decide ((i : Int) < (σ.pend.length : Int)) = false := hc
        simp at this; omega
      rw [decide_eq_false_iff_not]; omega
    · have hB := of_decide_eq_false hB
      by_cases h1 : i = σ.pend.length
      · subst h1
        rw [List.take_length] at D3; exact D3
      · have : fates.length ≤ i := by omega
        rw [layFates_short this] at D3; exact D3
    rintro hr ⟨_, rfl, hip, hif'⟩
    obtain ⟨b2, o2, hp2, h20, h2n, hc2⟩ := D3.seg.at (i := i) (by show i < (List.map waitV σ.pend).length; simpa using hip)
    have hc2 : cellsAt hr b2 (o2 + Int.toNat (i : Int) * 2) [vI σ.pend[i].1, .string σ.pend[i].2] := by
      have e : ((σ.with (layFates σ.safe (σ.pend.take i) fates)).pend.map waitV)[i]'(by show i < (List.map waitV σ.pend).length; simpa using hip) = waitV σ.pend[i] := by
        show (List.map waitV σ.pend)[i]'(by simpa using hip) = _
        rw [List.getElem_map]
      rw [e] at hc2; exact hc2
    refine ⟨d, 0, rfl, _, _, _, cellsAt_one (cellH_at D3.cell), b2, o2, hp2, h20, h2n, _, _, hc2, ?_⟩
    rintro b3 h2 rfl rfl
    rw [zerosW]
    have x2 : Ext hr (hr.push (.cells #[vI 0, .string ⟨#[]⟩] 141)) := Ext.push _ _
    have cc2 : (hr.push (.cells #[vI 0, .string ⟨#[]⟩] 141))[hr.size]? = some (.cells #[vI 0, .string ⟨#[]⟩] 141) := push_last
    generalize (hr.push (.cells #[vI 0, .string ⟨#[]⟩] 141)) = h2 at x2 cc2
    refine ⟨infoW, rfl, by simp [Value.oneCell'], wrAt_of cc2 (by decide) (.inl (Nat.zero_le _)), ?_⟩
    rintro h3 hh3
    have cc3 := setsH_at (vs := [vI σ.pend[i].1, Value.string σ.pend[i].2]) (o := 0) cc2
    rw [← hh3] at cc3
    have x3 : Ext hr h3 := by
      refine x2.over ?_ (fun x hx => hx) (B := fun b => hr.size ≤ b)
      rw [hh3]; exact setsH_same (Nat.le_refl _)
    clear hh3
    have D4 : RefIs rI h3 B d (σ.with (layFates σ.safe (σ.pend.take i) fates)) w := D3.keep x3.size fun b hb => x3.old b (D3.lt b hb)
    have hsm3 : Same B h h3 := hsm.trans (x3.same B) fun _ h _ => h
    have hfq : SegS h3 p n 2 (fates.map fateV) := hf.keep fun b o hp hne => hsm3.old b (hf.block (by decide) hp hne) (hB b o hp fun e => hne (by rw [e]; rfl))
    obtain ⟨b4, o4, hp4, h40, h4n, hget⟩ := hfq.get (i := i) (by simpa using hif')
    rw [List.getElem_map] at hget
    have l0 := hget 0 _ rfl
    have l1 := hget 1 _ rfl
    refine ⟨fun l hs => l = [vI (keptN fates[i])] ∧ hs = h3, ⟨b4, o4, hp4, h40, h4n, _, l0, fun h1 => ⟨?_, rfl⟩, fun h1 => ⟨fun h2 => ⟨b4, o4, hp4, h40, h4n, _, l1, ?_, rfl⟩, fun h2 => ⟨?_, rfl⟩⟩⟩, ?_⟩
    · have h1 : fates[i].1 = 1 := by simpa using h1
      simp [keptN, h1]
    · have h1 : ¬ fates[i].1 = 1 := by simpa using h1
      have h2 : fates[i].1 = 2 := by simpa using h2
      have : (((min (max fates[i].2 0) 512).toNat : Nat) : Int) = min (max fates[i].2 0) 512 := by omega
      simp [keptN, h2, this]
    · have h1 : ¬ fates[i].1 = 1 := by simpa using h1
      have h2 : ¬ fates[i].1 = 2 := by simpa using h2
      simp [keptN, h1, h2]
    rintro kk h4 ⟨hl, rfl⟩
    cases hl
    have hk := keptN_le fates[i]
    obtain ⟨hpn, hps⟩ := D.ok.pend _ (List.getElem_mem hip)
    have hlen := (layFates_ok (σ.pend.take i) fates σ.safe D.ok.size fun x hx => (D.ok.pend x (List.mem_of_mem_take hx)).2)
    have hn4 : σ.pend[i].1 < (σ.with (layFates σ.safe (σ.pend.take i) fates)).safe.length := by show _ < (layFates _ _ _).length; rw [hlen.2]; exact hpn
    have hx : ((layFates σ.safe (σ.pend.take i) fates)[σ.pend[i].1]'hn4).size = 512 := hlen.1 _ (List.getElem_mem _)
    refine ⟨d, 0, rfl, _, _, _, cellsAt_one (cellH_at D4.cell), _, cellsAt_one (cellH_at cc3), _, cellsAt_one (cellH_at cc3), keptN fates[i], rfl, Nat.zero_le _, by omega, _, rfl, d, 0, rfl, _, _, _, cellsAt_one (cellH_at D4.cell), _, cellsAt_one (cellH_at cc3), ?_⟩
    refine D4.safe.seg.text hn4 ⟨keptN fates[i], rfl, by show _ ≤ ((layFates σ.safe (σ.pend.take i) fates)[σ.pend[i].1]'hn4).size; omega, Nat.le_refl _, _, rfl, ?_, _, rfl, ?_⟩
    · rw [ByteArray.size_extract, ByteArray.size_extract]
      have : ((σ.with (layFates σ.safe (σ.pend.take i) fates)).safe[σ.pend[i].1]'hn4).size = 512 := hx
      omega
    · refine D4.safe.store hn4 rfl fun h' ho hgr hszz => ⟨_, incI (by omega), ⟨i + 1, hip, hif', rfl, hsm3.trans (hgr.same B D4.bs) fun _ h _ => h, ?_⟩, by simp only [numAt]; omega⟩
      rw [layFates_take hip hif']
      have hlay : layD (layFates σ.safe (σ.pend.take i) fates) σ.pend[i] (keptN fates[i]) = (layFates σ.safe (σ.pend.take i) fates).set σ.pend[i].1 (layT ((layFates σ.safe (σ.pend.take i) fates)[σ.pend[i].1]'hn4) σ.pend[i].2 (keptN fates[i])) := layD_set hn4
      exact D4.laid rG (safe := layD (layFates σ.safe (σ.pend.take i) fates) σ.pend[i] (keptN fates[i])) (layD_length _ _ _) (layD_size hlen.1 hps hk) (by rw [hlay, List.map_set]; exact ho) hgr
  · rintro hq ⟨_, hsm, D3⟩
    refine ⟨d, 0, rfl, rfl, D3.wr (by decide), ?_⟩
    rintro h4 hh4
    have D4 := D3.clear hh4
    have hsm4 : Same B h h4 := by subst hh4; exact hsm.trans (setsH_same D3.bd) fun _ h _ => h
    clear hh4
    refine ⟨d, 0, rfl, rfl, D4.wr (by decide), ?_⟩
    rintro h5 rfl
    have D5 := D4.set rG (σ' := { (σ.with (layFates σ.safe σ.pend fates)) with pend := [], gone := false }) (k := 0 + 2) (v := .bool false) rfl rfl rfl ⟨D4.ok.pos, D4.ok.most, D4.ok.size, D4.ok.pend, D4.ok.plan⟩ (fun h => by cases h)
    refine ⟨d, 0, rfl, rfl, D5.wr (by decide), ?_⟩
    rintro h6 rfl
    have D6 := D5.set rG (σ' := σ.crash fates) (k := 0 + 3) (v := vI 0) rfl rfl rfl (D.ok.crash fates) (fun _ => rfl)
    exact ⟨(hsm4.trans (setsH_same D4.bd) fun _ h _ => h).trans (setsH_same D4.bd) fun _ h _ => h, ⟨_, D6⟩, rfl⟩

theorem noughts_c (h : Hp) : CallsH Tryd.prog 49 #[] h fun e h' => Ext h h' ∧ e = .returned (.string zero512) := by
  refine V49 h _ ?_
  refine semH_make rowB zerosB (l := 512) (c := 512) (Nat.le_refl _) (by omega) (by simp only [maxLen]; omega) ⟨_, _, _, rfl, ?_⟩
  have ho2 : Own (h.push (.cells (Array.replicate 512 (.int .u8 0)) 5)) h.size 5 1 (.slice (some ⟨h.size, 0, none⟩) 512 512) 512 (List.replicate 512 (.int .u8 0)) := own_made (z := .int .u8 0) (l := 512) (Nat.le_refl _) (by simp only [maxLen]; omega) (Nat.le_refl _)
  have hbz : byteVs zero512.data.toList = List.replicate 512 (.int .u8 0) := List.map_replicate
  exact semH_toText uBs uB uStr (t := zero512) (by rw [hbz]; exact ho2.seg) ⟨_, rfl, Ext.push _ _, rfl⟩

/-- A new one, of blocks of its own. -/
def RFresh (h h' : Hp) (d : Nat) (σ : DS) : Prop := Ext h h' ∧ RefAt rI h' (fun b => h.size ≤ b ∧ b < h'.size) d σ

/-- What holds while sectors are laid behind one another. -/
structure Grows (h hq : Hp) (L : List ByteArray) : Prop where
  x : Ext h hq
  sz : h.size < hq.size
  ex : ∃ (p : Option Addr) (c : Nat), hq[h.size]? = some (.cells [Value.slice p L.length c, .slice none 0 0, .bool false, vI 0, vZ 0, vZ 0, vZ 0].toArray 106) ∧ Own hq h.size 9 1 (.slice p L.length c) L.length (L.map Value.string)

theorem Grows.fresh {hq : Hp} {L : List ByteArray} (g : Grows h hq L) (h1 : 1 ≤ L.length) (h2 : L.length ≤ 4096) (h3 : ∀ s ∈ L, s.size = 512) : RFresh h hq h.size (DS.fresh L) := by
  obtain ⟨x, sz, p, c, hc, ho⟩ := g
  refine ⟨x, ⟨p, c, none, 0⟩, { cell := hc, safe := ho.rebase fun _ _ => Nat.zero_le _, wait := Own.nil _ _ _ _, bd := ⟨Nat.le_refl _, sz⟩, bs := fun b hb => ?_, bw := by simp [Value.ownBlock], lt := fun b hb => hb.2, ok := DS.Ok.fresh h1 h2 h3, off := fun h => (by cases h) }⟩
  exact ho.lt hb

/-- A sector more, behind what else was made. -/
theorem Grows.push {hq : Hp} {L : List ByteArray} (g : Grows h hq L) (hl : L.length ≤ 4096) (s : ByteArray) {C : Hp → Prop} {h2 : Hp} (x2 : Ext hq h2) (hC1 : ∀ h', Ext h2 h' → C h') (hC2 : ∀ h' B, Same B h2 h' → (∀ b, B b → h.size < b) → C h') {p : Option Addr} {c : Nat} (hp : hq[h.size]? = some (.cells [Value.slice p L.length c, .slice none 0 0, .bool false, vI 0, vZ 0, vZ 0, vZ 0].toArray 106))
    {K : Hp → Prop} (hK : ∀ h', Grows h h' (L ++ [s]) → K h') :
    SemH Tryd.prog (Instr.buildSlice 32 1 #[(0, .string s)]) h2 fun v_ h3 => ∃ (p1 : Option Addr) (n1 c1 : Nat), v_ = (Value.slice p1 n1 c1) ∧ C h3 ∧
      SemH Tryd.prog (Builtin.append_ #[32, 32] 32 #[.slice p L.length c, .slice p1 n1 c1]) h3 fun v_1 h4 => ∃ (p2 : Option Addr) (n2 c2 : Nat), v_1 = (Value.slice p2 n2 c2) ∧ C h4 ∧
        Value.oneCell' (Value.slice p2 n2 c2) = true ∧ wrAt h4 h.size (0 + 0) 1 ∧ ∀ h5, h5 = setsH h4 h.size (0 + 0) [Value.slice p2 n2 c2] → K h5 := by
  obtain ⟨x, sz, p', c', hc, ho⟩ := g
  rw [hp] at hc
  injection hc with hc
  injection hc with hc _
  have hc : p = p' ∧ c = c' := by simpa using hc
  obtain ⟨rfl, rfl⟩ := hc
  have ho2 := ho.ext x2
  have hp2 := (x2.old _ sz).trans hp
  have s2 := x2.size
  have hne : ∀ b, (Value.slice p L.length c).ownBlock = some b → h.size < b := fun b hb => by
    have h1 := (ho.lt hb).1
    obtain ⟨cur, hcur⟩ := ho.blk hb
    refine Nat.lt_of_le_of_ne h1 fun e => ?_
    rw [← e, hp] at hcur; injection hcur with hcur; injection hcur with _ hcur; exact rG.sr hcur.symm
  have s0 := x.size
  refine semH_pushC rowS ho2 (vs := [.string s]) (m := 1) rfl rfl (by simp) (by simp) (by simp [Value.oneCell']) (by omega) (by simp only [maxLen]; omega) (by omega) hC1 (fun h' g => hC2 h' _ (g.same (fun b => h.size < b) hne) fun b hb => hb) fun p3 c3 h3 ho3 hg3 _ hb3 => ?_
  have hs3 := hg3.size
  have hp3 := (hg3.block h.size (by omega) fun e => Nat.lt_irrefl _ (hne _ e.symm)).trans hp2
  refine ⟨rfl, wrAt_of hp3 (show 0 + 0 + 1 ≤ 7 by decide) (.inl (Nat.zero_le _)), ?_⟩
  rintro h5 hh5
  have hc5 := setsH_at (vs := [Value.slice p3 (L.length + 1) c3]) (o := 0 + 0) hp3
  rw [← hh5] at hc5
  have s5 : h5.size = h3.size := by rw [hh5]; exact setsH_size
  have o5 : ∀ b, b ≠ h.size → h5[b]? = h3[b]? := fun b hb => by rw [hh5]; exact setsH_ne hb
  refine hK h5 ⟨⟨by omega, fun b hb => ?_⟩, by omega, p3, c3, ?_, ?_⟩
  · rw [o5 b (by omega), hg3.block b (by omega) (fun e => by have := hne b e.symm; omega), x2.old b (by omega)]
    exact x.old b hb
  · rw [hc5, List.length_append]; rfl
  · rw [List.length_append, List.map_append]
    refine ho3.keep fun b hb => o5 b fun e => ?_
    rcases hb3 with he | ⟨q, he, hq⟩
    · rw [he] at hb; have := hne b hb; omega
    · rw [he] at hb; cases hb; omega

theorem Grows.start (h : Hp) : Grows h (h.push (.cells #[Value.slice none 0 0, .slice none 0 0, .bool false, vI 0, vI 0, vI 0, vI 0] 106)) [] :=
  ⟨Ext.push _ _, by simp, none, 0, push_last, Own.nil _ _ _ _⟩

/-- turnoutref04.New -/
theorem rNew_c (n : Int) : CallsH Tryd.prog 33 #[vZ n] h fun e h' => (((n < 1 ∨ 4096 < n) ∧ h' = h ∧ e = .returned (.tuple #[.pointer none, vZ 1])) ∨
    (1 ≤ n ∧ n ≤ 4096 ∧ ∃ d, RFresh h h' d (DS.new n.toNat) ∧ e = .returned (.tuple #[vP d, vZ 0]))) := by
  refine V33 _ h _ ⟨fun l hq => l = [] ∧ hq = h ∧ 1 ≤ n ∧ n ≤ 4096, ⟨decide (n < 1 ∨ 4096 < n), ⟨fun hn => ⟨rfl, ?_⟩, fun hn => ⟨rfl, ?_⟩⟩, fun hB => .inl ⟨of_decide_eq_true hB, rfl, rfl⟩, fun hB => ⟨rfl, rfl, ?_, ?_⟩⟩, ?_⟩
  · have hn : n < 1 := by simpa using hn
    simp [hn]
  · have hn : ¬ n < 1 := by simpa using hn
    simp [hn]
  · have := of_decide_eq_false hB; omega
  · have := of_decide_eq_false hB; omega
  rintro h1 ⟨_, rfl, hn1, hn2⟩
  obtain ⟨m, rfl⟩ := Int.eq_ofNat_of_zero_le (show 0 ≤ n by omega)
  rintro b h2 rfl rfl
  refine ⟨fun l hq => ∃ i : Nat, i ≤ m ∧ l = [vI i] ∧ Grows h1 hq (List.replicate i zero512), fun l _ => (m - numAt l 0).toNat, ⟨0, Nat.zero_le _, rfl, Grows.start h1⟩, ?_⟩
  rintro x hq ⟨i, hi, hl, g⟩
  cases hl
  refine ⟨fun hc => ?_, fun hc => ?_⟩
  · have hc : i < m := by simp at hc; omega
    obtain ⟨p, c, hp, _⟩ := g.ex
    have sz := g.sz
    refine ⟨fun h' => h'[h1.size]? = hq[h1.size]?, rfl, _, _, _, fun h' (hc : h'[h1.size]? = hq[h1.size]?) => cellsAt_one (cellH_at (hc.trans hp)), (noughts_c hq).mono ?_⟩
    rintro e h3 ⟨x3, rfl⟩
    refine ⟨_, rfl, x3.old _ sz, g.push (by simp; omega) zero512 x3 (fun h' x => ?_) (fun h' B x hB => ?_) hp fun h' g' => ?_⟩
    · exact (x.old _ (Nat.lt_of_lt_of_le sz x3.size)).trans (x3.old _ sz)
    · exact (x.old _ (Nat.lt_of_lt_of_le sz x3.size) fun hb => Nat.lt_irrefl _ (hB _ hb)).trans (x3.old _ sz)
    · refine ⟨_, incI (by omega), ⟨i + 1, hc, rfl, ?_⟩, by simp only [numAt]; omega⟩
      rw [List.replicate_succ']; exact g'
  · have hc : i = m := by simp at hc; omega
    subst hc
    exact .inr ⟨hn1, hn2, h1.size, g.fresh (by simp; omega) (by simp; omega) (fun s hs => by rw [List.eq_of_mem_replicate hs]; exact zero512_size), rfl⟩

instance (image : ByteArray) : Decidable (LoadOk image) := by unfold LoadOk; infer_instance

/-- turnoutref04.Load -/
theorem rLoad_c (image : ByteArray) (himg : image.size ≤ 9223372036854775807) : CallsH Tryd.prog 26 #[.string image] h fun e h' => (¬ LoadOk image ∧ h' = h ∧ e = .returned (.tuple #[.pointer none, vZ 1])) ∨
    (LoadOk image ∧ ∃ d, RFresh h h' d (DS.fresh (chunks image)) ∧ e = .returned (.tuple #[vP d, vZ 0])) := by
  have hmod : Int.tmod (image.size : Int) 512 = ((image.size % 512 : Nat) : Int) := (Int.ofNat_tmod image.size 512).symm
  refine V26 _ h _ ⟨fun l hq => l = [] ∧ hq = h ∧ LoadOk image, ⟨decide (¬ LoadOk image), ⟨by decide, _, hmod, fun h1 => ⟨rfl, ?_⟩, fun h1 => ⟨fun h2 => ⟨rfl, ?_⟩, fun h2 => ⟨rfl, ?_⟩⟩⟩, fun hB => .inl ⟨of_decide_eq_true hB, rfl, rfl⟩, fun hB => ⟨rfl, rfl, ?_⟩⟩, ?_⟩
  · have h1 : ¬ image.size % 512 = 0 := by have := of_decide_eq_true h1; omega
    rw [decide_eq_true_eq]
    exact fun hok => h1 hok.1
  · have h2 : image.size = 0 := by have := of_decide_eq_true h2; omega
    rw [decide_eq_true_eq]
    exact fun hok => by have := hok.2.1; omega
  · have h1 : image.size % 512 = 0 := by have := of_decide_eq_false h1; omega
    have h2 : ¬ image.size = 0 := by have := of_decide_eq_false h2; omega
    apply decide_eq_decide.2
    constructor
    · intro hno
      have : ¬ image.size / 512 ≤ 4096 := fun h => hno ⟨h1, by omega, h⟩
      omega
    · intro hno hok
      have := hok.2.2
      omega
  · have hB := of_decide_eq_false hB
    exact Classical.byContradiction hB
  rintro h1 ⟨_, rfl, hok⟩
  obtain ⟨m, hm⟩ : ∃ m, m = image.size / 512 := ⟨_, rfl⟩
  have hm1 : image.size = m * 512 := by have := hok.1; omega
  have hm2 : 1 ≤ m ∧ m ≤ 4096 := by have := hok.2; omega
  have hcl : (chunks image).length = m := by simp [chunks, hm]
  rintro b h2 rfl rfl
  refine ⟨fun l hq => ∃ i : Nat, i ≤ m ∧ l = [vI (i * 512)] ∧ Grows h1 hq ((chunks image).take i), fun l _ => (image.size - numAt l 0).toNat, ⟨0, Nat.zero_le _, rfl, Grows.start h1⟩, ?_⟩
  rintro x hq ⟨i, hi, hl, g⟩
  cases hl
  have hil : ((chunks image).take i).length = i := by simp [hcl]; omega
  refine ⟨fun hc => ?_, fun hc => ?_⟩
  · have hc : i < m := by simp at hc; omega
    obtain ⟨p, c, hp, _⟩ := g.ex
    have sz := g.sz
    refine ⟨fun h' => h'[h1.size]? = hq[h1.size]?, rfl, _, _, _, fun h' (hc : h'[h1.size]? = hq[h1.size]?) => cellsAt_one (cellH_at (hc.trans hp)), ((i * 512 + 512 : Nat) : Int), by rw [wrapI64] <;> omega, i * 512, rfl, i * 512 + 512, rfl, by omega, by omega, _, rfl, ?_⟩
    refine g.push (by omega) _ (Ext.refl hq) (fun h' x => ?_) (fun h' B x hB => ?_) hp fun h' g' => ?_
    · exact x.old _ sz
    · exact x.old _ sz fun hb => Nat.lt_irrefl _ (hB _ hb)
    · refine ⟨((i * 512 + 512 : Nat) : Int), by rw [wrapI64] <;> omega, ⟨i + 1, hc, by rw [Nat.succ_mul], ?_⟩, by simp only [numAt]; omega⟩
      have e1 : (chunks image).take (i + 1) = (chunks image).take i ++ [image.extract (i * 512) (i * 512 + 512)] := by
        rw [List.take_add_one, List.getElem?_eq_getElem (by omega)]
        have h2 : (chunks image)[i]'(by omega) = image.extract (i * 512) (i * 512 + 512) := by simp only [chunks, List.getElem_map, List.getElem_range, Nat.succ_mul]
        rw [h2]; rfl
      rw [e1]; exact g'
  · have hc : i = m := by simp at hc; omega
    subst hc
    rw [List.take_of_length_le (by omega)] at g
    exact .inr ⟨hok, h1.size, g.fresh (by omega) (by omega) (fun s hs => chunks_size hs), rfl⟩

end
end Go.Vc
