/- Contracts of the disk's methods: Read, Write, Flush, Crash. -/
import Derived.Test.YthkbecpgbjejkaaDoorS9WDkC
set_option maxRecDepth 10000
namespace Go.Vc
open Go Go.Proofs Go.MapKept

section
variable {h : Hp} {B : Nat → Prop} {d : Nat} {σ : DS}

theorem ikey (n : Int) : IsKey (.int .i64) (vZ n) := rfl

theorem looked {w : DW} (D : DiskIs dI h B d σ w) {n : Int} (h0 : 0 ≤ n) {s : ByteArray} {j : Nat} (hj : w.l[j]? = some (vZ n, .string s)) : σ.look n.toNat = s := by
  have : (vI n.toNat, Value.string s) ∈ w.l := by
    show (Value.int .i64 ((n.toNat : Nat) : Int), Value.string s) ∈ w.l
    rw [show ((n.toNat : Nat) : Int) = n by omega]; exact List.mem_of_getElem? hj
  unfold DS.look
  rw [(D.now.get _ _).1 this]; rfl

/-- disk.Read -/
theorem read_c (D : DiskAt dI h B d σ) (n : Int) : CallsH Tryd.prog 69 #[vP d, vZ n] h fun e h' => Same B h h' ∧ h'.size = h.size ∧ DiskAt dI h' B d (σ.read n).1 ∧ e = .returned (.tuple #[.string (σ.read n).2.1, vZ (σ.read n).2.2]) := by
  obtain ⟨w, D⟩ := D
  refine V69 _ _ h _ ((asked_c ⟨w, D⟩ n).mono ?_)
  rintro e h1 ⟨rfl, rfl⟩
  refine ⟨_, rfl, fun hne => ?_, fun heq => ?_⟩
  · have hne : ¬ σ.asked n = 0 := by simpa using hne
    unfold DS.read
    rw [if_neg hne]
    exact ⟨Same.refl _ _, rfl, ⟨w, D⟩, rfl⟩
  · have heq : σ.asked n = 0 := by simpa using heq
    obtain ⟨hg, hn0, hn1⟩ := DS.asked_zero heq
    refine ⟨d, 0, rfl, _, cellsAt_one (cellH_at D.cell), _, rfl, d, 0, rfl, rfl, D.wr (by decide), ?_⟩
    rintro h2 rfl
    have D2 := D.set (σ' := { σ with reads := inc64 σ.reads }) (k := 0 + 6 + 0) (v := vZ (inc64 σ.reads)) rfl rfl rfl ⟨D.ok.pos, D.ok.most, D.ok.size, D.ok.pend, D.ok.plan⟩
    have hr : σ.read n = ({ σ with reads := inc64 σ.reads }, σ.look n.toNat, 0) := by unfold DS.read; rw [if_pos heq]
    have hsame : Same B h1 (setsH h1 d (0 + 6 + 0) [vZ (inc64 σ.reads)]) := setsH_same D.bd
    have hsz : (setsH h1 d (0 + 6 + 0) [vZ (inc64 σ.reads)]).size = h1.size := setsH_size
    rw [hr]
    refine ⟨d, 0, rfl, _, cellsAt_one (cellH_at D2.cell), semH_lookup mapD D2.map D2.now.isKey (ikey _) (fun hno => ⟨_, _, rfl, fun hf => (by cases hf), fun _ => ?_⟩) fun v j hj => ?_⟩
    · refine ⟨d, 0, rfl, _, _, _, cellsAt_one (cellH_at D2.cell), ?_⟩
      obtain ⟨m, rfl⟩ := Int.eq_ofNat_of_zero_le hn0
      have hm : m < σ.safe.length := by omega
      refine D2.safe.seg.text hm ⟨hsame, hsz, ⟨w, D2⟩, ?_⟩
      have hl : lastOf σ.pend m = none := by
        cases hx : lastOf σ.pend m with
        | none => rfl
        | some s => exact (hno _ ((D2.now.get m s).2 hx) rfl).elim
      have : σ.look ((m : Int).toNat) = σ.safe[m] := by
        rw [Int.toNat_natCast]
        unfold DS.look
        rw [hl]
        simp [List.getD, hm]
      rw [this]
    · obtain ⟨m, s, hms⟩ := D2.now.keys _ (List.mem_of_getElem? hj)
      cases hms
      refine ⟨s, true, rfl, fun _ => ⟨hsame, hsz, ⟨w, D2⟩, ?_⟩, fun hf => (by cases hf)⟩
      have : σ.look (((m : Int)).toNat) = s := looked (n := (m : Int)) D2 hn0 hj
      rw [this]

theorem read_nil (n : Int) : CallsH Tryd.prog 69 #[.pointer none, vZ n] h fun e h' => h' = h ∧ e = .returned (.tuple #[.string ⟨#[]⟩, vZ 1]) := by
  refine V69 _ _ h _ ((asked_nil n).mono ?_)
  rintro e h1 ⟨rfl, rfl⟩
  exact ⟨_, rfl, fun _ => ⟨rfl, rfl⟩, fun hf => (by simp at hf)⟩

/-- disk.Write -/
theorem write_c (D : DiskAt dI h B d σ) (n : Int) (s : ByteArray) (hlen : σ.pend.length ≤ 8796093022208) :
    CallsH Tryd.prog 56 #[vP d, vZ n, .string s] h fun e h' => Same B h h' ∧ DiskAt dI h' (GrowB B h h') d (σ.write n s).1 ∧ e = .returned (vZ (σ.write n s).2) := by
  obtain ⟨w, D⟩ := D
  refine V56 _ _ _ h _ ?_
  rintro bn h1 rfl rfl bs h2 rfl rfl
  generalize hh2 : (h.push (.cells #[vZ n] 3)).push (.cells #[Value.string s] 9) = h2
  have hx2 : Ext h h2 := by rw [← hh2]; exact (Ext.push _ _).trans (Ext.push _ _)
  have hsz2 : h2.size = h.size + 2 := by rw [← hh2]; simp
  have cn2 : h2[h.size]? = some (.cells #[vZ n] 3) := by
    rw [← hh2]; exact ((Ext.push (h.push (.cells #[vZ n] 3)) (.cells #[Value.string s] 9)).old h.size (by simp)).trans push_last
  have hs1 : (h.push (.cells #[vZ n] 3)).size = h.size + 1 := by simp
  have cs2 : h2[h.size + 1]? = some (.cells #[.string s] 9) := by
    rw [← hh2, ← hs1]; exact push_last
  rw [hs1]
  have D2 : DiskIs dI h2 B d σ w := D.keep hx2.size fun b hb => hx2.old b (D.lt b hb)
  refine ⟨_, cellsAt_one (cellH_at cn2), (asked_c ⟨w, D2⟩ n).mono ?_⟩
  rintro e h3 ⟨rfl, rfl⟩
  refine ⟨_, rfl, fun hne => ?_, fun heq => ⟨_, cellsAt_one (cellH_at cs2), fun hne => ?_, fun hsize => ?_⟩⟩
  · have hne : ¬ σ.asked n = 0 := by simpa using hne
    unfold DS.write
    rw [if_neg hne]
    exact ⟨hx2.same B, ⟨w, D2.more (fun b hb => .inl hb) (GrowB.lt D.lt hx2.size)⟩, rfl⟩
  · have heq : σ.asked n = 0 := by simpa using heq
    have hne : ¬ s.size = 512 := by simp at hne; omega
    unfold DS.write
    rw [if_pos heq, if_neg hne]
    exact ⟨hx2.same B, ⟨w, D2.more (fun b hb => .inl hb) (GrowB.lt D.lt hx2.size)⟩, rfl⟩
  have heq : σ.asked n = 0 := by simpa using heq
  have hsize : s.size = 512 := by simp at hsize; omega
  obtain ⟨hg, hn0, hn1⟩ := DS.asked_zero heq
  obtain ⟨m, rfl⟩ := Int.eq_ofNat_of_zero_le hn0
  have hm : m < σ.safe.length := by omega
  refine (step_c D2 hg).mono ?_
  rintro e h4 ⟨hsm4, hsz4, D4, rfl⟩
  have hsm : Same B h h4 := (hx2.same B).trans hsm4 fun _ h _ => h
  refine ⟨_, rfl, fun hgo => ?_, fun hgo => ?_⟩
  · have hgo : σ.stepped.gone = true := by simpa using hgo
    unfold DS.write
    rw [if_pos heq, if_pos hsize, if_pos hgo]
    exact ⟨hsm, ⟨w, D4.more (fun b hb => .inl hb) (GrowB.lt D.lt hsm.size)⟩, rfl⟩
  have hgo : σ.stepped.gone = false := by simpa using hgo
  have hw : σ.write (m : Int) s = ({ σ.stepped with pend := σ.pend ++ [(m, s)], writes := inc64 σ.writes }, 0) := by
    unfold DS.write
    rw [if_pos heq, if_pos hsize, if_neg (by simp [hgo]), Int.toNat_natCast]
  rw [hw]
  obtain ⟨e1, e2, e3, e4, e5⟩ := σ.stepped_safe
  obtain ⟨τ, hτ⟩ : ∃ τ, τ = σ.stepped := ⟨_, rfl⟩
  rw [← hτ] at D4 e1 e2 e4 hgo ⊢
  rw [← e2, ← e4]
  rw [← e1] at hm
  have hlen' : τ.pend.length ≤ 8796093022208 := by rw [e2]; exact hlen
  clear hw
  have N := D4.ne dG
  have cn4 : h4[h.size]? = some (.cells #[vI m] 3) := (hsm4.old _ (by omega) fun hb => by have := D.lt _ hb; omega).trans cn2
  have cs4 : h4[h.size + 1]? = some (.cells #[.string s] 9) := (hsm4.old _ (by omega) fun hb => by have := D.lt _ hb; omega).trans cs2
  refine ⟨d, 0, rfl, _, cellsAt_one (cellH_at D4.cell), _, cellsAt_one (cellH_at cn4), _, cellsAt_one (cellH_at cs4), ?_⟩
  -- the map
  have hmap : ∀ {R : Unit → Hp → Prop}, (∀ h' l', MapAt h' w.r l' → NowOk l' (τ.pend ++ [(m, s)]) → h'.size = h4.size → (∀ b, b ≠ w.r → h'[b]? = h4[b]?) → R () h') → SemH Tryd.prog (Instr.mapUpdate 100 (.map (some w.r)) (vI m) (.string s)) h4 R := by
    intro R hR
    by_cases hin : ∀ x ∈ w.l, x.1 ≠ vI m
    · exact semH_mapNew mapD D4.map D4.now.isKey (ikey _) hin fun h' hm' hs' ho' => hR h' _ hm' (D4.now.new hin) hs' ho'
    · obtain ⟨x, hx, hxm⟩ : ∃ x ∈ w.l, x.1 = vI m := by
        refine Classical.byContradiction fun hno => hin fun x hx hxm => hno ⟨x, hx, hxm⟩
      have hx' : (vI m, x.2) ∈ w.l := by rw [← hxm]; exact hx
      exact semH_mapOld mapD D4.map D4.now.isKey (ikey _) hx' fun h' j u hj hm' hs' ho' => hR h' _ hm' (D4.now.old hj) hs' ho'
  refine hmap fun h5 l' hm5 hnow5 hsz5 ho5 => ?_
  have blk : ∀ {b : Nat} {t : TypeId} {cur : Array Value} {fz : Nat × Nat}, h4[b]? = some (.cells cur t fz) → b ≠ w.r := by
    intro b t cur fz hb e
    obtain ⟨es, cl, hm, _⟩ := D4.map
    rw [e, hm] at hb; cases hb
  have c5 : h5[d]? = some (.cells (τ.cells w).toArray 103) := (ho5 d N.1.symm).trans D4.cell
  have own5 : Own h5 0 3 1 (.slice w.po τ.pend.length w.co) τ.pend.length (τ.pend.map fun x => vI x.1) := D4.order.keep fun b hb => by
    obtain ⟨cur, hc⟩ := D4.order.blk hb
    exact ho5 b (blk hc)
  have cn5 : h5[h.size]? = some (.cells #[vI m] 3) := (ho5 _ (blk cn4)).trans cn4
  have cs5 : h5[h.size + 1]? = some (.cells #[.string s] 9) := (ho5 _ (blk cs4)).trans cs4
  have po_ne : ∀ b, (Value.slice w.po τ.pend.length w.co).ownBlock = some b → b ≠ d := N.2.2.1
  have hd5 : d < h5.size := (Array.getElem?_eq_some_iff.1 c5).1
  refine ⟨fun h' => h'[d]? = some (.cells (τ.cells w).toArray 103), c5, d, 0, rfl, _, _, _, fun h' (hc : h'[d]? = some _) => cellsAt_one (cellH_at hc), _, cellsAt_one (cellH_at cn5), ?_⟩
  refine semH_pushC rowI own5 (vs := [vI m]) (m := 1) rfl rfl (by simp) (by simp) (by simp [Value.oneCell']) (by omega) (by simp only [maxLen]; omega) (Nat.zero_le _) (fun h' x => (x.old d hd5).trans c5) (fun h' g => (g.block d hd5 fun e => po_ne d e.symm rfl).trans c5) fun p6 q6 h6 ho6 hg6 _ hb6 => ?_
  have c6 : h6[d]? = some (.cells (τ.cells w).toArray 103) := (hg6.block d hd5 fun e => po_ne d e.symm rfl).trans c5
  refine ⟨d, 0, rfl, rfl, wrAt_of c6 (show 2 + 1 ≤ 9 by decide) (.inl (Nat.zero_le _)), ?_⟩
  rintro h7 hh7
  have c7 := setsH_at (vs := [Value.slice p6 (τ.pend.length + 1) q6]) (o := 0 + 2) c6
  rw [← hh7] at c7
  have hsz7 : h7.size = h6.size := by rw [hh7]; exact setsH_size
  have ho7 : ∀ b, b ≠ d → h7[b]? = h6[b]? := fun b hb => by rw [hh7]; exact setsH_ne hb
  clear hh7
  have pl_ne := N.2.2.2.1
  have po_lt : ∀ b, (Value.slice w.po τ.pend.length w.co).ownBlock = some b → b < h.size := fun b hb => D.lt b (D4.bo b hb)
  have pl_lt : ∀ b, (Value.slice w.pl τ.pend.length w.cl).ownBlock = some b → b < h.size := fun b hb => D.lt b (D4.bl b hb)
  have hd : d < h.size := D.lt d D.bd
  have hs6 : h5.size ≤ h6.size := hg6.size
  have own7 : Own h7 0 110 1 (.slice w.pl τ.pend.length w.cl) τ.pend.length (w.cv.map (layV 80)) := D4.lays.keep fun b hb => by
    obtain ⟨cur, hc⟩ := D4.lays.blk hb
    have hlt := pl_lt b hb
    rw [ho7 b (pl_ne b hb), hg6.block b (by omega) (fun e => ?_), ho5 b (blk hc)]
    obtain ⟨cur', hc'⟩ := D4.order.blk e.symm
    rw [hc] at hc'; injection hc' with hc'; injection hc' with _ hc'; exact dG.il hc'.symm
  refine ⟨d, 0, rfl, _, _, _, cellsAt_one (cellH_at c7), ?_⟩
  refine semH_push rowL own7 (vs := [layV 80 (h.size, h.size + 1)]) (m := 1) rfl rfl (by simp) (by simp) (by simp [Value.oneCell', layV]) (by omega) (by simp only [maxLen]; omega) (Nat.zero_le _) fun p9 q9 h9 ho9 hg9 _ hb9 => ?_
  have hs9 : h7.size ≤ h9.size := hg9.size
  have c9 := (hg9.block d (by omega) fun e => pl_ne d e.symm rfl).trans c7
  refine ⟨d, 0, rfl, rfl, wrAt_of c9 (show 3 + 1 ≤ 9 by decide) (.inl (Nat.zero_le _)), ?_⟩
  rintro h10 hh10
  have c10 := setsH_at (vs := [Value.slice p9 (τ.pend.length + 1) q9]) (o := 0 + 3) c9
  rw [← hh10] at c10
  have hsz10 : h10.size = h9.size := by rw [hh10]; exact setsH_size
  have ho10 : ∀ b, b ≠ d → h10[b]? = h9[b]? := fun b hb => by rw [hh10]; exact setsH_ne hb
  clear hh10
  refine ⟨d, 0, rfl, _, cellsAt_one (cellH_at c10), _, rfl, d, 0, rfl, rfl, wrAt_of c10 (show 7 + 1 ≤ 9 by decide) (.inl (Nat.zero_le _)), ?_⟩
  rintro h11 hh11
  have c11 := setsH_at (vs := [vZ (inc64 τ.writes)]) (o := 0 + 6 + 1) c10
  have hh11' : h11 = setsH h10 d (0 + 6 + 1) [vZ (inc64 τ.writes)] := hh11
  rw [← hh11'] at c11
  have hsz11 : h11.size = h10.size := by rw [hh11]; exact setsH_size
  have ho11 : ∀ b, b ≠ d → h11[b]? = h10[b]? := fun b hb => by rw [hh11]; exact setsH_ne hb
  clear hh11 hh11'
  have k7 : ∀ b, b < h7.size → b ≠ d → (∀ q, (Value.slice w.pl τ.pend.length w.cl).ownBlock = some q → q ≠ b) → h11[b]? = h7[b]? := fun b hb hbd hpl => by
    rw [ho11 b hbd, ho10 b hbd]; exact hg9.block b hb fun e => hpl b e.symm rfl
  have k5 : ∀ b, b < h5.size → b ≠ d → (∀ q, (Value.slice w.pl τ.pend.length w.cl).ownBlock = some q → q ≠ b) → (∀ q, (Value.slice w.po τ.pend.length w.co).ownBlock = some q → q ≠ b) → h11[b]? = h5[b]? := fun b hb hbd hpl hpo => by
    rw [k7 b (by omega) hbd hpl, ho7 b hbd]; exact hg6.block b hb fun e => hpo b e.symm rfl
  have ty : ∀ {b q : Nat} {t u : TypeId} {cur cur' : Array Value} {fz fz' : Nat × Nat}, h4[b]? = some (.cells cur t fz) → h4[q]? = some (.cells cur' u fz') → t ≠ u → q ≠ b := by
    intro b q t u cur cur' fz fz' hb hq hne e
    rw [e, hb] at hq; injection hq with hq; injection hq with _ hq; exact hne hq
  have kT : ∀ {b : Nat} {t : TypeId} {cur : Array Value} {fz : Nat × Nat}, h4[b]? = some (.cells cur t fz) → t ≠ 103 → t ≠ 110 → (∀ q, (Value.slice w.po τ.pend.length w.co).ownBlock = some q → q ≠ b) → h11[b]? = h4[b]? := by
    intro b t cur fz hb hD hL hpo
    have hlt : b < h5.size := by rw [hsz5]; exact (Array.getElem?_eq_some_iff.1 hb).1
    rw [k5 b hlt (ty D4.cell hb (Ne.symm hD)) (fun q hq => by obtain ⟨cur', hc'⟩ := D4.lays.blk hq; exact ty hb hc' hL) hpo]
    exact ho5 b (blk hb)
  have hlen1 : (τ.pend ++ [(m, s)]).length = τ.pend.length + 1 := by simp
  have hsmF : Same B h h11 := by
    refine ⟨by omega, fun b hb hnb => ?_⟩
    rw [k5 b (by omega) (fun e => hnb (e ▸ D.bd)) (fun q hq e => hnb (e ▸ D4.bl q hq)) (fun q hq e => hnb (e ▸ D4.bo q hq)), ho5 b (fun e => hnb (e ▸ D.br))]
    exact hsm.old b hb hnb
  have hnew : ∀ (b : Nat), h5.size ≤ b → h.size ≤ b := fun b hb => by omega
  refine ⟨hsmF, ⟨{ w with po := p6, co := q6, pl := p9, cl := q9, l := l', cv := w.cv ++ [(h.size, h.size + 1)] }, ?_⟩, rfl⟩
  have b6 : ∀ b, (Value.slice p6 (τ.pend.length + 1) q6).ownBlock = some b → ((Value.slice w.po τ.pend.length w.co).ownBlock = some b ∨ h5.size ≤ b) ∧ b < h6.size := fun b hb => by
    refine ⟨?_, (ho6.lt hb).2⟩
    rcases hb6 with he | ⟨q, he, hq⟩
    · exact .inl (he ▸ hb)
    · rw [he] at hb; cases hb; exact .inr hq
  have b9 : ∀ b, (Value.slice p9 (τ.pend.length + 1) q9).ownBlock = some b → ((Value.slice w.pl τ.pend.length w.cl).ownBlock = some b ∨ h7.size ≤ b) ∧ b < h9.size := fun b hb => by
    refine ⟨?_, (ho9.lt hb).2⟩
    rcases hb9 with he | ⟨q, he, hq⟩
    · exact .inl (he ▸ hb)
    · rw [he] at hb; cases hb; exact .inr hq
  refine { cell := ?_, safe := ?_, order := ?_, lays := ?_, caught := ?_, map := ?_, now := hnow5, bd := .inl D4.bd, br := .inl D4.br, bs := fun b hb => .inl (D4.bs b hb), bo := ?_, bl := ?_, bc := ?_, apart := ?_, lt := GrowB.lt D.lt hsmF.size, ok := ?_ }
  · rw [c11]; simp only [DS.cells, hlen1]; rfl
  · refine D4.safe.keep fun b hb => ?_
    obtain ⟨cur, hc⟩ := D4.safe.blk hb
    exact kT hc dG.sd dG.sl fun q hq => by obtain ⟨cur', hc'⟩ := D4.order.blk hq; exact ty hc hc' dG.si
  · show Own h11 0 3 1 (.slice p6 (τ.pend ++ [(m, s)]).length q6) (τ.pend ++ [(m, s)]).length ((τ.pend ++ [(m, s)]).map fun x => vI x.1)
    rw [hlen1, List.map_append]
    refine ho6.keep fun b hb => ?_
    obtain ⟨h1, h2⟩ := b6 b hb
    have hbd : b ≠ d := by
      rcases h1 with h1 | h1
      · exact po_ne b h1
      · omega
    rw [k7 b (by omega) hbd (fun q hq e => ?_), ho7 b hbd]
    subst e
    have := pl_lt q hq
    rcases h1 with h1 | h1
    · obtain ⟨cur, hc⟩ := D4.order.blk h1
      obtain ⟨cur', hc'⟩ := D4.lays.blk hq
      exact ty hc hc' dG.il rfl
    · omega
  · show Own h11 0 110 1 (.slice p9 (τ.pend ++ [(m, s)]).length q9) (τ.pend ++ [(m, s)]).length _
    rw [hlen1, List.map_append]
    refine ho9.keep fun b hb => ?_
    obtain ⟨h1, h2⟩ := b9 b hb
    have hbd : b ≠ d := by
      rcases h1 with h1 | h1
      · exact pl_ne b h1
      · omega
    rw [ho11 b hbd, ho10 b hbd]
  · intro i hi
    have hi : i < τ.pend.length + 1 := by rw [← hlen1]; exact hi
    have hcvl : w.cv.length = τ.pend.length := by have := D4.lays.len.2.1; simpa using this
    rcases Nat.lt_or_ge i τ.pend.length with hlt | hge
    · obtain ⟨c, h1, h2, h3⟩ := D4.caught i hlt
      have hap := D4.apart c (List.mem_of_getElem? h1)
      refine ⟨c, ?_, ?_, ?_⟩
      · show (w.cv ++ _)[i]? = _
        rw [List.getElem?_append_left (by omega)]; exact h1
      · show h11[c.1]? = some (.cells #[vI (τ.pend ++ [(m, s)])[i].1] 3)
        rw [List.getElem_append_left hlt, kT h2 dG.id dG.il fun q hq e => hap.1 (e ▸ hq)]; exact h2
      · show h11[c.2]? = some (.cells #[.string (τ.pend ++ [(m, s)])[i].2] 9)
        rw [List.getElem_append_left hlt, kT h3 dG.sd dG.sl fun q hq => by obtain ⟨cur', hc'⟩ := D4.order.blk hq; exact ty h3 hc' dG.si]; exact h3
    · have hi : i = τ.pend.length := by omega
      subst hi
      refine ⟨(h.size, h.size + 1), ?_, ?_, ?_⟩
      · show (w.cv ++ _)[_]? = _
        rw [List.getElem?_append_right (by omega), hcvl, Nat.sub_self]; rfl
      · show h11[h.size]? = some (.cells #[vI (τ.pend ++ [(m, s)])[τ.pend.length].1] 3)
        rw [kT cn4 dG.id dG.il fun q hq e => by have := po_lt q hq; omega, List.getElem_append_right (Nat.le_refl _)]
        simpa using cn4
      · show h11[h.size + 1]? = some (.cells #[.string (τ.pend ++ [(m, s)])[τ.pend.length].2] 9)
        rw [kT cs4 dG.sd dG.sl fun q hq e => by have := po_lt q hq; omega, List.getElem_append_right (Nat.le_refl _)]
        simpa using cs4
  · refine hm5.congr (k5 w.r (by have := D4.map.lt; omega) N.1 (fun q hq e => ?_) fun q hq e => ?_)
    · obtain ⟨cur', hc'⟩ := D4.lays.blk hq; exact blk hc' e
    · obtain ⟨cur', hc'⟩ := D4.order.blk hq; exact blk hc' e
  · show ∀ b, (Value.slice p6 (τ.pend ++ [(m, s)]).length q6).ownBlock = some b → _
    rw [hlen1]
    intro b hb
    obtain ⟨h1, h2⟩ := b6 b hb
    rcases h1 with h1 | h1
    · exact .inl (D4.bo b h1)
    · exact .inr (by omega)
  · show ∀ b, (Value.slice p9 (τ.pend ++ [(m, s)]).length q9).ownBlock = some b → _
    rw [hlen1]
    intro b hb
    obtain ⟨h1, h2⟩ := b9 b hb
    rcases h1 with h1 | h1
    · exact .inl (D4.bl b h1)
    · exact .inr (by omega)
  · intro c hc
    rcases List.mem_append.1 hc with hc | hc
    · exact ⟨.inl (D4.bc c hc).1, .inl (D4.bc c hc).2⟩
    · simp at hc; subst hc; exact ⟨.inr (by show h.size ≤ h.size ∧ h.size < _; omega), .inr (by show h.size ≤ h.size + 1 ∧ h.size + 1 < _; omega)⟩
  · show ∀ c ∈ w.cv ++ [(h.size, h.size + 1)], (Value.slice p6 (τ.pend ++ [(m, s)]).length q6).ownBlock ≠ some c.1 ∧ _
    rw [hlen1]
    intro c hc
    rcases List.mem_append.1 hc with hc | hc
    · refine ⟨fun e => ?_, (D4.apart c hc).2⟩
      rcases (b6 _ e).1 with h1 | h1
      · exact (D4.apart c hc).1 h1
      · have := D.lt _ (D4.bc c hc).1
        omega
    · simp at hc; subst hc
      refine ⟨fun e => ?_, fun e => ?_⟩
      · rcases (b6 _ e).1 with h1 | h1
        · have := po_lt _ h1; exact Nat.lt_irrefl _ this
        · have h1 : h5.size ≤ h.size := h1
          omega
      · have := D.lt _ (D4.bs _ e)
        have h1 : h.size + 1 < h.size := this
        omega
  · exact D4.ok.pushed hm hsize

theorem write_nil (n : Int) (s : ByteArray) : CallsH Tryd.prog 56 #[.pointer none, vZ n, .string s] h fun e h' => Ext h h' ∧ e = .returned (vZ 1) := by
  refine V56 _ _ _ h _ ?_
  rintro bn h1 rfl rfl bs h2 rfl rfl
  have hx2 : Ext h ((h.push (.cells #[vZ n] 3)).push (.cells #[Value.string s] 9)) := (Ext.push _ _).trans (Ext.push _ _)
  have cn2 : ((h.push (.cells #[vZ n] 3)).push (.cells #[Value.string s] 9))[h.size]? = some (.cells #[vZ n] 3) :=
    ((Ext.push (h.push (.cells #[vZ n] 3)) (.cells #[Value.string s] 9)).old h.size (by simp)).trans push_last
  refine ⟨_, cellsAt_one (cellH_at cn2), (asked_nil n).mono ?_⟩
  rintro e h3 ⟨rfl, rfl⟩
  exact ⟨_, rfl, fun _ => ⟨hx2, rfl⟩, fun hf => (by simp at hf)⟩

theorem layAll_take {σ : DS} {i : Nat} (hi : i < σ.pend.length) (safe : List ByteArray) : layAll safe (σ.pend.take (i + 1)) = layD (layAll safe (σ.pend.take i)) σ.pend[i] 512 := by
  have : σ.pend.take (i + 1) = σ.pend.take i ++ [σ.pend[i]] := by rw [List.take_add_one, List.getElem?_eq_getElem hi]; rfl
  unfold layAll
  rw [this, List.foldl_append]; rfl

/-- A disk whose safe bytes are others. -/
def DS.with (σ : DS) (safe : List ByteArray) : DS := { σ with safe := safe }

/-- disk.Flush -/
theorem flush_c (D : DiskAt dI h B d σ) : CallsH Tryd.prog 41 #[vP d] h fun e h' => Same B h h' ∧ h'.size = h.size ∧ DiskAt dI h' B d σ.flush.1 ∧ e = .returned (vZ σ.flush.2) := by
  obtain ⟨w, D⟩ := D
  have hpos := D.ok.pos
  refine V41 _ h _ ((asked_c ⟨w, D⟩ 0).mono ?_)
  rintro e h1 ⟨rfl, rfl⟩
  refine ⟨_, rfl, fun hne => ?_, fun heq => ?_⟩
  · have hne : ¬ σ.asked 0 = 0 := by simpa using hne
    have hg : σ.gone = true := by
      cases hg : σ.gone with
      | true => rfl
      | false =>
        exfalso; apply hne
        unfold DS.asked
        rw [if_neg (by simp [hg]), if_neg (by omega)]
    have ha : σ.asked 0 = 40 := by unfold DS.asked; rw [if_pos hg]
    unfold DS.flush
    rw [if_pos hg, ha]
    exact ⟨Same.refl _ _, rfl, ⟨w, D⟩, rfl⟩
  have heq : σ.asked 0 = 0 := by simpa using heq
  obtain ⟨hg, _, _⟩ := DS.asked_zero heq
  refine (step_c D hg).mono ?_
  rintro e h2 ⟨hsm2, hsz2, D2, rfl⟩
  refine ⟨_, rfl, fun hgo => ?_, fun hgo => ?_⟩
  · have hgo : σ.stepped.gone = true := by simpa using hgo
    unfold DS.flush
    rw [if_neg (by simp [hg]), if_pos hgo]
    exact ⟨hsm2, hsz2, ⟨w, D2⟩, rfl⟩
  have hgo : σ.stepped.gone = false := by simpa using hgo
  have hfl : σ.flush = ({ σ.stepped with safe := layAll σ.safe σ.pend, pend := [], flushes := inc64 σ.flushes }, 0) := by
    unfold DS.flush
    rw [if_neg (by simp [hg]), if_neg (by simp [hgo])]
  rw [hfl]
  obtain ⟨e1, e2, e3, e4, e5⟩ := σ.stepped_safe
  generalize σ.stepped = τ at *
  rw [← e1, ← e2, ← e5]
  have hcvl : w.cv.length = τ.pend.length := by have := D2.lays.len.2.1; simpa using this
  have hmax := D2.lays.max
  have hms : ∀ {safe : List ByteArray}, safe.length = τ.safe.length → DS.cells (τ.with safe) w = τ.cells w := fun h => by simp only [DS.cells, DS.with, h]
  have hlenA : ∀ i, (layAll τ.safe (τ.pend.take i)).length = τ.safe.length := fun i => by
    exact (layAll_ok _ _ D2.ok.size fun x hx => (D2.ok.pend x (List.mem_of_mem_take hx)).2).2
  refine ⟨d, 0, rfl, _, _, _, cellsAt_one (cellH_at D2.cell), fun l hq => ∃ i : Nat, i ≤ τ.pend.length ∧ l = [vI i] ∧ Same B h1 hq ∧ hq.size = h1.size ∧ DiskIs dI hq B d (τ.with (layAll τ.safe (τ.pend.take i))) w,
    fun l _ => (τ.pend.length - numAt l 0).toNat, ⟨0, Nat.zero_le _, rfl, hsm2, hsz2, D2⟩, ?_⟩
  rintro x hq ⟨i, hi, hl, hsm, hsz, D3⟩
  cases hl
  refine ⟨fun hc => ?_, fun hc => ?_⟩
  · have hc : i < τ.pend.length := by simp at hc; omega
    obtain ⟨c, hcv, _⟩ := D3.caught i hc
    have hsegl := D3.lays.seg
    obtain ⟨b, o, hp, hcell⟩ := hsegl.at (i := i) (by simp [hcvl]; omega)
    have hgi : (w.cv.map (layV 80))[i]'(by simp [hcvl]; omega) = layV 80 c := by
      rw [List.getElem_map]; congr 1
      exact (List.getElem?_eq_some_iff.1 hcv).2
    rw [hgi] at hcell
    refine ⟨b, o, hp, by omega, by omega, _, hcell, d, 0, rfl, _, _, _, cellsAt_one (cellH_at D3.cell), _, _, _, rfl, by kernel_rfl, ?_⟩
    refine (close_c D3 hc hcv (Nat.le_refl 512)).mono ?_
    rintro e h4 ⟨hsm4, hsz4, D4, rfl⟩
    refine ⟨rfl, _, incI (by omega), ⟨i + 1, hc, rfl, hsm.trans hsm4 fun _ h _ => h, hsz4.trans hsz, ?_⟩, by simp only [numAt]; omega⟩
    rw [layAll_take hc]
    exact D4
  · have hc : i = τ.pend.length := by simp at hc; omega
    subst hc
    rw [List.take_length] at D3
    refine (forget_c D3).mono ?_
    rintro e h4 ⟨hsm4, hsz4, D4, rfl⟩
    refine ⟨rfl, d, 0, rfl, _, cellsAt_one (cellH_at D4.cell), _, rfl, d, 0, rfl, rfl, D4.wr (by decide), ?_⟩
    rintro h5 rfl
    have D5 := D4.set (σ' := { τ with safe := layAll τ.safe τ.pend, pend := [], flushes := inc64 τ.flushes }) (k := 0 + 6 + 2) (v := vZ (inc64 τ.flushes)) rfl rfl rfl ⟨D4.ok.pos, D4.ok.most, D4.ok.size, D4.ok.pend, D4.ok.plan⟩
    refine ⟨(hsm.trans hsm4 fun _ h _ => h).trans (setsH_same D4.bd) fun _ h _ => h, ?_, ⟨_, D5⟩, rfl⟩
    exact setsH_size.trans (hsz4.trans hsz)

theorem flush_nil : CallsH Tryd.prog 41 #[.pointer none] h fun e h' => h' = h ∧ e = .returned (vZ 1) := by
  refine V41 _ h _ ((asked_nil 0).mono ?_)
  rintro e h1 ⟨rfl, rfl⟩
  exact ⟨_, rfl, fun _ => ⟨rfl, rfl⟩, fun hf => (by simp at hf)⟩

/-- Fates, as values. -/
def fateV (f : Int × Int) : List Value := [vZ f.1, vZ f.2]

theorem layFates_take {l : List (Nat × ByteArray)} {fates : List (Int × Int)} {i : Nat} (hi : i < l.length) (hf : i < fates.length) (safe : List ByteArray) :
    layFates safe (l.take (i + 1)) fates = layD (layFates safe (l.take i) fates) l[i] (keptN fates[i]) := by
  have e1 : (l.take (i + 1)).zip fates = (l.take i).zip fates ++ [(l[i], fates[i])] := by
    apply List.ext_getElem
    · simp; omega
    · intro j h1 h2
      have hj : j < i + 1 ∧ j < fates.length := by simp at h1; omega
      rw [List.getElem_zip, List.getElem_take]
      rcases Nat.lt_or_ge j i with hlt | hge
      · rw [List.getElem_append_left (by simp; omega), List.getElem_zip, List.getElem_take]
      · have : j = i := by omega
        subst this
        rw [List.getElem_append_right (by simp; omega)]
        simp
  unfold layFates
  rw [e1, List.foldl_append]; rfl

theorem layFates_short {l : List (Nat × ByteArray)} {fates : List (Int × Int)} {i : Nat} (hf : fates.length ≤ i) (safe : List ByteArray) : layFates safe (l.take i) fates = layFates safe l fates := by
  unfold layFates
  congr 1
  apply List.ext_getElem
  · simp; omega
  · intro j h1 h2
    rw [List.getElem_zip, List.getElem_zip, List.getElem_take]

/-- disk.Crash -/
theorem crash_c (D : DiskAt dI h B d σ) (fates : List (Int × Int)) {p : Option Addr} {n c : Nat} (hf : SegS h p n 2 (fates.map fateV)) (hB : ∀ b o, p = some ⟨b, o, none⟩ → fates ≠ [] → ¬ B b) :
    CallsH Tryd.prog 29 #[vP d, .slice p n c] h fun e h' => Same B h h' ∧ DiskAt dI h' B d (σ.crash fates) ∧ e = .returned (.tuple #[]) := by
  obtain ⟨w, D⟩ := D
  have hfl : fates.length = n := by have := hf.1; simpa using this
  refine V29 _ _ _ _ h _ ⟨false, eqv_ptr uPD _, fun hf => (by cases hf), fun _ => ?_⟩
  have hcvl : w.cv.length = σ.pend.length := by have := D.lays.len.2.1; simpa using this
  have hmax := D.lays.max
  -- behind the loop
  refine ⟨fun l hq => l = [] ∧ Same B h hq ∧ DiskIs dI hq B d (σ.with (layFates σ.safe σ.pend fates)) w, ⟨d, 0, rfl, _, _, _, cellsAt_one (cellH_at D.cell),
    fun l hq => ∃ i : Nat, i ≤ σ.pend.length ∧ i ≤ fates.length ∧ l = [vI i] ∧ Same B h hq ∧ DiskIs dI hq B d (σ.with (layFates σ.safe (σ.pend.take i) fates)) w,
    fun l _ => (σ.pend.length - numAt l 0).toNat, ⟨0, Nat.zero_le _, Nat.zero_le _, rfl, Same.refl _ _, D⟩, ?_⟩, ?_⟩
  · rintro x hq ⟨i, hi, hif, hl, hsm, D3⟩
    cases hl
    refine ⟨fun hc => ?_, fun hc => ?_⟩
    · have hc : i < σ.pend.length := by simp at hc; omega
      obtain ⟨cc, hcv, _⟩ := D3.caught i hc
      obtain ⟨b, o, hp, hcell⟩ := D3.lays.seg.at (i := i) (by simp [hcvl]; omega)
      have hgi : (w.cv.map (layV 80))[i]'(by simp [hcvl]; omega) = layV 80 cc := by
        rw [List.getElem_map]; congr 1
        exact (List.getElem?_eq_some_iff.1 hcv).2
      rw [hgi] at hcell
      refine ⟨b, o, hp, by omega, by omega, _, hcell, fun hs => ?_, fun hs => ?_⟩
      · have hs : fates.length ≤ i := by simp at hs; omega
        rw [layFates_short hs] at D3
        exact ⟨rfl, hsm, D3⟩
      · have hs : i < fates.length := by simp at hs; omega
        have hfq : SegS hq p n 2 (fates.map fateV) := hf.keep fun b o hp hne => by
          have hb : b < h.size := by
            rcases hf.2.2 with h0 | ⟨b', o', hp', hc'⟩
            · exact (hne h0).elim
            · rw [hp] at hp'; cases hp'
              cases hh : fates with
              | nil => rw [hh] at hne; exact (hne rfl).elim
              | cons f fs =>
                rw [hh] at hc'
                exact cellH_lt (a := ⟨b, o, none⟩) hc'.1
          exact hsm.old b hb (hB b o hp fun e => hne (by rw [e]; rfl))
        obtain ⟨b3, o3, hp3, h30, h3n, hc3⟩ := hfq.at (i := i) (by simpa using hs)
        rw [List.getElem_map] at hc3
        refine ⟨fun h' => DiskIs dI h' B d (σ.with (layFates σ.safe (σ.pend.take i) fates)) w ∨ DiskIs dI h' B d (σ.with (layFates σ.safe (σ.pend.take (i + 1)) fates)) w, .inl D3, d, 0, rfl, w.ps, (σ.with (layFates σ.safe (σ.pend.take i) fates)).safe.length, w.cs, ?_, b3, o3, hp3, h30, h3n, _, _, hc3, ?_⟩
        · rintro h' (hD | hD)
          · exact cellsAt_one (cellH_at hD.cell)
          · refine cellsAt_one ((cellH_at hD.cell).trans ?_)
            have e1 := (layFates_ok (σ.pend.take (i + 1)) fates σ.safe D.ok.size fun x hx => (D.ok.pend x (List.mem_of_mem_take hx)).2).2
            have e2 := (layFates_ok (σ.pend.take i) fates σ.safe D.ok.size fun x hx => (D.ok.pend x (List.mem_of_mem_take hx)).2).2
            show some (Value.slice w.ps (layFates σ.safe (σ.pend.take (i + 1)) fates).length w.cs) = some (Value.slice w.ps (layFates σ.safe (σ.pend.take i) fates).length w.cs)
            rw [e1, e2]
        · refine (kept_c fates[i]).mono ?_
          rintro e h4 ⟨hx4, rfl⟩
          have D4 : DiskIs dI h4 B d (σ.with (layFates σ.safe (σ.pend.take i) fates)) w := D3.keep hx4.size fun b hb => hx4.old b (D3.lt b hb)
          refine ⟨_, rfl, .inl D4, _, _, _, rfl, by kernel_rfl, ?_⟩
          refine (close_c D4 hc hcv (keptN_le _)).mono ?_
          rintro e h5 ⟨hsm5, hsz5, D5, rfl⟩
          have D5' : DiskIs dI h5 B d (σ.with (layFates σ.safe (σ.pend.take (i + 1)) fates)) w := by
            rw [layFates_take hc hs]; exact D5
          exact ⟨rfl, _, incI (by omega), ⟨i + 1, hc, hs, rfl, (hsm.trans (hx4.same B) fun _ h _ => h).trans hsm5 fun _ h _ => h, D5'⟩, by simp only [numAt]; omega⟩
    · have hc : i = σ.pend.length := by simp at hc; omega
      subst hc
      rw [List.take_length] at D3
      exact ⟨rfl, hsm, D3⟩
  · rintro hq ⟨_, hsm, D3⟩
    refine (forget_c D3).mono ?_
    rintro e h4 ⟨hsm4, hsz4, D4, rfl⟩
    refine ⟨rfl, d, 0, rfl, rfl, D4.wr (by decide), ?_⟩
    rintro h5 rfl
    have D5 := D4.set (σ' := { (σ.with (layFates σ.safe σ.pend fates)) with pend := [], gone := false }) (k := 0 + 4) (v := .bool false) rfl rfl rfl ⟨D4.ok.pos, D4.ok.most, D4.ok.size, D4.ok.pend, D4.ok.plan⟩
    refine ⟨d, 0, rfl, rfl, D5.wr (by decide), ?_⟩
    rintro h6 rfl
    have D6 := D5.set (σ' := σ.crash fates) (k := 0 + 5) (v := vI 0) rfl rfl rfl (D.ok.crash fates)
    exact ⟨((hsm.trans hsm4 fun _ h _ => h).trans (setsH_same D4.bd) fun _ h _ => h).trans (setsH_same D4.bd) fun _ h _ => h, ⟨_, D6⟩, rfl⟩

theorem crash_nil {v : Value} {p : Option Addr} {n c : Nat} (hv : v = .slice p n c) : CallsH Tryd.prog 29 #[.pointer none, v] h fun e h' => h' = h ∧ e = .returned (.tuple #[]) := by
  subst hv
  exact V29 _ _ _ _ h _ ⟨true, eqv_nil uPD, fun _ => ⟨rfl, rfl⟩, fun hf => (by cases hf)⟩

end
end Go.Vc
