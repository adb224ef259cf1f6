/- Pairs of disks: a crash, what is pending, any call. -/
import Derived.Test.YtebcmlfccfchoaaS4D4Q
set_option maxRecDepth 10000
namespace Go.Vc
open Go Go.Proofs Go.MapKept

section
variable {h h' : Hp} {B C Ba Bb : Nat → Prop} {da db : Nat} {σ : DS}

/-- pair.crash -/
theorem pcrash_c (p : PairAt h Ba Bb da db σ) (fates : List (Int × Int)) (hn : fates.length ≤ 8796093022207) {fp : Option Addr} {n c : Nat} (hf : SegS h fp n 2 (fates.map fateV)) (hB : ∀ b o, fp = some ⟨b, o, none⟩ → fates ≠ [] → ¬ Ba b ∧ ¬ Bb b) :
    CallsH Try.prog 48 #[pairV da db, .slice fp n c] h fun e h' => Same (fun b => Ba b ∨ Bb b) h h' ∧ PairAt h' Ba Bb da db (σ.crash fates) ∧ e = .returned (.bool true) := by
  have hfn : fates.length = n := by have := hf.1; simpa using this
  have hL : (lentL fates).length = n + 3 := by simp [lentL, hfn]
  have hfb : ∀ b o, fp = some ⟨b, o, none⟩ → fates ≠ [] → b < h.size := fun b o hp h0 => hf.block (by decide) hp fun e => h0 (List.map_eq_nil_iff.1 e)
  refine V48 _ _ _ _ _ h _ ?_
  rintro b h1 rfl rfl
  have x1 : Ext h (h.push (.cells #[vP da, vP db] 59)) := Ext.push _ _
  have c1 : (h.push (.cells #[vP da, vP db] 59))[h.size]? = some (.cells #[vP da, vP db] 59) := push_last
  generalize (h.push (.cells #[vP da, vP db] 59)) = h1 at x1 c1
  have l1 := (Array.getElem?_eq_some_iff.1 c1).1
  refine (lent_c fates hn (hf.ext x1)).mono ?_
  rintro e h2 ⟨x2, c2, rfl⟩
  have l2 := (Array.getElem?_eq_some_iff.1 c2).1
  have p2 := (p.ext x1).ext x2
  have c12 := (x2.old h.size l1).trans c1
  have hcut : cutP (some ⟨h1.size, 0, none⟩) (n + 3) 0 2 = some ⟨h1.size, 0, none⟩ := by simp [cutP, Addr.add]
  have hseg : SegS h2 (some ⟨h1.size, 0, none⟩) (n - 0) 2 (fates.map fateV) := by
    have := rows_head (rows_seg c2 (rowsL_len _) (n := n + 3) (by unfold rowsL; rw [List.length_map, hL])) (m := n) (by omega)
    have e : (rowsL (lentL fates)).take n = fates.map fateV := by
      unfold rowsL lentL
      rw [List.map_append, List.take_append_of_le_length (by simp; omega), List.take_of_length_le (by simp; omega)]
    rw [e] at this
    exact this
  refine ⟨_, _, _, rfl, _, cellsAt_one (cellH_at c12), n, rfl, Nat.zero_le _, by omega, _, hcut, (crash_c p2.a fates hseg (fun b o hp _ hb => ?_)).mono ?_⟩
  · cases hp
    have := p.a.lt _ hb
    omega
  rintro e h3 ⟨y3, a3, rfl⟩
  have c13 := (y3.old h.size (by omega) fun hb => by have := p.a.lt _ hb; omega).trans c12
  have c23 := (y3.old h1.size l2 fun hb => by have := p.a.lt _ hb; omega).trans c2
  have b3 := p2.b.other y3 fun x hx hx' => p.dis x hx' hx
  have f3 : SegS h3 fp n 2 (fates.map fateV) := ((hf.ext x1).ext x2).keep fun b o hp h0 => y3.old b (by have := hfb b o hp (fun e => h0 (by rw [e]; rfl)); have := x1.size; have := x2.size; omega) (hB b o hp fun e => h0 (by rw [e]; rfl)).1
  refine ⟨rfl, _, cellsAt_one (cellH_at c13), (rCrash_c b3 fates f3 fun b o hp h0 => (hB b o hp h0).2).mono ?_⟩
  rintro e h4 ⟨y4, b4, rfl⟩
  have a4 := a3.other y4 p.dis
  have l3 := y3.size
  have c24 := (y4.old h1.size (by omega) fun hb => by have := p.b.lt _ hb; omega).trans c23
  have f4 : SegS h4 fp n 2 (fates.map fateV) := f3.keep fun b o hp h0 => y4.old b (by have := hfb b o hp (fun e => h0 (by rw [e]; rfl)); have := x1.size; have := x2.size; omega) (hB b o hp fun e => h0 (by rw [e]; rfl)).2
  refine ⟨rfl, (still_c fates hn f4 c24 fun b o hp h0 => by have := hfb b o hp h0; omega).mono ?_⟩
  rintro e h5 ⟨y5, rfl⟩
  refine ⟨true, rfl, ?_, ⟨a4.other y5 fun b hb e => ?_, b4.other y5 fun b hb e => ?_, p.dis⟩, rfl⟩
  · exact ((((x1.trans x2).same _).trans (y3.more fun x hx _ => Or.inl hx) fun _ h _ => h).trans (y4.more fun x hx _ => Or.inr hx) fun _ h _ => h).trans y5 fun x hx hl => by omega
  · have := p.a.lt _ hb; omega
  · have := p.b.lt _ hb; omega

/-- pair.pending -/
theorem ppend_c (p : PairAt h Ba Bb da db σ) (hlen : σ.pend.length ≤ 8796093022207) : CallsH Try.prog 34 #[pairV da db] h fun e h' => Ext h h' ∧ e = .returned (.bool true) := by
  have hone : ∀ l : List Nat, l.length = l.length := fun _ => rfl
  refine V34 _ _ h _ ?_
  rintro b h1 rfl rfl
  have x1 : Ext h (h.push (.cells #[vP da, vP db] 59)) := Ext.push _ _
  have c1 : (h.push (.cells #[vP da, vP db] 59))[h.size]? = some (.cells #[vP da, vP db] 59) := push_last
  generalize (h.push (.cells #[vP da, vP db] 59)) = h1 at x1 c1
  have l1 := (Array.getElem?_eq_some_iff.1 c1).1
  have p1 := p.ext x1
  obtain ⟨L, hLd⟩ : ∃ L, L = σ.pend.map (·.1) := ⟨_, rfl⟩
  have hLl : L.length = σ.pend.length := by rw [hLd, List.length_map]
  refine ⟨_, cellsAt_one (cellH_at c1), (pending_c p1.a (by omega)).mono ?_⟩
  rintro e h2 ⟨x2, px, cx, rfl, ox⟩
  have c2 := (x2.old h.size l1).trans c1
  refine ⟨_, _, _, rfl, _, cellsAt_one (cellH_at c2), (pending_c (p1.ext x2).a (by omega)).mono ?_⟩
  rintro e h3 ⟨x3, py, cy, rfl, oy⟩
  have c3 := (x3.old h.size (by have := x2.size; omega)).trans c2
  have p3 := (p1.ext x2).ext x3
  refine ⟨_, _, _, rfl, _, cellsAt_one (cellH_at c3), (rPending_c p3.b (by omega)).mono ?_⟩
  rintro e h4 ⟨x4, pw, cw, rfl, ow⟩
  have c4 := (x4.old h.size (by have := x2.size; have := x3.size; omega)).trans c3
  rw [← hLd] at ox oy ow
  have ox4 := (ox.ext x3).ext x4
  have oy4 := oy.ext x4
  have l2 := x2.size
  have l3 := x3.size
  have l4 := x4.size
  refine ⟨_, _, _, rfl, (same_c (by omega) ox4.seg ow.seg).mono ?_⟩
  rintro e h5 ⟨rfl, rfl⟩
  refine ⟨true, rfl, (same_c (by omega) oy4.seg ow.seg).mono ?_⟩
  rintro e h6 ⟨rfl, rfl⟩
  have hx6 := (((x1.trans x2).trans x3).trans x4)
  have bx : ∀ b, (Value.slice px σ.pend.length cx).ownBlock = some b → h1.size ≤ b ∧ b < h2.size := fun b hb => ⟨(ox.lt hb).1, (ox.lt hb).2⟩
  obtain ⟨D, hD⟩ : ∃ D : Nat → Prop, D = fun b => (h1.size ≤ b ∧ b < h2.size) ∨ h6.size ≤ b := ⟨_, rfl⟩
  refine ⟨true, rfl, fun l hq => ∃ (i : Nat) (xs : List Value), i ≤ σ.pend.length ∧ l = [vI i] ∧ Same D h6 hq ∧ Own hq h1.size 3 1 (.slice px σ.pend.length cx) σ.pend.length xs,
    fun l _ => (σ.pend.length - numAt l 0).toNat, ⟨0, _, Nat.zero_le _, rfl, Same.refl _ _, ox4⟩, ?_⟩
  rintro x hq ⟨i, xs, hi, hl, hx, o⟩
  cases hl
  refine ⟨fun hlt => ?_, fun _ => ?_⟩
  · have hlt : i < σ.pend.length := by simp at hlt; omega
    obtain ⟨b, q, e, h0, h1', h2', w, k⟩ := o.store (i := i) hlt (v := vZ (-1)) rfl (K := fun h' => Same D h6 h' ∧ Own h' h1.size 3 1 (.slice px σ.pend.length cx) σ.pend.length (xs.set i (vZ (-1)))) fun h' ho g _ =>
      ⟨hx.trans (g.same D fun b hb => by rw [hD]; exact .inl (bx b hb)) fun x hx _ => hx, ho⟩
    refine ⟨b, q, e, h0, h1', h2', w, fun h7 e7 => ?_⟩
    obtain ⟨k1, k2⟩ := k h7 e7
    exact ⟨_, incI (by omega), ⟨i + 1, _, hlt, rfl, k1, k2⟩, by simp only [numAt]; omega⟩
  · refine ⟨fun l hr => ∃ (i : Nat) (xp : Option Addr) (xc : Nat) (ys : List Value), i ≤ 9 ∧ l = [.slice xp (σ.pend.length + i) xc, vI i] ∧ Same D h6 hr ∧ Own hr h1.size 3 1 (.slice xp (σ.pend.length + i) xc) (σ.pend.length + i) ys ∧ (∀ b, (Value.slice xp (σ.pend.length + i) xc).ownBlock = some b → D b),
      fun l _ => (9 - numAt l 1).toNat, ⟨0, px, cx, xs, Nat.zero_le _, rfl, hx, o, fun b hb => by rw [hD]; exact .inl (bx b hb)⟩, ?_⟩
    rintro xp xn xc x hr ⟨i, xp', xc', ys, hi, hl, hx, o, hb⟩
    cases hl
    have ls := hx.size
    refine ⟨fun hlt => ?_, fun _ => ?_⟩
    · have hlt : i < 9 := by simp at hlt; omega
      refine semH_push rowI o (vs := [vZ (-1)]) (m := 1) rfl rfl (by simp) (by decide) (by simp [Value.oneCell']) (by omega) (by simp only [maxLen]; omega) (by omega) fun p' c' h' ho g _ hbl => ?_
      refine ⟨_, incI (by omega), ⟨i + 1, _, _, _, hlt, rfl, hx.trans (g.same D hb) fun x hx _ => hx, ho, fun b hb' => ?_⟩, by simp only [numAt]; omega⟩
      rcases hbl with e | ⟨b2, e, hl⟩
      · exact hb b (by rw [← e]; exact hb')
      · have e2 : (Value.slice p' (σ.pend.length + i + 1) c').ownBlock = some b := hb'
        rw [e] at e2
        cases e2
        rw [hD]; right; omega
    · have dOld : ∀ b, b < h6.size → (b < h1.size ∨ h2.size ≤ b) → ¬ D b := fun b h1 h2 hd => by
        rw [hD] at hd
        rcases hd with hd | hd <;> omega
      have oyr := oy4.keep (h' := hr) fun b hb => hx.old b (oy4.lt hb).2 (dOld b (oy4.lt hb).2 (.inr (oy4.lt hb).1))
      have owr := ow.keep (h' := hr) fun b hb => hx.old b (ow.lt hb).2 (dOld b (ow.lt hb).2 (.inr (by have := (ow.lt hb).1; omega)))
      have cr := (hx.old h.size (by omega) (dOld _ (by omega) (.inl l1))).trans c4
      have pr : PairAt hr Ba Bb da db σ := (p3.ext x4).other hx (fun b hb => dOld b (by have := p.a.lt b hb; omega) (.inl (by have := p.a.lt b hb; omega))) fun b hb => dOld b (by have := p.b.lt b hb; omega) (.inl (by have := p.b.lt b hb; omega))
      refine (same_c (by omega) oyr.seg owr.seg).mono ?_
      rintro e h7 ⟨rfl, rfl⟩
      refine ⟨true, rfl, _, cellsAt_one (cellH_at cr), (pending_c pr.a (by omega)).mono ?_⟩
      rintro e h8 ⟨x8, pz, cz, rfl, oz⟩
      rw [← hLd] at oz
      refine ⟨_, _, _, rfl, (same_c (by omega) oz.seg (owr.ext x8).seg).mono ?_⟩
      rintro e h9 ⟨rfl, rfl⟩
      refine ⟨true, rfl, true, ⟨fun _ => ⟨fun _ => ⟨fun _ => ⟨rfl, rfl⟩, fun hf => (by cases hf)⟩, fun hf => (by cases hf)⟩, fun hf => (by cases hf)⟩, ?_, rfl⟩
      refine (hx6.over hx fun x hx => ?_).trans x8
      rw [hD] at hx
      rcases hx with hx | hx <;> omega

end

theorem DS.pend_read (σ : DS) (n : Int) : (σ.read n).1.pend = σ.pend := by unfold DS.read; split <;> rfl

/-- One call on one of two disks. -/
structure OpR where
  kind : Int
  on : Int
  n : Int
  s : ByteArray
  fill : UInt8
  fp : Option Addr
  fn : Nat
  fc : Nat
  fates : List (Int × Int)

def opV (o : OpR) : List Value := [vZ o.kind, vZ o.on, vZ o.n, .string o.s, vB o.fill, .slice o.fp o.fn o.fc]

structure OpOk (h : Hp) (o : OpR) : Prop where
  n0 : -9223372036854775808 ≤ o.n
  n1 : o.n ≤ 9223372036854775807
  on0 : -9223372036854775808 ≤ o.on
  on1 : o.on ≤ 9223372036854775807
  len : o.fates.length ≤ 8796093022207
  seg : SegS h o.fp o.fn 2 (o.fates.map fateV)

theorem xor8o (a : UInt8) : xorI .u8 (a.toNat : Int) (1 : Int) = ((a ^^^ 1).toNat : Int) := xor8 a.toBitVec (1 : UInt8).toBitVec

/-- pair.play -/
theorem play_c {h : Hp} {B : Nat → Prop} {da db : Nat} {σ : DS} (p : PairIn h B da db σ) (hlen : σ.pend.length ≤ 2199023255552) (o : OpR) (ok : OpOk h o) (hB : ∀ b q, o.fp = some ⟨b, q, none⟩ → o.fates ≠ [] → ¬ B b) :
    CallsH Try.prog 33 #[pairV da db, .agg (opV o).toArray] h fun e h' => Same B h h' ∧ (∃ σ', PairIn h' (GrowB B h h') da db σ' ∧ σ'.pend.length ≤ σ.pend.length + 1) ∧ e = .returned (.bool true) := by
  obtain ⟨Ba, Bb, p, hBa, hBb, hBl⟩ := p
  refine V33 _ _ _ _ _ _ _ _ _ _ h _ ?_
  intro b h1 hb e1 b1 h2 hb1 e2
  have x1 : Ext h h1 := by rw [e1]; exact Ext.push _ _
  have c1 : h1[h.size]? = some (.cells #[vP da, vP db] 59) := by rw [e1]; exact push_last
  have x2 : Ext h1 h2 := by rw [e2]; exact Ext.push _ _
  have c2 : h2[h1.size]? = some (.cells (opV o).toArray 69) := by rw [e2]; exact push_last
  clear e1 e2
  subst hb hb1
  have l1 := (Array.getElem?_eq_some_iff.1 c1).1
  have l2 := (Array.getElem?_eq_some_iff.1 c2).1
  have c12 := (x2.old h.size l1).trans c1
  have p2 := (p.ext x1).ext x2
  have x02 := x1.trans x2
  have la : ∀ b, Ba b → b < h.size := fun b hb => hBl b (hBa b hb)
  have lb : ∀ b, Bb b → b < h.size := fun b hb => hBl b (hBb b hb)
  have hs := x1.size
  -- what is left at the end
  have fin : ∀ (h3 : Hp) (Ba' Bb' : Nat → Prop) (σ' : DS), Same (fun b => Ba b ∨ Bb b) h2 h3 → PairAt h3 Ba' Bb' da db σ' → (∀ b, Ba' b → Ba b ∨ h2.size ≤ b) → (∀ b, Bb' b → Bb b ∨ h2.size ≤ b) → σ'.pend.length ≤ σ.pend.length + 1 →
      Same B h h3 ∧ ∃ σ', PairIn h3 (GrowB B h h3) da db σ' ∧ σ'.pend.length ≤ σ.pend.length + 1 := by
    intro h3 Ba' Bb' σ' y p3 h1 h2 hl
    have hy := y.size
    refine ⟨(x02.same B).trans y fun b hb _ => hb.elim (hBa b) (hBb b), σ', ⟨Ba', Bb', p3, fun b hb => ?_, fun b hb => ?_, ?_⟩, hl⟩
    · rcases h1 b hb with h | h
      · exact .inl (hBa b h)
      · exact .inr ⟨by omega, p3.a.lt b hb⟩
    · rcases h2 b hb with h | h
      · exact .inl (hBb b h)
      · exact .inr ⟨by omega, p3.b.lt b hb⟩
    · exact GrowB.lt hBl (by omega)
  have same2 : ∀ {h3 h4 : Hp}, Same Ba h2 h3 → Same Bb h3 h4 → Same (fun b => Ba b ∨ Bb b) h2 h4 := fun y z => (y.more fun _ h _ => Or.inl h).trans (z.more fun _ h _ => Or.inr h) fun _ h _ => h
  have Cp : ∀ {h3 : Hp}, Same (fun b => Ba b ∨ Bb b) h2 h3 → h3[h.size]? = some (.cells #[vP da, vP db] 59) ∧ h3[h1.size]? = some (.cells (opV o).toArray 69) := fun y =>
    ⟨(y.old h.size (by omega) fun hb => by rcases hb with hb | hb; have := la _ hb; omega; have := lb _ hb; omega).trans c12, (y.old h1.size l2 fun hb => by rcases hb with hb | hb; have := la _ hb; omega; have := lb _ hb; omega).trans c2⟩
  have ya : ∀ {h3 : Hp}, Same Ba h2 h3 → Same (fun b => Ba b ∨ Bb b) h2 h3 := fun y => y.more fun _ h _ => Or.inl h
  have C : ∀ h3 : Hp, (h3[h.size]? = some (.cells #[vP da, vP db] 59) ∧ h3[h1.size]? = some (.cells (opV o).toArray 69)) → h3[h.size]? = some (.cells #[vP da, vP db] 59) ∧ h3[h1.size]? = some (.cells (opV o).toArray 69) := fun _ h => h
  -- a write
  have wr : ∀ (h3 : Hp) (n : Int) (s : ByteArray), Ext h2 h3 → CallsH Try.prog 17 #[vP da, vZ n, .string s] h3 fun e h4 => Same Ba h3 h4 ∧ e = .returned (vZ (σ.write n s).2) ∧
      CallsH Try.prog 45 #[vP db, vZ n, .string s] h4 fun e h5 => Same Bb h4 h5 ∧ e = .returned (vZ (σ.write n s).2) ∧ (Same B h h5 ∧ ∃ σ', PairIn h5 (GrowB B h h5) da db σ' ∧ σ'.pend.length ≤ σ.pend.length + 1) := by
    intro h3 n s x3
    have p3 := p2.ext x3
    have h3s := x3.size
    refine (write_c p3.a n s (by omega)).mono ?_
    rintro e h4 ⟨y4, a4, rfl⟩
    have b4 := p3.b.other y4 fun x hx hx' => p.dis x hx' hx
    have h4s := y4.size
    refine ⟨y4, rfl, (rWrite_c b4 n s hlen).mono ?_⟩
    rintro e h5 ⟨y5, b5, rfl⟩
    have a5 := a4.other y5 fun b hb hb' => by
      rcases hb with hb | hb
      · exact p.dis b hb hb'
      · have := lb b hb'; omega
    refine ⟨y5, rfl, fin h5 _ _ _ ?_ ⟨a5, b5, fun b hb hb' => ?_⟩ (fun b hb => hb.imp id fun hb => by omega) (fun b hb => hb.imp id fun hb => by omega) (DS.pend_write _ _ _)⟩
    · exact ((x3.same _).trans (y4.more fun x hx _ => Or.inl hx) fun _ h _ => h).trans (y5.more fun x hx _ => Or.inr hx) fun _ h _ => h
    · rcases hb with hb | hb
      · rcases hb' with hb' | hb'
        · exact p.dis b hb hb'
        · have := la b hb; omega
      · rcases hb' with hb' | hb'
        · have := lb b hb'; omega
        · omega
  refine ⟨o.kind, cellsAt_one (cellH_at c2), fun _ => ?_, fun _ => ⟨fun _ => ?_, fun _ => ⟨fun _ => ?_, fun _ => ⟨fun _ => ?_, fun _ => ⟨fun _ => ?_, fun _ => ⟨fun _ => ?_, fun _ => ⟨fun _ => ?_, fun _ => ⟨fun _ => ?_, fun _ => ⟨fun _ => ?_, fun _ => ?_⟩⟩⟩⟩⟩⟩⟩⟩⟩
  · -- read
    refine ⟨_, _, pair_ld c12, _, cellsAt_one (cellH_at c2), (pread_c p2 o.n).mono ?_⟩
    rintro e h3 ⟨y3, p3, rfl⟩
    obtain ⟨f1, f2⟩ := fin h3 _ _ _ y3 p3 (fun b hb => .inl hb) (fun b hb => .inl hb) (by rw [DS.pend_read]; omega)
    exact ⟨_, rfl, f1, f2, rfl⟩
  · -- write
    refine ⟨fun h3 => h3[h.size]? = some (.cells #[vP da, vP db] 59) ∧ h3[h1.size]? = some (.cells (opV o).toArray 69), ⟨c12, c2⟩, _, cellsAt_one (cellH_at c12), _, cellsAt_one (cellH_at c2), _, cellsAt_one (cellH_at c2), (wr h2 o.n o.s (Ext.refl _)).mono ?_⟩
    rintro e h3 ⟨y3, rfl, hw⟩
    refine ⟨_, rfl, Cp (ya y3), _, fun h' hc => cellsAt_one (cellH_at hc.1), _, fun h' hc => cellsAt_one (cellH_at hc.2), _, fun h' hc => cellsAt_one (cellH_at hc.2), hw.mono ?_⟩
    rintro e h4 ⟨y4, rfl, f1, f2⟩
    exact ⟨_, rfl, Cp (same2 y3 y4), f1, f2, by simp⟩
  · -- full
    refine ⟨fun h3 => h3[h.size]? = some (.cells #[vP da, vP db] 59) ∧ h3[h1.size]? = some (.cells (opV o).toArray 69), ⟨c12, c2⟩, _, fun h' hc => cellsAt_one (cellH_at hc.2), _, cellsAt_one (cellH_at c12), (rSize_c p2.b).mono ?_⟩
    rintro e h3 ⟨rfl, rfl⟩
    refine ⟨_, rfl, ⟨c12, c2⟩, (pick_c o.n σ.safe.length p2.a.ok.pos ok.n0 ok.n1 h3).mono ?_⟩
    rintro e h4 ⟨rfl, rfl⟩
    refine ⟨_, rfl, ⟨c12, c2⟩, _, cellsAt_one (cellH_at c2), _, cellsAt_one (cellH_at c2), _, xor8o o.fill, (full_c o.fill (o.fill ^^^ 1) h4).mono ?_⟩
    rintro e h5 ⟨x5, rfl⟩
    have c15 := (x5.old h.size (by omega)).trans c12
    have c25 := (x5.old h1.size l2).trans c2
    refine ⟨_, rfl, fun h3 => h3[h.size]? = some (.cells #[vP da, vP db] 59), c15, _, cellsAt_one (cellH_at c15), (wr h5 _ _ x5).mono ?_⟩
    rintro e h6 ⟨y6, rfl, hw⟩
    have l5 := x5.size
    have l6 := y6.size
    have c16 := (y6.old h.size (by omega) fun hb => by have := la _ hb; omega).trans c15
    refine ⟨_, rfl, c16, _, fun h' hc => cellsAt_one (cellH_at hc), hw.mono ?_⟩
    rintro e h7 ⟨y7, rfl, f1, f2⟩
    exact ⟨_, rfl, (y7.old h.size (by omega) fun hb => by have := lb _ hb; omega).trans c16, f1, f2, by simp⟩
  · -- flush
    refine ⟨fun h3 => h3[h.size]? = some (.cells #[vP da, vP db] 59) ∧ h3[h1.size]? = some (.cells (opV o).toArray 69), ⟨c12, c2⟩, _, cellsAt_one (cellH_at c12), (flush_c p2.a).mono ?_⟩
    rintro e h3 ⟨y3, _, a3, rfl⟩
    refine ⟨_, rfl, Cp (ya y3), _, fun h' hc => cellsAt_one (cellH_at hc.1), (rFlush_c (p2.b.other y3 fun x hx hx' => p.dis x hx' hx)).mono ?_⟩
    rintro e h4 ⟨y4, _, b4, rfl⟩
    obtain ⟨f1, f2⟩ := fin h4 _ _ _ (same2 y3 y4) ⟨a3.other y4 p.dis, b4, p.dis⟩ (fun b hb => .inl hb) (fun b hb => .inl hb) (by have := DS.pend_flush σ; omega)
    exact ⟨_, rfl, Cp (same2 y3 y4), f1, f2, by simp⟩
  · -- cut
    refine ⟨_, cellsAt_one (cellH_at c12), _, cellsAt_one (cellH_at c2), (cut_c p2.a o.n ok.n1).mono ?_⟩
    rintro e h3 ⟨y3, _, a3, rfl⟩
    obtain ⟨c13, c23⟩ := Cp (ya y3)
    refine ⟨rfl, _, cellsAt_one (cellH_at c13), _, cellsAt_one (cellH_at c23), (rCut_c (p2.b.other y3 fun x hx hx' => p.dis x hx' hx) o.n ok.n1).mono ?_⟩
    rintro e h4 ⟨y4, _, b4, rfl⟩
    obtain ⟨f1, f2⟩ := fin h4 _ _ _ (same2 y3 y4) ⟨a3.other y4 p.dis, b4, p.dis⟩ (fun b hb => .inl hb) (fun b hb => .inl hb) (by rw [DS.pend_cut]; omega)
    exact ⟨rfl, f1, f2, rfl⟩
  · -- crash
    refine ⟨_, _, pair_ld c12, _, _, _, cellsAt_one (cellH_at c2), (pcrash_c p2 o.fates ok.len (ok.seg.ext x02) fun b q hp h0 => ⟨fun hb => hB b q hp h0 (hBa b hb), fun hb => hB b q hp h0 (hBb b hb)⟩).mono ?_⟩
    rintro e h3 ⟨y3, p3, rfl⟩
    obtain ⟨f1, f2⟩ := fin h3 _ _ _ y3 p3 (fun b hb => .inl hb) (fun b hb => .inl hb) (by simp [DS.crash])
    exact ⟨_, rfl, f1, f2, rfl⟩
  · -- pending
    refine ⟨_, _, pair_ld c12, (ppend_c p2 (by omega)).mono ?_⟩
    rintro e h3 ⟨x3, rfl⟩
    obtain ⟨f1, f2⟩ := fin h3 _ _ _ (x3.same _) (p2.ext x3) (fun b hb => .inl hb) (fun b hb => .inl hb) (by omega)
    exact ⟨_, rfl, f1, f2, rfl⟩
  · -- image
    refine ⟨fun h3 => h3[h.size]? = some (.cells #[vP da, vP db] 59) ∧ h3[h1.size]? = some (.cells (opV o).toArray 69), ⟨c12, c2⟩, _, cellsAt_one (cellH_at c12), (image_c p2.a).mono ?_⟩
    rintro e h3 ⟨x3, rfl⟩
    refine ⟨_, rfl, Cp (x3.same _), _, fun h' hc => cellsAt_one (cellH_at hc.1), (rImage_c (p2.ext x3).b).mono ?_⟩
    rintro e h4 ⟨x4, rfl⟩
    obtain ⟨f1, f2⟩ := fin h4 _ _ _ ((x3.trans x4).same _) ((p2.ext x3).ext x4) (fun b hb => .inl hb) (fun b hb => .inl hb) (by omega)
    exact ⟨_, rfl, Cp ((x3.trans x4).same _), f1, f2, by simp⟩
  · -- every one
    refine ⟨fun l hq => ∃ (i : Nat) (τ : DS), i ≤ 64 ∧ l = [vI i] ∧ Same (fun b => Ba b ∨ Bb b) h2 hq ∧ PairAt hq Ba Bb da db τ ∧ τ.pend = σ.pend, fun l _ => (64 - numAt l 0).toNat, ⟨0, σ, Nat.zero_le _, rfl, Same.refl _ _, p2, rfl⟩, ?_⟩
    rintro x hq ⟨i, τ, hi, hl, y, pq, hpd⟩
    cases hl
    obtain ⟨f1, f2⟩ := fin hq _ _ _ y pq (fun b hb => .inl hb) (fun b hb => .inl hb) (by rw [hpd]; omega)
    refine ⟨fun l hr => l = [] ∧ hr = hq ∧ i < 64, ⟨_, cellsAt_one (cellH_at (Cp y).1), (rSize_c pq.b).mono ?_⟩, ?_⟩
    · rintro e h3 ⟨rfl, rfl⟩
      exact ⟨_, rfl, fun _ => ⟨fun hlt => ⟨rfl, rfl, by simp at hlt; omega⟩, fun _ => ⟨f1, f2, rfl⟩⟩, fun _ => ⟨f1, f2, rfl⟩⟩
    rintro h3 ⟨_, rfl, h64⟩
    refine ⟨_, _, pair_ld (Cp y).1, (pread_c pq (i : Int)).mono ?_⟩
    rintro e h4 ⟨y4, p4, rfl⟩
    refine ⟨true, rfl, fun hf => (by cases hf), fun _ => ⟨_, incI (by omega), ⟨i + 1, _, h64, rfl, y.trans y4 fun _ h _ => h, p4, by rw [DS.pend_read]; exact hpd⟩, by simp only [numAt]; omega⟩⟩
  · obtain ⟨f1, f2⟩ := fin h2 _ _ _ (Same.refl _ _) p2 (fun b hb => .inl hb) (fun b hb => .inl hb) (by omega)
    exact ⟨f1, f2, rfl⟩

end Go.Vc
