import Derived.Test.YthkbecpgbjejkaaDoorS9WWrG
set_option maxRecDepth 10000
/- WalPlays: a side's other calls. -/
namespace Go.Vc
open Go Go.Proofs Go.MapKept

section
variable {C C1 C2 C1' C2' B1 B2 : Nat → Prop} {h h1 h2 hs : Hp} {s d q l m l' m' N : Nat} {σ τ σ' τ' : DS} {L L' : Lg} {a0 a1 : Addr} {lv mv : Value}

set_option maxHeartbeats 1000000 in
/-- turnoutlaw19.side.made -/
theorem made_c (X : DiskAt dI h B1 d σ) (Y : RefAt rI h B2 q τ) (x : Rds σ τ) (cs : h[s]? = some (.cells #[vP d, vP q, lv, mv] 64)) (n1 : ¬ B1 s) (n2 : ¬ B2 s) (first count : Int) (hf : first ≤ 9223372036854775807) (e : Nat) :
    CallsH Tryd.prog 34 #[vP s, vZ first, vZ count, vU e] h fun en hs => en = .returned (.bool true) ∧
      (((regionB σ.safe.length first count && epochB e) = false ∧ hs = h) ∨
       ((regionB σ.safe.length first count && epochB e) = true ∧ ∃ l m, h.size ≤ l ∧ h.size ≤ m ∧ l ≠ m ∧ h.size ≤ hs.size ∧ (∀ b, b < h.size → b ≠ s → hs[b]? = h[b]?) ∧ hs[s]? = some (.cells #[vP d, vP q, vP l, vP m] 64) ∧
         LD (fun b => B1 b ∨ b = l) hs d σ l (newL first count e) ∧ RL (fun b => B2 b ∨ b = m) hs q τ m (newL first count e) ∧ (newL first count e).Ok)) := by
  have ls := (Array.getElem?_eq_some_iff.1 cs).1
  have at_ : ∀ {hq : Hp} {k : Nat} {v : Value}, hq[s]? = some (.cells #[vP d, vP q, lv, mv] 64) → [vP d, vP q, lv, mv][k]? = some v → cellsAt hq s (0 + k) [v] := fun c hv => by
    refine cellsAt_one (cellH_at c |>.trans ?_)
    rw [Nat.zero_add, ← hv]; simp
  have cnd : regionB τ.safe.length first count = regionB σ.safe.length first count := by rw [x.safe]
  refine V34 _ _ _ _ h _ ⟨s, 0, rfl, _, at_ cs rfl, (wnew_c X first count e hf).mono ?_⟩
  rintro _ k2 (⟨r1, e2, rfl⟩ | ⟨r1, x2, A, ok, rfl⟩)
  · subst e2
    refine ⟨_, _, rfl, s, 0, rfl, _, at_ cs rfl, (rnew_c Y first count e hf).mono ?_⟩
    rintro _ k3 (⟨r2, e3, rfl⟩ | ⟨r2, x3, B, ok', rfl⟩)
    · subst e3
      refine ⟨_, _, rfl, fun v hq => hq = k3, ⟨false, ⟨fun hc => (by simp at hc), fun _ => ⟨true, eqv_nil uPL, true, eqv_nil uPRL, true, eqv_bool uBool true true, rfl, rfl⟩⟩, fun hc => (by cases hc), fun _ => rfl⟩, ?_⟩
      rintro hq rfl
      exact ⟨false, ⟨true, eqv_nil uPL, fun hc => (by cases hc), fun _ => ⟨rfl, rfl⟩⟩, fun hc => (by cases hc), fun _ => ⟨rfl, .inl ⟨r1, rfl⟩⟩⟩
    · rw [cnd, r1] at r2; cases r2
  · have cs2 := (x2.old s ls).trans cs
    have Y2 := Y.ext x2
    refine ⟨_, _, rfl, s, 0, rfl, _, at_ cs2 rfl, (rnew_c Y2 first count e hf).mono ?_⟩
    rintro _ k3 (⟨r2, e3, rfl⟩ | ⟨r2, x3, B, ok', rfl⟩)
    · rw [cnd, r1] at r2; cases r2
    have cs3 := (x3.old s (by have := x2.size; omega)).trans cs2
    have lh := A.lt h.size (.inr rfl)
    refine ⟨_, _, rfl, fun v hq => hq = k3, ⟨false, ⟨fun hc => (by simp at hc), fun _ => ⟨false, eqv_ptr uPL _, false, eqv_ptr uPRL _, true, eqv_bool uBool false false, rfl, rfl⟩⟩, fun hc => (by cases hc), fun _ => rfl⟩, ?_⟩
    rintro hq rfl
    refine ⟨true, ⟨false, eqv_ptr uPL _, fun _ => ⟨false, eqv_ptr uPRL _, rfl, rfl⟩, fun hc => (by cases hc)⟩, fun _ => ⟨s, 0, rfl, rfl, wrAt_of cs3 (by show 0 + 2 + 1 ≤ 4; omega) (.inr (.inr (Nat.le_refl _))), ?_⟩, fun hc => (by cases hc)⟩
    intro k4 e4
    have cs4 : k4[s]? = some (.cells #[vP d, vP q, vP h.size, mv] 64) := by rw [e4, setsH_at cs3]; rfl
    refine ⟨s, 0, rfl, rfl, wrAt_of cs4 (by show 0 + 3 + 1 ≤ 4; omega) (.inr (.inr (Nat.le_refl _))), ?_⟩
    intro k5 e5
    have cs5 : k5[s]? = some (.cells #[vP d, vP q, vP h.size, vP k2.size] 64) := by rw [e5, setsH_at cs4]; rfl
    have ne : ∀ b, b ≠ s → k5[b]? = hq[b]? := fun b hb => by rw [e5, setsH_ne hb, e4, setsH_ne hb]
    have sz : k5.size = hq.size := by rw [e5, setsH_size, e4, setsH_size]
    have s2 := x2.size
    have s3 := x3.size
    refine ⟨rfl, .inr ⟨r1, h.size, k2.size, Nat.le_refl _, s2, by omega, by omega, fun b hb hn => ((ne b hn).trans (x3.old b (by omega))).trans (x2.old b hb), cs5, ?_, ?_, ok⟩⟩
    · exact (A.ext x3).keep (by omega) fun b hb => ne b fun hE => by
        subst hE
        rcases hb with hb | hb
        · exact n1 hb
        · omega
    · exact B.keep (by omega) fun b hb => ne b fun hE => by
        subst hE
        rcases hb with hb | hb
        · exact n2 hb
        · omega

/-- Both disks go on, the logs stay. -/
theorem SdX.op (S : SdX C C1 C2 h s d q l m σ τ L) {D1 D2 : Nat → Prop} {p : Option Addr} {c : Nat} (A : LdX C1 D1 h d σ l L p c) (B : RlX C2 D2 h q τ m L) (y : Same (Or2 D1 D2) h hs) (E : DiskAt dI hs D1 d σ') (F : RefAt rI hs D2 q τ') (r : Rds σ' τ') :
    SdX C C1 C2 hs s d q l m σ' τ' L ∧ Kp C h C hs := by
  have no1 : ∀ {b}, C1 b → ¬ D1 b → ¬ Or2 D1 D2 b := fun hb hn ho => by
    rcases ho with ho | ho
    · exact hn ho
    · exact S.dis _ hb (B.sub _ ho)
  have no2 : ∀ {b}, C2 b → ¬ D2 b → ¬ Or2 D1 D2 b := fun hb hn ho => by
    rcases ho with ho | ho
    · exact S.dis _ (A.sub _ ho) hb
    · exact hn ho
  have nos : ¬ Or2 D1 D2 s := fun ho => by
    rcases ho with ho | ho
    · exact S.s1 (A.sub _ ho)
    · exact S.s2 (B.sub _ ho)
  have lt : ∀ b, C b → b < hs.size := fun b hb => Nat.lt_of_lt_of_le (S.lt b hb) y.size
  refine ⟨⟨(y.old s (S.lt s S.cs) nos).trans S.cell, ⟨D1, p, c, E, A.sub, (y.old l (A.lt l A.cl) (no1 A.cl A.dl)).trans A.cell, A.cl, A.dl, A.row.keep fun b hb => y.old b (A.row.lt hb).2 (no1 (A.own b hb).1 (A.own b hb).2), A.own, fun b hb => lt b (S.sub1 b hb)⟩, ⟨D2, F, B.sub, (y.old m (B.lt m B.cm) (no2 B.cm B.dm)).trans B.cell, B.cm, B.dm, fun b hb => lt b (S.sub2 b hb)⟩, r, S.rd, S.dis, S.s1, S.s2, S.sub1, S.sub2, S.cs, lt⟩, Kp.same (y.more fun b ho _ => ?_)⟩
  rcases ho with ho | ho
  · exact S.sub1 b (A.sub b ho)
  · exact S.sub2 b (B.sub b ho)

theorem SdX.scans (S : SdX C C1 C2 h s d q l m σ τ L) (g : Gl C h a0 a1) (b : Bq N σ L) (first count : Int) (hf : first ≤ 9223372036854775807) (e : Nat) :
    CallsH Tryd.prog 27 #[vP s, vZ first, vZ count, vU e] h fun en hs => ∃ σ' τ', SdX C C1 C2 hs s d q l m σ' τ' L ∧ Bq N σ' L ∧ Kp C h C hs ∧ en = .returned (.bool true) := by
  obtain ⟨D1, p, c, A⟩ := S.a
  obtain ⟨D2, B⟩ := S.b
  have sub : ∀ b, Or2 D1 D2 b → C b := fun b ho => ho.elim (fun h => S.sub1 b (A.sub b h)) fun h => S.sub2 b (B.sub b h)
  refine (scans_c A.disk B.disk S.r (fun b h1 h2 => S.dis b (A.sub b h1) (B.sub b h2)) (g.sub sub) S.cell (fun ho => ho.elim (fun h => S.s1 (A.sub _ h)) fun h => S.s2 (B.sub _ h)) first count hf e).mono ?_
  rintro en hs ⟨σ', τ', y, E, F, x1, x2, rfl⟩
  obtain ⟨S', k⟩ := S.op A B y E F (x1.symm.trans (S.r.trans x2))
  exact ⟨σ', τ', S', b.rds x1, k, rfl⟩
theorem SdX.lasts (S : SdX C C1 C2 h s d q l m σ τ L) (g : Gl C h a0 a1) (b : Bq N σ L) (first count : Int) (hf : first ≤ 9223372036854775807) :
    CallsH Tryd.prog 28 #[vP s, vZ first, vZ count] h fun en hs => ∃ σ' τ', SdX C C1 C2 hs s d q l m σ' τ' L ∧ Bq N σ' L ∧ Kp C h C hs ∧ en = .returned (.bool true) := by
  obtain ⟨D1, p, c, A⟩ := S.a
  obtain ⟨D2, B⟩ := S.b
  have sub : ∀ b, Or2 D1 D2 b → C b := fun b ho => ho.elim (fun h => S.sub1 b (A.sub b h)) fun h => S.sub2 b (B.sub b h)
  refine (lasts_c A.disk B.disk S.r (fun b h1 h2 => S.dis b (A.sub b h1) (B.sub b h2)) (g.sub sub) S.cell (fun ho => ho.elim (fun h => S.s1 (A.sub _ h)) fun h => S.s2 (B.sub _ h)) first count hf).mono ?_
  rintro en hs ⟨σ', τ', y, E, F, x1, x2, rfl⟩
  obtain ⟨S', k⟩ := S.op A B y E F (x1.symm.trans (S.r.trans x2))
  exact ⟨σ', τ', S', b.rds x1, k, rfl⟩

/-- A log takes the other's place. -/
theorem SdX.made (S : SdX C C1 C2 h s d q l m σ τ L) (b : Bq N σ L) (first count : Int) (hf : first ≤ 9223372036854775807) (e : Nat) :
    CallsH Tryd.prog 34 #[vP s, vZ first, vZ count, vU e] h fun en hs => ∃ C', Sd C' hs s (N + 1) ∧ Kp C h C' hs ∧ en = .returned (.bool true) := by
  obtain ⟨D1, p, c, A⟩ := S.a
  obtain ⟨D2, B⟩ := S.b
  refine (made_c A.disk B.disk S.r S.cell (fun h => S.s1 (A.sub _ h)) (fun h => S.s2 (B.sub _ h)) first count hf e).mono ?_
  rintro _ hs ⟨rfl, ⟨-, rfl⟩ | ⟨hr, l', m', hl, hm, hne, hz, old, cs, A', B', ok⟩⟩
  · exact ⟨C, Sd.more ⟨_, _, _, _, _, _, _, _, _, S, b⟩ (Nat.le_add_right _ 1), Kp.refl _ _, rfl⟩
  have hb := b.b
  have ha := b.a
  have hr1 : regionB σ.safe.length first count = true := by simpa using And.left (by simpa using hr)
  have hrr : 0 ≤ first ∧ 1 ≤ count ∧ first < σ.safe.length ∧ count ≤ σ.safe.length - first := of_decide_eq_true hr1
  have ls := S.lt s S.cs
  have c8 : (newL first count e).count ≤ 8 := by show count.toNat ≤ 8; omega
  have i0 : (newL first count e).i = 0 := rfl
  refine ⟨GrowB C h hs, ⟨_, _, d, q, l', m', σ, τ, newL first count e, ⟨cs, A', B', S.r, newL_rdy ok, ?_, ?_, ?_, ?_, ?_, .inl S.cs, GrowB.lt S.lt hz⟩, ⟨by omega, hb, c8⟩⟩, ⟨hz, fun b hb hn => ⟨?_, ?_⟩⟩, rfl⟩
  · rintro b (h1 | h1) (h2 | h2)
    · exact S.dis b (A.sub b h1) (B.sub b h2)
    · have := A.lt b (A.sub b h1); omega
    · have := B.lt b (B.sub b h2); omega
    · omega
  · rintro (h1 | h1)
    · exact S.s1 (A.sub _ h1)
    · omega
  · rintro (h1 | h1)
    · exact S.s2 (B.sub _ h1)
    · omega
  · rintro b (h1 | h1)
    · exact .inl (S.sub1 b (A.sub b h1))
    · exact .inr ⟨by omega, by rw [h1]; exact A'.lt l' (.inr rfl)⟩
  · rintro b (h1 | h1)
    · exact .inl (S.sub2 b (B.sub b h1))
    · exact .inr ⟨by omega, by rw [h1]; exact B'.lt m' (.inr rfl)⟩
  · rintro (hc | hc)
    · exact hn hc
    · omega
  · exact old b hb fun hE => hn (by rw [hE]; exact S.cs)

end
end Go.Vc

/- WalPlays: one call of the script. -/
namespace Go.Vc
open Go Go.Proofs Go.MapKept

/-- turnoutlaw19.Op -/
structure WOp where
  kind : Int
  on : Int
  n : Int
  first : Int
  count : Int
  epoch : Nat
  text : ByteArray
  fates : List (Int × Int)

structure WOp.Ok (o : WOp) : Prop where
  n0 : -9223372036854775808 ≤ o.n
  n1 : o.n ≤ 9223372036854775807
  o0 : -9223372036854775808 ≤ o.on
  o1 : o.on ≤ 9223372036854775807
  f1 : o.first ≤ 9223372036854775807
  c0 : -9223372036854775808 ≤ o.count
  c1 : o.count ≤ 9223372036854775807

def wopL (o : WOp) (p : Option Addr) (n c : Nat) : List Value := [vZ o.kind, vZ o.on, vZ o.n, vZ o.first, vZ o.count, vU o.epoch, .string o.text, .slice p n c]

section
variable {C C1 C2 : Nat → Prop} {h h1 h2 hs : Hp} {s d q l m N : Nat} {σ τ σ' τ' : DS} {L L' : Lg} {a0 a1 : Addr}

theorem op_at {o : WOp} {p : Option Addr} {n c bo : Nat} {hq : Hp} {k : Nat} {v : Value} (co : hq[bo]? = some (.cells (wopL o p n c).toArray 82)) (hv : (wopL o p n c)[k]? = some v) : cellsAt hq bo (0 + k) [v] := by
  refine cellsAt_one (cellH_at co |>.trans ?_)
  rw [Nat.zero_add, ← hv]; simp

theorem wrapU64N (z : Int) : ∃ e : Nat, IntKind.u64.wrap z = (e : Int) := by
  rw [wrapU64]
  exact Int.eq_ofNat_of_zero_le (Int.emod_nonneg z (by decide))

def PlayT (C : Nat → Prop) (h : Hp) (s M : Nat) (e : Ending) (hs : Hp) : Prop := ∃ C', Sd C' hs s M ∧ Kp C h C' hs ∧ e = .returned (.bool true)
theorem PlayT.of {C' : Nat → Prop} {M : Nat} (x : Ext h h1) (hM : M ≤ N) (S : Sd C' hs s M) (k : Kp C h1 C' hs) : PlayT C h s N (.returned (.bool true)) hs := ⟨C', S.more hM, (Kp.ext C x).trans k, rfl⟩
theorem SdX.sd (S : SdX C C1 C2 h s d q l m σ τ L) (b : Bq N σ L) : Sd C h s N := ⟨_, _, _, _, _, _, _, _, _, S, b⟩

set_option maxHeartbeats 4000000 in
/-- turnoutlaw19.side.play -/
theorem play_c (S : SdX C C1 C2 h s d q l m σ τ L) (g : Gl C h a0 a1) (b : Bq N σ L) (hN : N ≤ 1900000000000) (o : WOp) (ok : o.Ok) {fp : Option Addr} {fn fc : Nat} (hf : SegS h fp fn 2 (o.fates.map fateV)) (hB : ∀ b o', fp = some ⟨b, o', none⟩ → o.fates ≠ [] → ¬ C b) :
    CallsH Tryd.prog 35 #[vP s, .agg (wopL o fp fn fc).toArray] h (PlayT C h s (N + 1)) := by
  have ba := b.a
  have bc := b.c
  have rp := S.r.pend
  have o3 := S.rd.ok.fit
  have fr : L.free ≤ 65536 := by unfold Lg.free; split <;> omega
  have n0 := ok.n0
  have n1 := ok.n1
  have c0 := ok.c0
  have c1 := ok.c1
  refine V35 _ _ _ _ _ _ _ _ _ _ _ h _ ?_
  intro bo g0 hbo e0
  have x0 : Ext h g0 := by rw [e0]; exact Ext.push _ _
  have co : g0[bo]? = some (.cells (wopL o fp fn fc).toArray 82) := by rw [e0, hbo]; exact push_last
  have S0 := S.ext x0
  have G0 := g.ext x0
  have nbo : ¬ C bo := fun hc => by have := S.lt bo hc; omega
  have lbo := (Array.getElem?_eq_some_iff.1 co).1
  have hf0 := hf.ext x0
  have g1' := G0.sub S.sub1
  clear e0 hbo
  refine ⟨_, op_at co rfl, fun hk => ?_, fun _ => ⟨fun hk => ?_, fun _ => ⟨fun hk => ?_, fun _ => ⟨fun hk => ?_, fun _ => ⟨fun hk => ?_, fun _ => ⟨fun hk => ?_, fun _ => ⟨fun hk => ?_, fun _ => ⟨fun hk => ?_, fun _ => ⟨fun hk => ?_, fun _ => ⟨fun hk => ?_, fun _ => ⟨fun hk => ?_, fun _ => PlayT.of x0 (Nat.le_add_right _ _) (S0.sd b) (Kp.refl _ _)⟩⟩⟩⟩⟩⟩⟩⟩⟩⟩⟩
  · -- append
    refine ⟨_, op_at co rfl, (appends_c S0 G0 b (by omega) o.text).mono ?_⟩
    rintro _ hs ⟨C', T, k, rfl⟩
    exact ⟨_, rfl, PlayT.of x0 (by omega) T k⟩
  · -- long
    refine ⟨_, op_at co rfl, fun hn => ?_, fun hn => ?_⟩
    · refine ⟨fun h' => h'[bo]? = some (.cells (wopL o fp fn fc).toArray 82), co, s, 0, rfl, _, S0.at rfl, (rfree_c S0.b S0.rd.ok).mono ?_⟩
      rintro _ k1 ⟨e1, rfl⟩
      rw [e1]
      refine ⟨_, rfl, co, _, fun h' c => op_at c rfl, (pick_c o.n 2 (by decide) n0 n1 g0).mono ?_⟩
      rintro _ k2 ⟨e2, rfl⟩
      rw [e2]
      have hp := pickN_lt o.n (n := 2) (by decide)
      refine ⟨_, rfl, co, ((L.free + pickN o.n 2 : Nat) : Int), by rw [wrapI64] <;> omega, _, fun h' c => op_at c rfl, (longW_c (L.free + pickN o.n 2) o.n (by omega) g0).mono ?_⟩
      rintro _ g3 ⟨x3, rfl⟩
      have co3 := (x3.old bo lbo).trans co
      refine ⟨_, rfl, co3, (appends_c (S0.ext x3) (G0.ext x3) b (by omega) _).mono ?_⟩
      rintro _ g4 ⟨C', T, k, rfl⟩
      exact ⟨_, rfl, k.old co3 nbo, PlayT.of x0 (by omega) T ((Kp.ext C x3).trans k)⟩
    · have hn : ¬ o.n < 0 := of_decide_eq_false hn
      obtain ⟨w, hw⟩ := Int.eq_ofNat_of_zero_le (show 0 ≤ o.n by omega)
      have hw3 : w % 3001 < 3001 := Nat.mod_lt _ (by decide)
      refine ⟨_, op_at co rfl, by decide, ((w % 3001 : Nat) : Int), by rw [hw]; exact tmod_nat w 3001, _, op_at co rfl, (longW_c (w % 3001) o.n (by omega) g0).mono ?_⟩
      rintro _ g3 ⟨x3, rfl⟩
      refine ⟨_, rfl, (appends_c (S0.ext x3) (G0.ext x3) b (by omega) _).mono ?_⟩
      rintro _ g4 ⟨C', T, k, rfl⟩
      exact ⟨_, rfl, PlayT.of x0 (by omega) T ((Kp.ext C x3).trans k)⟩
  · -- sync
    refine ⟨fun h' => h'[s]? = some (.cells #[vP d, vP q, vP l, vP m] 64), S0.cell, s, 0, rfl, _, S0.at rfl, (lsync_c S0.a S0.rd.ok g1'.hh g1'.n0 (by omega)).mono ?_⟩
    rintro _ g1 ⟨C1', A, k1, rfl⟩
    obtain ⟨m1, m2, m3, m4⟩ := S0.mid k1
    refine ⟨_, rfl, m2, s, 0, rfl, _, fun h' c => side_at c rfl, (rsync_c m1 S.rd.ok (by rw [rp]; omega)).mono ?_⟩
    rintro _ g2 ⟨C2', B, k2, rfl⟩
    obtain ⟨r2, e2⟩ := syncL_rds (L := L) S.r
    rw [e2] at B ⊢
    obtain ⟨S2, K⟩ := S0.both A k1 B k2 r2 (syncL_rdy S.rd)
    have e : decide ((syncL σ L).2.2 = (syncL σ L).2.2) = true := by simp
    refine ⟨_, rfl, S2.cell, ?_⟩
    rw [e]
    exact PlayT.of x0 (by omega) (S2.sd (b.sync S.rd)) K
  · -- scan
    refine ⟨_, op_at co rfl, _, op_at co rfl, _, op_at co rfl, (S0.scans G0 b o.first o.count ok.f1 o.epoch).mono ?_⟩
    rintro _ g1 ⟨σ', τ', S1, b1, k1, rfl⟩
    exact ⟨_, rfl, PlayT.of x0 (by omega) (S1.sd b1) k1⟩
  · -- of its own region
    obtain ⟨D2, B⟩ := S0.b
    refine ⟨s, 0, rfl, _, S0.at rfl, m, 0, rfl, _, B.at rfl, s, 0, rfl, _, S0.at rfl, m, 0, rfl, _, B.at rfl, s, 0, rfl, _, S0.at rfl, m, 0, rfl, _, B.at rfl, (S0.scans G0 b (L.first : Int) (L.count : Int) (by omega) L.epoch).mono ?_⟩
    rintro _ g1 ⟨σ', τ', S1, b1, k1, rfl⟩
    obtain ⟨D2', B1⟩ := S1.b
    refine ⟨_, rfl, s, 0, rfl, _, S1.at rfl, m, 0, rfl, _, B1.at rfl, s, 0, rfl, _, S1.at rfl, m, 0, rfl, _, B1.at rfl, (S1.lasts (G0.kp k1) b1 (L.first : Int) (L.count : Int) (by omega)).mono ?_⟩
    rintro _ g2 ⟨σ2, τ2, S2, b2, k2, rfl⟩
    exact ⟨_, rfl, true, ⟨fun _ => ⟨rfl, rfl⟩, fun hc => (by cases hc)⟩, PlayT.of x0 (by omega) (S2.sd b2) (k1.trans k2)⟩
  · -- last
    refine ⟨_, op_at co rfl, _, op_at co rfl, (S0.lasts G0 b o.first o.count ok.f1).mono ?_⟩
    rintro _ g1 ⟨σ', τ', S1, b1, k1, rfl⟩
    exact ⟨_, rfl, PlayT.of x0 (by omega) (S1.sd b1) k1⟩
  · -- cut
    refine ⟨s, 0, rfl, _, S0.at rfl, _, op_at co rfl, (S0.a.cut o.n n1).mono ?_⟩
    rintro _ g1 ⟨A, k1, rfl⟩
    obtain ⟨⟨D2, B⟩, m2, m3, m4⟩ := S0.mid k1
    refine ⟨rfl, s, 0, rfl, _, side_at m2 rfl, _, op_at (k1.old co fun hc => nbo (S.sub1 _ hc)) rfl, (rCut_c B.disk o.n n1).mono ?_⟩
    rintro _ g2 ⟨y, _, E, rfl⟩
    obtain ⟨B', k2⟩ := B.goS y E
    obtain ⟨S2, K⟩ := S0.both A k1 ⟨_, B'⟩ k2 (S.r.cut o.n) S.rd
    exact ⟨rfl, PlayT.of x0 (by omega) (S2.sd (b.cut o.n)) K⟩
  · -- crash
    refine ⟨s, 0, rfl, _, S0.at rfl, _, _, _, op_at co rfl, (S0.a.crash o.fates hf0 fun b o' hp h0 hc => hB b o' hp h0 (S.sub1 _ hc)).mono ?_⟩
    rintro _ g1 ⟨A, k1, rfl⟩
    obtain ⟨⟨D2, B⟩, m2, m3, m4⟩ := S0.mid k1
    have nm : ∀ {x : List (Int × Int)}, x.map fateV ≠ [] → x ≠ [] := fun hx e => hx (by rw [e]; rfl)
    have hf1 : SegS g1 fp fn 2 (o.fates.map fateV) := hf0.keep fun b o' hp h0 => (k1.2 b (hf0.block (by decide) hp h0) fun hc => hB b o' hp (nm h0) (S.sub1 _ hc)).2
    refine ⟨rfl, s, 0, rfl, _, side_at m2 rfl, _, _, _, op_at (k1.old co fun hc => nbo (S.sub1 _ hc)) rfl, (rCrash_c B.disk o.fates hf1 fun b o' hp h0 hc => hB b o' hp h0 (S.sub2 _ (B.sub _ hc))).mono ?_⟩
    rintro _ g2 ⟨y, E, rfl⟩
    obtain ⟨B', k2⟩ := B.goS y E
    obtain ⟨S2, K⟩ := S0.both A k1 ⟨_, B'⟩ k2 (S.r.crash o.fates) S.rd
    exact ⟨rfl, PlayT.of x0 (by omega) (S2.sd (b.crash o.fates)) K⟩
  · -- new
    refine ⟨_, op_at co rfl, _, op_at co rfl, _, op_at co rfl, (S0.made b o.first o.count ok.f1 o.epoch).mono ?_⟩
    rintro _ g1 ⟨C', T, k, rfl⟩
    exact ⟨_, rfl, PlayT.of x0 (by omega) T k⟩
  · -- the next
    obtain ⟨D2, B⟩ := S0.b
    obtain ⟨e1, he1⟩ := wrapU64N ((L.epoch : Int) + 1)
    obtain ⟨e2, he2⟩ := wrapU64N ((L.epoch : Int) - 1)
    refine ⟨s, 0, rfl, _, S0.at rfl, m, 0, rfl, _, B.at rfl, _, he1, fun v hq => ∃ e : Nat, v = [vU e] ∧ hq = g0, ⟨_, op_at co rfl, fun _ => ⟨s, 0, rfl, _, S0.at rfl, m, 0, rfl, _, B.at rfl, _, he2, e2, rfl, rfl⟩, fun _ => ⟨e1, rfl, rfl⟩⟩, ?_⟩
    rintro _ hq ⟨e, hv, rfl⟩
    cases hv
    refine ⟨s, 0, rfl, _, S0.at rfl, m, 0, rfl, _, B.at rfl, s, 0, rfl, _, S0.at rfl, m, 0, rfl, _, B.at rfl, (S0.made b (L.first : Int) (L.count : Int) (by omega) e).mono ?_⟩
    rintro _ g1 ⟨C', T, k, rfl⟩
    exact ⟨_, rfl, PlayT.of x0 (by omega) T k⟩
  · -- write
    obtain ⟨c, hc⟩ : ∃ c : UInt8, c = UInt8.ofNat (o.n % 256).toNat := ⟨_, rfl⟩
    have hu : IntKind.u8.wrap o.n = (c.toNat : Int) := by
      rw [hc, wrapU8, u8_nat]; omega
    refine semH_make rowB zerosB (l := 512) (c := 512) (by decide) (by decide) (by decide) ⟨_, _, _, rfl, ?_⟩
    have x1 : Ext g0 (g0.push (.cells (Array.replicate 512 (.int .u8 0)) 5)) := Ext.push _ _
    have o1 : Own (g0.push (.cells (Array.replicate 512 (.int .u8 0)) 5)) g0.size 5 1 (.slice (some ⟨g0.size, 0, none⟩) 512 512) 512 (List.replicate 512 (.int .u8 0)) := own_made (z := .int .u8 0) (l := 512) (Nat.le_refl _) (by decide) (Nat.le_refl _)
    generalize g0.push (.cells (Array.replicate 512 (.int .u8 0)) 5) = g1 at x1 o1
    refine ⟨fun v hq => ∃ i : Nat, v = [vI i] ∧ i ≤ 512 ∧ Ext g0 hq ∧ Own hq g0.size 5 1 (.slice (some ⟨g0.size, 0, none⟩) 512 512) 512 (List.replicate i (vB c) ++ List.replicate (512 - i) (.int .u8 0)), fun v _ => (512 - numAt v 0).toNat, ⟨0, rfl, by omega, x1, o1⟩, ?_⟩
    rintro v hq ⟨i, hv, hi, xq, oq⟩
    cases hv
    refine ⟨fun hlt => ?_, fun hlt => ?_⟩
    · have hlt : i < 512 := by have := of_decide_eq_true hlt; omega
      refine ⟨_, op_at ((xq.old bo lbo).trans co) rfl, _, hu, ?_⟩
      refine oq.store hlt rfl fun h2 o2 g2 _ => ?_
      refine ⟨_, incI (by omega), ⟨i + 1, rfl, hlt, xq.grown g2 fun k hk => (oq.lt hk).1, ?_⟩, by simp only [numAt]; omega⟩
      have : (List.replicate i (vB c) ++ List.replicate (512 - i) (Value.int .u8 0)).set i (vB c) = List.replicate (i + 1) (vB c) ++ List.replicate (512 - (i + 1)) (Value.int .u8 0) := by
        obtain ⟨k, hk⟩ : ∃ k, 512 - i = k + 1 := ⟨512 - i - 1, by omega⟩
        rw [hk, show 512 - (i + 1) = k by omega, List.replicate_succ (n := k), List.replicate_succ' (n := i), List.append_assoc, List.set_append_right _ _ (by simp)]
        simp
      rw [← this]; exact o2
    · have hi : i = 512 := by have := of_decide_eq_false hlt; omega
      subst hi
      obtain ⟨T, hT⟩ : ∃ T, T = tx (List.replicate 512 c) := ⟨_, rfl⟩
      have hTb : byteVs T.data.toList = List.replicate 512 (vB c) := by
        have e : T.data.toList = List.replicate 512 c := by rw [hT]; exact bl_tx _
        rw [e]; simp [byteVs]
      have sg : Seg hq (some ⟨g0.size, 0, none⟩) 512 (byteVs T.data.toList) := by
        rw [hTb]
        have := oq.seg
        simpa using this
      have Sq := S0.ext xq
      obtain ⟨D2, B⟩ := Sq.b
      have coq := (xq.old bo lbo).trans co
      have pos := S.rd.ok.pos
      refine ⟨fun h' => h' = hq, rfl, s, 0, rfl, _, fun h' e => by rw [e]; exact Sq.at rfl, m, 0, rfl, _, fun h' e => by rw [e]; exact B.at rfl, _, op_at coq rfl, s, 0, rfl, _, Sq.at rfl, m, 0, rfl, _, B.at rfl, (pick_c o.count L.count pos c0 c1 hq).mono ?_⟩
      rintro _ k1 ⟨e1, rfl⟩
      rw [e1]
      have hp := pickN_lt o.count pos
      obtain ⟨n, hn⟩ : ∃ n : Nat, n = L.first + pickN o.count L.count := ⟨_, rfl⟩
      obtain ⟨D1, p, cc, A⟩ := Sq.a
      refine ⟨_, rfl, rfl, (n : Int), by rw [wrapI64] <;> omega, fun h' => h'[s]? = some (.cells #[vP d, vP q, vP l, vP m] 64) ∧ Seg h' (some ⟨g0.size, 0, none⟩) 512 (byteVs T.data.toList), ⟨Sq.cell, sg⟩, s, 0, rfl, _, Sq.at rfl, T, fun w hw => run_toText uBs uB uStr w hw.2, (write_c A.disk (n : Int) T (by omega)).mono ?_⟩
      rintro _ k3 ⟨y, E, rfl⟩
      obtain ⟨A', kk⟩ := A.go y E
      obtain ⟨⟨D2', B'⟩, m2, m3, m4⟩ := Sq.mid kk
      have nr : ¬ C g0.size := fun hc => by have := S0.lt _ hc; omega
      have sg3 : Seg k3 (some ⟨g0.size, 0, none⟩) 512 (byteVs T.data.toList) := sg.keep fun b o' hp _ => by
        cases hp
        exact (kk.2 _ (by have := xq.size; have := x1.size; have := oq.lt rfl; omega) fun hc => nr (S.sub1 _ hc)).2
      refine ⟨_, rfl, ⟨m2, sg3⟩, s, 0, rfl, _, fun h' c => side_at c.1 rfl, T, fun w hw => run_toText uBs uB uStr w hw.2, (rWrite_c B'.disk (n : Int) T (by rw [rp]; omega)).mono ?_⟩
      rintro _ k4 ⟨y4, E4, rfl⟩
      obtain ⟨B4, kk4⟩ := B'.go y4 E4
      obtain ⟨r4, e4⟩ := S.r.write (n : Int) T
      rw [e4]
      obtain ⟨S4, K⟩ := Sq.both ⟨_, _, _, A'⟩ kk ⟨_, B4⟩ kk4 r4 S.rd
      have sg4 : Seg k4 (some ⟨g0.size, 0, none⟩) 512 (byteVs T.data.toList) := sg3.keep fun b o' hp _ => by
        cases hp
        exact (kk4.2 _ (by have := kk.1; have := oq.lt rfl; omega) fun hc => nr (S.sub2 _ hc)).2
      have e : decide ((σ.write (n : Int) T).2 = (σ.write (n : Int) T).2) = true := by simp
      refine ⟨_, rfl, ⟨S4.cell, sg4⟩, ?_⟩
      rw [e]
      exact PlayT.of x0 (by omega) (S4.sd (b.write (n : Int) T)) ((Kp.ext C xq).trans K)

end
end Go.Vc

