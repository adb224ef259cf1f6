import Derived.Test.YthkbecpgbjejkaaDoorS9WWlU
import Derived.Test.YthkbecpgbjejkaaDoorS9WRfD
import Derived.Test.YthkbecpgbjejkaaDoorS9WFrZ
import Derived.Test.YthkbecpgbjejkaaDoorS9WWlP
set_option maxRecDepth 10000
/- The document's log: frames, regions. -/
namespace Go.Vc
open Go Go.Proofs Go.MapKept

section
variable {h : Hp} {B : Nat → Prop} {d : Nat} {σ : DS}

/-- turnoutref05.Get -/
theorem rGet_c (D : RefAt rI h B d σ) (n : Int) : CallsH Tryd.prog 74 #[vP d, vZ n] h fun e h' => Same B h h' ∧ RefAt rI h' B d (σ.read n).1 ∧ e = .returned (.tuple #[.agg (frmV (getF σ n).1).toArray, vZ (getF σ n).2]) := by
  refine V74 _ _ h _ ?_
  intro b h1 hb e1
  have x1 : Ext h h1 := by rw [e1]; exact Ext.push _ _
  have c1 : h1[b]? = some (.cells (frmV Frm.no).toArray 94) := by rw [e1, hb, zerosFrame]; exact push_last
  clear e1
  have l1 := (Array.getElem?_eq_some_iff.1 c1).1
  refine ⟨infoFrame, (rRead_c (D.ext x1) n).mono ?_⟩
  rintro e h2 ⟨y2, z2, D2, rfl⟩
  have nb : ¬ B b := fun hx => by have := D.lt _ hx; omega
  have c2 := (y2.old b l1 nb).trans c1
  have y02 := (x1.same B).trans y2 fun _ h _ => h
  have fin : ∀ (hq hr : Hp) (G : Frm), Ext h2 hq → hr = setsH hq b 0 (frmV G) → Same B h hr ∧ RefAt rI hr B d (σ.read n).1 := by
    intro hq hr G xq er
    have y : Same (fun x => x = b) hq hr := by rw [er]; exact setsH_same rfl
    exact ⟨(y02.trans (xq.same B) fun _ h _ => h).trans y fun x hx hl => by omega, (D2.ext xq).other y fun x hx e => nb (e ▸ hx)⟩
  refine ⟨_, _, rfl, fun hc => ?_, fun hc => ?_⟩
  · have hc : (σ.read n).2.2 ≠ 0 := of_decide_eq_true hc
    have e1 : getF σ n = (Frm.no, (σ.read n).2.2) := by unfold getF; rw [if_pos hc]
    obtain ⟨q1, q2, q3, q4⟩ := frm_set c2 Frm.no
    refine ⟨rfl, q2, q3, fun h3 e3 => ?_⟩
    obtain ⟨f1, f2⟩ := fin h2 h3 Frm.no (Ext.refl _) e3
    exact ⟨_, _, _, _, cellsAt_all (vs := frmV Frm.no) (by rw [e3]; exact q4), f1, f2, by rw [e1]; rfl⟩
  have hc0 : (σ.read n).2.2 = 0 := by have := of_decide_eq_false hc; omega
  have e1 : getF σ n = ((openF (σ.read n).2.1).1, (openF (σ.read n).2.1).2.2) := by unfold getF; rw [if_neg (by simpa using hc0)]
  rw [e1]
  refine (rOpen_c (σ.read n).2.1 h2).mono ?_
  rintro e h3 ⟨x3, rfl⟩
  obtain ⟨G, hG⟩ : ∃ G, G = (openF (σ.read n).2.1).1 := ⟨_, rfl⟩
  unfold openV
  rw [← hG]
  refine ⟨_, _, _, _, _, _, rfl, frm_new G fun b1 h5 hb1 x5 c5 => ?_⟩
  have x25 := x3.trans x5
  have cc5 := (x25.old b (Array.getElem?_eq_some_iff.1 c2).1).trans c2
  obtain ⟨q1, q2, q3, q4⟩ := frm_set cc5 G
  refine ⟨_, _, _, _, cellsAt_all (vs := frmV G) c5, rfl, q2, q3, fun h6 e6 => ?_⟩
  obtain ⟨f1, f2⟩ := fin h5 h6 G x25 e6
  exact ⟨_, _, _, _, cellsAt_all (vs := frmV G) (by rw [e6]; exact q4), f1, f2, rfl⟩

/-- turnoutref05.Put -/
theorem rPut_c (D : RefAt rI h B d σ) (n : Int) (f : Frm) (ok : f.Ok) (hlen : σ.pend.length ≤ 9000000000000) :
    CallsH Tryd.prog 93 #[vP d, vZ n, .agg (frmV f).toArray] h fun e h' => Same B h h' ∧ RefAt rI h' (GrowB B h h') d (putF σ n f).1 ∧ e = .returned (vZ (putF σ n f).2) := by
  refine V93 _ _ _ _ _ _ h _ ?_
  intro b h1 hb e1
  have x1 : Ext h h1 := by rw [e1]; exact Ext.push _ _
  have c1 : h1[h.size]? = some (.cells (frmV f).toArray 94) := by rw [e1]; exact push_last
  clear e1
  subst hb
  refine ⟨_, _, _, _, cellsAt_all (vs := frmV f) c1, (rWrong_c f h1).mono ?_⟩
  rintro e h2 ⟨x2, rfl⟩
  have x02 := x1.trans x2
  have grow : ∀ {hq : Hp}, Ext h hq → ∀ {τ : DS}, RefAt rI hq B d τ → RefAt rI hq (GrowB B h hq) d τ := fun x _ D' => D'.more (fun b hb => .inl hb) (GrowB.lt D.lt x.size)
  refine ⟨_, rfl, fun hw => ⟨x02.same B, ?_, ?_⟩, fun hw => ?_⟩
  · have hw : f.wrong ≠ 0 := by simpa using hw
    unfold putF
    rw [if_pos hw]
    exact grow x02 (D.ext x02)
  · have hw : f.wrong ≠ 0 := by simpa using hw
    unfold putF
    rw [if_pos hw]
  have hw0 : f.wrong = 0 := by simpa using hw
  refine (rRead_c (D.ext x02) n).mono ?_
  rintro e h3 ⟨y3, z3, D3, rfl⟩
  have y03 := (x02.same B).trans y3 fun _ h _ => h
  refine ⟨_, _, rfl, fun hc => ?_, fun hc => ?_⟩
  · have hc : (σ.read n).2.2 ≠ 0 := by simpa using hc
    have e1 : putF σ n f = ((σ.read n).1, (σ.read n).2.2) := by unfold putF; rw [if_neg (by simpa using hw0), if_pos hc]
    rw [e1]
    exact ⟨y03, D3.more (fun b hb => .inl hb) (GrowB.lt D.lt y03.size), rfl⟩
  have hc0 : (σ.read n).2.2 = 0 := by simpa using hc
  have hsz := read_size D.ok hc0
  have l1 := (Array.getElem?_eq_some_iff.1 c1).1
  have c3 := (y3.old h.size (Nat.lt_of_lt_of_le l1 x2.size) fun hb => by have := D.lt _ hb; omega).trans ((x2.old h.size l1).trans c1)
  have hb8 : ((bl (σ.read n).2.1).getD 511 0).toNat < 256 := ((bl (σ.read n).2.1).getD 511 0).toNat_lt
  have hmk : markN (σ.read n).2.1 < 256 := Nat.mod_lt _ (by decide)
  refine ⟨_, _, _, _, cellsAt_all (vs := frmV f) c3, by decide, _, byteD (i := 511) (by omega), _, wrapI64 (by omega) (by omega), _, wrapI64 (by omega) (by omega), by decide, (markN (σ.read n).2.1 : Int), by unfold markN; exact tmod_nat _ 256, (rSeal_c f ok _ h3).mono ?_⟩
  rintro e h4 ⟨x4, rfl⟩
  have hse : sealF f (markN (σ.read n).2.1 : Int) = (tx (sealL f (UInt8.ofNat (markN (σ.read n).2.1))), 0) := by
    unfold sealF
    rw [if_neg (by omega), if_neg (by simpa using hw0), Int.toNat_natCast]
  rw [hse]
  refine ⟨_, _, rfl, (rWrite_c (D3.ext x4) n _ (by rw [read_pend]; exact hlen)).mono ?_⟩
  rintro e h5 ⟨y5, D5, rfl⟩
  have e1 : putF σ n f = (σ.read n).1.write n (tx (sealL f (UInt8.ofNat (markN (σ.read n).2.1)))) := by unfold putF; rw [if_neg (by simpa using hw0), if_neg (by simpa using hc0)]
  rw [e1]
  have y05 := (y03.trans (x4.same B) fun _ h _ => h).trans y5 fun _ h _ => h
  have s4 := y03.size
  have s4' := x4.size
  refine ⟨_, rfl, y05, D5.more (fun b hb => ?_) (GrowB.lt D.lt y05.size), rfl⟩
  rcases hb with hb | hb
  · exact .inl hb
  · exact .inr ⟨by omega, hb.2⟩


/-- turnoutref19.region -/
theorem region_c (W : RefAt rI h B d σ) (first count : Int) (h1 : first ≤ 9223372036854775807) : CallsH Tryd.prog 73 #[vP d, vZ first, vZ count] h fun e h' => h' = h ∧ e = .returned (.bool (regionB σ.safe.length first count)) := by
  have hm := W.ok.most
  have r : ∀ b : Bool, (b = true ↔ (0 ≤ first ∧ 1 ≤ count ∧ first < σ.safe.length ∧ count ≤ σ.safe.length - first)) → regionB σ.safe.length first count = b := fun b hb => by
    unfold regionB
    cases b with
    | true => exact decide_eq_true (hb.1 rfl)
    | false => exact decide_eq_false fun h => by have := hb.2 h; cases this
  refine V73 _ _ _ h _ ⟨false, eqv_ptr uPRd _, fun _ => ⟨fun hf => ⟨fun hc => ?_, fun hc => ⟨rfl, ?_⟩⟩, fun hf => ⟨rfl, ?_⟩⟩, fun hf => (by cases hf)⟩
  · have hf := of_decide_eq_true hf
    have hc := of_decide_eq_true hc
    refine (rSize_c W).mono ?_
    rintro e h' ⟨rfl, rfl⟩
    refine ⟨_, rfl, fun hs => ?_, fun hs => ⟨rfl, ?_⟩⟩
    · have hs := of_decide_eq_true hs
      refine (rSize_c W).mono ?_
      rintro e h'' ⟨rfl, rfl⟩
      refine ⟨_, rfl, _, wrapI64 (by omega) (by omega), rfl, ?_⟩
      rw [r _ ⟨fun h => by have := of_decide_eq_true h; omega, fun h => decide_eq_true h.2.2.2⟩]
    · have hs := of_decide_eq_false hs
      rw [r false ⟨fun h => (by cases h), fun h => by omega⟩]
  · have hc := of_decide_eq_false hc
    rw [r false ⟨fun h => (by cases h), fun h => absurd h.2.1 hc⟩]
  · have hf := of_decide_eq_false hf
    rw [r false ⟨fun h => (by cases h), fun h => absurd h.1 hf⟩]

end
end Go.Vc

/- The document's log: Scan, Last. -/
namespace Go.Vc
open Go Go.Proofs Go.MapKept

def metV (R : Rd) (p : Option Addr) (c : Nat) : List Value := [.slice p R.recs.length c, .string (tx R.half), .bool R.goes]

theorem infoMet : ∃ i z, Tryd.prog.info? 136 = some i ∧ i.zero = some z := by
  have : ((Tryd.prog.info? 136).bind (·.zero)).isSome = true := by kernel_rfl
  obtain ⟨z, hz⟩ := Option.isSome_iff_exists.1 this
  obtain ⟨i, hi, hz⟩ := Option.bind_eq_some_iff.1 hz
  exact ⟨i, z, hi, hz⟩
theorem zerosMet : zeros Tryd.prog 136 = #[.slice none 0 0, .string ⟨#[]⟩, .bool false] := by kernel_rfl

theorem tx_nil : tx [] = ⟨#[]⟩ := rfl
theorem tx_app (a b : List UInt8) : tx a ++ tx b = tx (a ++ b) := bl_inj (by rw [bl_append, bl_tx, bl_tx, bl_tx])

/-- A sector's body as it is met. -/
structure MSt (h : Hp) (b b1 b2 : Nat) (m : List Value) (hq : Hp) (M : Rd) (p : Option Addr) (c : Nat) : Prop where
  x : Ext h hq
  cb : hq[b]? = some (.cells m.toArray 136)
  cb1 : hq[b1]? = some (.cells #[.slice none 0 0, .string ⟨#[]⟩, .bool false] 136)
  cb2 : hq[b2]? = some (.cells (metV M p c).toArray 136)
  row : Own hq h.size 9 1 (.slice p M.recs.length c) M.recs.length (M.recs.map Value.string)

section
variable {h : Hp}

set_option maxHeartbeats 2000000 in
/-- turnoutref19.Met.body -/
theorem mbody_c {R : Rd} {p : Option Addr} {c : Nat} (hseg : Seg h p R.recs.length (R.recs.map Value.string)) (hhl : R.half.length ≤ 65536) (s : ByteArray) (hs : s.size ≤ 1000000) (hr : R.recs.length + s.size ≤ 1000000000) :
    CallsH Tryd.prog 75 #[.agg (metV R p c).toArray, .string s] h fun en hs => Ext h hs ∧
      ((bodyF (bl s) R = none ∧ en = .returned (.tuple #[.agg (metV R p c).toArray, .bool false])) ∨
       (∃ M p' c', bodyF (bl s) R = some M ∧ en = .returned (.tuple #[.agg (metV M p' c').toArray, .bool true]) ∧ Own hs h.size 9 1 (.slice p' M.recs.length c') M.recs.length (M.recs.map Value.string))) := by
  refine V75 _ _ _ _ _ _ h _ ?_
  intro b h1 hb e1
  have x1 : Ext h h1 := by rw [e1]; exact Ext.push _ _
  have c1 : h1[b]? = some (.cells (metV R p c).toArray 136) := by rw [e1, hb]; exact push_last
  have s1 : h1.size = h.size + 1 := by rw [e1]; simp
  clear e1
  intro b1 h2 hb1 e2
  rw [zerosMet] at e2
  have x2 : Ext h1 h2 := by rw [e2]; exact Ext.push _ _
  have cb2 : h2[b1]? = some (.cells #[.slice none 0 0, .string ⟨#[]⟩, .bool false] 136) := by rw [e2, hb1]; exact push_last
  have s2 : h2.size = h1.size + 1 := by rw [e2]; simp
  clear e2
  refine ⟨infoMet, ?_⟩
  intro b2 h3 hb2 e3
  rw [zerosMet] at e3
  have x3 : Ext h2 h3 := by rw [e3]; exact Ext.push _ _
  have c3 : h3[b2]? = some (.cells [Value.slice none 0 0, .string ⟨#[]⟩, .bool false].toArray 136) := by rw [e3, hb2]; exact push_last
  have s3 : h3.size = h2.size + 1 := by rw [e3]; simp
  clear e3
  have x13 := x2.trans x3
  have x03 := x1.trans x13
  have cm3 := (x13.old b (by omega)).trans c1
  have cr3 := (x3.old b1 (by omega)).trans cb2
  refine ⟨infoMet, none, 0, 0, cellsAt_one (cellH_at c3), p, R.recs.length, c, cellsAt_one (cellH_at cm3), ?_⟩
  have hseg3 : Seg h3 p R.recs.length (R.recs.map Value.string) := hseg.keep fun bb o hp h0 => by
    refine x03.old bb ?_
    rcases hseg.2 with hh | ⟨b', o', hp', hc'⟩
    · exact (h0 hh).elim
    · rw [hp] at hp'; cases hp'
      have hlen : 0 < (R.recs.map Value.string).length := List.length_pos_iff.2 h0
      exact cellH_lt (cellsAt_iff.1 hc' 0 hlen)
  refine semH_appendSeg rowS (Own.nil h3 h.size 9 1) hseg3 ?_ (by omega) (by simp only [maxLen]; omega) (by omega) fun p4 c4 h4 o4 g4 _ _ => ?_
  · intro v hv; obtain ⟨_, _, rfl⟩ := List.mem_map.1 hv; rfl
  rw [Nat.zero_add, List.nil_append] at o4
  rw [Nat.zero_add]
  have x4 : Ext h3 h4 := (Ext.refl h3).grown g4 fun k hk => (by cases hk)
  have cc4 := (x4.old b2 (by omega)).trans c3
  have cm4 := (x4.old b (by omega)).trans cm3
  have cr4 := (x4.old b1 (by omega)).trans cr3
  have s4 := x4.size
  refine ⟨rfl, wrAt_of cc4 (by show 0 + 0 + 1 ≤ 3; omega) (.inr (.inr (Nat.le_refl _))), ?_⟩
  intro h5 e5
  have c5 : h5[b2]? = some (.cells [Value.slice p4 R.recs.length c4, .string ⟨#[]⟩, .bool false].toArray 136) := by rw [e5, setsH_at cc4]; rfl
  have k5 : ∀ y, y ≠ b2 → h5[y]? = h4[y]? := fun y hy => by rw [e5]; exact setsH_ne hy
  have z5 : h5.size = h4.size := by rw [e5]; exact setsH_size
  refine ⟨tx R.half, cellsAt_one (cellH_at ((k5 b (by omega)).trans cm4)), rfl, wrAt_of c5 (by show 0 + 1 + 1 ≤ 3; omega) (.inr (.inr (Nat.le_refl _))), ?_⟩
  intro h6 e6
  have c6 : h6[b2]? = some (.cells [Value.slice p4 R.recs.length c4, .string (tx R.half), .bool false].toArray 136) := by rw [e6, setsH_at c5]; rfl
  have k6 : ∀ y, y ≠ b2 → h6[y]? = h4[y]? := fun y hy => by rw [e6, setsH_ne hy]; exact k5 y hy
  have z6 : h6.size = h4.size := by rw [e6, setsH_size]; exact z5
  refine ⟨R.goes, cellsAt_one (cellH_at ((k6 b (by omega)).trans cm4)), rfl, wrAt_of c6 (by show 0 + 2 + 1 ≤ 3; omega) (.inr (.inr (Nat.le_refl _))), ?_⟩
  intro h7 e7
  have c7 : h7[b2]? = some (.cells (metV R p4 c4).toArray 136) := by rw [e7, setsH_at c6]; rfl
  have k7 : ∀ y, y ≠ b2 → h7[y]? = h4[y]? := fun y hy => by rw [e7, setsH_ne hy]; exact k6 y hy
  have z7 : h7.size = h4.size := by rw [e7, setsH_size]; exact z6
  have T7 : MSt h b b1 b2 (metV R p c) h7 R p4 c4 := by
    refine ⟨⟨by have := x03.size; omega, fun y hy => (k7 y (by omega)).trans (((x03.trans x4).old y hy))⟩, (k7 b (by omega)).trans cm4, (k7 b1 (by omega)).trans cr4, c7, o4.keep fun y hy => k7 y ?_⟩
    rintro rfl
    obtain ⟨cur, hc⟩ := o4.blk hy
    rw [cc4] at hc
    cases hc
  clear e5 e6 e7 c5 c6 k5 k6 k7 z5 z6 c3 cm3 cr3 cm4 cr4 cc4 o4 g4 hseg3
  have hb12 : b < b1 ∧ b1 < b2 ∧ h.size ≤ b := by omega
  have fail : ∀ {hq : Hp} {M : Rd} {p' : Option Addr} {c' : Nat}, MSt h b b1 b2 (metV R p c) hq M p' c' → bodyF (bl s) R = none →
      cellsAt hq b 0 (metV R p c) ∧ wrAt hq b1 0 3 ∧ ∀ hr, hr = setsH hq b1 0 (metV R p c) → cellsAt hr b1 0 (metV R p c) ∧ Ext h hr := by
    intro hq M p' c' T hn
    refine ⟨cellsAt_all T.cb, wrAt_of T.cb1 (by show 0 + 3 ≤ 3; omega) (.inr (.inr (Nat.le_refl _))), fun hr er => ⟨?_, ?_⟩⟩
    · have : hr[b1]? = some (.cells (metV R p c).toArray 136) := by rw [er, setsH_at T.cb1, layC_all (by rfl)]
      exact cellsAt_all this
    · rw [er]; exact T.x.over (setsH_same (B := fun y => y = b1) rfl) fun y hy => by omega
  refine ⟨fun he => ?_, fun he => ?_⟩
  · have he : s = ⟨#[]⟩ := of_decide_eq_true he
    have hn : bodyF (bl s) R = none := by rw [he]; rfl
    obtain ⟨f1, f2, f3⟩ := fail T7 hn
    refine ⟨_, _, _, _, _, f1, rfl, by simp [Value.oneCell'], f2, fun hr er => ?_⟩
    obtain ⟨f4, f5⟩ := f3 hr er
    exact ⟨_, _, _, _, _, f4, f5, .inl ⟨hn, rfl⟩⟩
  have hsne : s ≠ ⟨#[]⟩ := of_decide_eq_false he
  refine ⟨fun v hq => ∃ (s' : ByteArray) (M : Rd) (p' : Option Addr) (c' : Nat), v = [.string s'] ∧ MSt h b b1 b2 (metV R p c) hq M p' c' ∧ M.half.length ≤ 65536 ∧ M.recs.length + s'.size ≤ R.recs.length + s.size ∧ s'.size ≤ s.size ∧
    ((s' = ⟨#[]⟩ ∧ bodyF (bl s) R = some M) ∨ (s' ≠ ⟨#[]⟩ ∧ bodyF (bl s) R = bodyF (bl s') M)), fun v _ => match v with | .string s :: _ => s.size | _ => 0, ⟨s, R, p4, c4, rfl, T7, hhl, Nat.le_refl _, Nat.le_refl _, .inr ⟨hsne, rfl⟩⟩, ?_⟩
  rintro s' hq ⟨s0, M, p', c', hv, T, hMh, hm, hss, hI⟩
  cases hv
  refine ⟨fun hne => ?_, fun hne => ?_⟩
  rotate_left
  · have hne : s' = ⟨#[]⟩ := by simpa using hne
    have hI : bodyF (bl s) R = some M := by
      rcases hI with ⟨_, hI⟩ | ⟨hI, _⟩
      · exact hI
      · exact (hI hne).elim
    refine ⟨_, _, _, _, _, cellsAt_all (vs := metV M p' c') T.cb2, rfl, by simp [Value.oneCell'], wrAt_of T.cb1 (by show 0 + 3 ≤ 3; omega) (.inr (.inr (Nat.le_refl _))), fun hr er => ?_⟩
    have ce : hr[b1]? = some (.cells (metV M p' c').toArray 136) := by rw [er, setsH_at T.cb1, layC_all (by rfl)]; rfl
    have nb : ∀ y, (Value.slice p' M.recs.length c').ownBlock = some y → y ≠ b1 := by
      rintro y hy rfl
      obtain ⟨cur, hc⟩ := T.row.blk hy
      rw [T.cb1] at hc
      cases hc
    refine ⟨_, _, _, _, _, cellsAt_all (vs := metV M p' c') ce, ?_, .inr ⟨M, p', c', hI, rfl, T.row.keep fun y hy => by rw [er]; exact setsH_ne (nb y hy)⟩⟩
    rw [er]; exact T.x.over (setsH_same (B := fun y => y = b1) rfl) fun y hy => by omega
  have hne : s' ≠ ⟨#[]⟩ := of_decide_eq_true hne
  have hrun : bodyF (bl s) R = bodyF (bl s') M := by
    rcases hI with ⟨hI, _⟩ | ⟨_, hI⟩
    · exact (hne hI).elim
    · exact hI
  rw [bodyF_eq (bl s')] at hrun
  have lbl : (bl s').length = s'.size := bl_length s'
  refine ⟨fun h4 => ?_, fun h4 => ?_⟩
  · have h4 : (s'.size : Int) < 4 := of_decide_eq_true h4
    have hbad : badP (bl s') = true := decide_eq_true (.inl (by omega))
    rw [if_pos hbad] at hrun
    obtain ⟨f1, f2, f3⟩ := fail T hrun
    refine ⟨_, _, _, _, _, f1, rfl, by simp [Value.oneCell'], f2, fun hr er => ?_⟩
    obtain ⟨f4, f5⟩ := f3 hr er
    exact ⟨_, _, _, _, _, f4, f5, .inl ⟨hrun, rfl⟩⟩
  have h4 : ¬ (s'.size : Int) < 4 := of_decide_eq_false h4
  have q0 := ((bl s').getD 0 0).toNat_lt
  have q1 := ((bl s').getD 1 0).toNat_lt
  have q2 := ((bl s').getD 2 0).toNat_lt
  obtain ⟨n, hn⟩ : ∃ n, n = lenP (bl s') := ⟨_, rfl⟩
  obtain ⟨k, hk⟩ : ∃ k, k = kindP (bl s') := ⟨_, rfl⟩
  have hkk : k = ((bl s').getD 0 0).toNat := hk
  have hnn : n = 256 * ((bl s').getD 1 0).toNat + ((bl s').getD 2 0).toNat := hn
  refine ⟨by decide, _, byteD (i := 0) (by omega), (k : Int), by rw [hkk]; exact wrapI64 (by omega) (by omega), by decide, _, byteD (i := 1) (by omega), _, wrapI64 (by omega) (by omega), ((256 * ((bl s').getD 1 0).toNat : Nat) : Int), by rw [wrapI64] <;> omega, by decide, _, byteD (i := 2) (by omega), _, wrapI64 (by omega) (by omega), (n : Int), by rw [hnn, wrapI64] <;> omega, ?_⟩
  have hB0 : badP (bl s') = decide (n < 1 ∨ s'.size - 3 < n ∨ 488 < n) := by
    unfold badP
    rw [← hn, lbl]
    apply decide_eq_decide.2
    omega
  refine ⟨fun _ hz => hz = hq ∧ ¬ (k < 1 ∨ 4 < k ∨ n < 1 ∨ s'.size - 3 < n ∨ 488 < n), ⟨decide (k < 1 ∨ 4 < k ∨ n < 1 ∨ s'.size - 3 < n ∨ 488 < n), ⟨fun z => ⟨rfl, ?_⟩, fun z => ⟨fun z2 => ⟨rfl, ?_⟩, fun z2 => ⟨fun z3 => ⟨rfl, ?_⟩, fun z3 => ⟨_, wrapI64 (by omega) (by omega), fun z4 => ⟨rfl, ?_⟩, fun z4 => ⟨rfl, ?_⟩⟩⟩⟩⟩, fun hB => ?_, fun hB => ⟨rfl, of_decide_eq_false hB⟩⟩, ?_⟩
  · exact decide_eq_true (.inl (by have := of_decide_eq_true z; omega))
  · exact decide_eq_true (.inr (.inl (by have := of_decide_eq_true z2; omega)))
  · exact decide_eq_true (.inr (.inr (.inl (by have := of_decide_eq_true z3; omega))))
  · exact decide_eq_true (.inr (.inr (.inr (.inl (by have := of_decide_eq_true z4; omega)))))
  · have z := of_decide_eq_false z
    have z2 := of_decide_eq_false z2
    have z3 := of_decide_eq_false z3
    have z4 := of_decide_eq_false z4
    apply decide_eq_decide.2; omega
  · have hB := of_decide_eq_true hB
    have hnone : bodyF (bl s) R = none := by
      rw [hrun]
      by_cases hbad : badP (bl s') = true
      · rw [if_pos hbad]
      · rw [if_neg hbad]
        rw [hB0] at hbad
        have hbad : ¬ (n < 1 ∨ s'.size - 3 < n ∨ 488 < n) := fun h => hbad (decide_eq_true h)
        have hkw : k < 1 ∨ 4 < k := by
          rcases hB with h | h | h
          · exact .inl h
          · exact .inr h
          · exact (hbad h).elim
        rw [← hk, takeR_none1 (hkw.imp id .inl)]
    obtain ⟨f1, f2, f3⟩ := fail T hnone
    refine ⟨_, _, _, _, _, f1, rfl, by simp [Value.oneCell'], f2, fun hr er => ?_⟩
    obtain ⟨f4, f5⟩ := f3 hr er
    exact ⟨_, _, _, _, _, f4, f5, .inl ⟨hnone, rfl⟩⟩
  rintro hz ⟨rfl, hok⟩
  have hb0 : badP (bl s') = false := by rw [hB0]; exact decide_eq_false (by omega)
  rw [if_neg (by rw [hb0]; decide), ← hk] at hrun
  have hrl := restP_lt hb0
  obtain ⟨rest, hrest⟩ : ∃ x, x = s'.extract (3 + n) s'.size := ⟨_, rfl⟩
  have hbr : bl rest = restP (bl s') := by
    rw [hrest, bl_extract]
    unfold restP
    rw [← hn, List.take_of_length_le]
    rw [List.length_drop, lbl]; omega
  obtain ⟨pc, hpc⟩ : ∃ x, x = s'.extract 3 (3 + n) := ⟨_, rfl⟩
  have hbp : bl pc = textP (bl s') := by
    rw [hpc, bl_extract]; unfold textP; rw [← hn, Nat.add_sub_cancel_left]
  have hpl : pc.size = (textP (bl s')).length := by rw [← hbp, bl_length]
  have hpn : pc.size ≤ 488 := by rw [hpc, ByteArray.size_extract]; omega
  have hrs : rest.size = (restP (bl s')).length := by rw [← hbr, bl_length]
  have hde : decide (restP (bl s') = []) = decide (rest = ⟨#[]⟩) := by
    apply decide_eq_decide.2
    rw [← hbr]
    exact ⟨fun e => bl_inj e, fun e => by rw [e]⟩
  rw [hde, ← hbp] at hrun
  let g : Bool := decide (k = 2 ∨ k = 3)
  refine ⟨((3 + n : Nat) : Int), by rw [wrapI64] <;> omega, 3, rfl, 3 + n, rfl, by omega, by omega, pc, hpc.symm, ((3 + n : Nat) : Int), by rw [wrapI64] <;> omega, 3 + n, rfl, by omega, Nat.le_refl _, rest, hrest.symm, g, ⟨fun z => ⟨rfl, ?_⟩, fun z => ⟨rfl, ?_⟩⟩, ?_⟩
  · exact decide_eq_true (.inl (by have := of_decide_eq_true z; omega))
  · have z := of_decide_eq_false z
    apply decide_eq_decide.2; omega
  have e34 : decide ((2 : Int) < (k : Int)) = decide (k = 3 ∨ k = 4) := by apply decide_eq_decide.2; omega
  refine ⟨fun _ hy => hy = hz ∧ M.goes = decide (k = 3 ∨ k = 4) ∧ ¬ (g = true ∧ rest ≠ ⟨#[]⟩), ⟨decide (M.goes ≠ decide (k = 3 ∨ k = 4) ∨ (g = true ∧ rest ≠ ⟨#[]⟩)), ⟨M.goes, cellsAt_one (cellH_at T.cb2), _, eqv_bool uBool _ _, fun z => ⟨rfl, ?_⟩, fun z => ⟨fun z2 => ⟨rfl, ?_⟩, fun z2 => ⟨rfl, ?_⟩⟩⟩, fun hB => ?_, fun hB => ?_⟩, ?_⟩
  · rw [e34] at z
    exact decide_eq_true (.inl (by simpa using z))
  · rw [e34] at z
    have z : M.goes = decide (k = 3 ∨ k = 4) := by simpa using z
    apply decide_eq_decide.2
    simp [z, z2]
  · rw [e34] at z
    have z : M.goes = decide (k = 3 ∨ k = 4) := by simpa using z
    exact decide_eq_false (by rintro (h | h); exact h z; rw [z2] at h; cases h.1)
  · have hB := of_decide_eq_true hB
    have hnone : bodyF (bl s) R = none := by
      rw [hrun]
      have : takeR M k (bl pc) (decide (rest = ⟨#[]⟩)) = none := by
        rcases hB with h | ⟨h1, h2⟩
        · exact takeR_none1 (.inr (.inr h))
        · have hg : k = 2 ∨ k = 3 := of_decide_eq_true h1
          unfold takeR
          split
          · rfl
          · rw [if_pos (.inl ⟨hg, decide_eq_false h2⟩)]
      rw [this]
    obtain ⟨f1, f2, f3⟩ := fail T hnone
    refine ⟨_, _, _, _, _, f1, rfl, by simp [Value.oneCell'], f2, fun hr er => ?_⟩
    obtain ⟨f4, f5⟩ := f3 hr er
    exact ⟨_, _, _, _, _, f4, f5, .inl ⟨hnone, rfl⟩⟩
  · have hB := of_decide_eq_false hB
    exact ⟨rfl, Decidable.of_not_not fun h => hB (.inl h), fun h => hB (.inr h)⟩
  rintro hy ⟨rfl, hgo, hge⟩
  have hkr : ¬ (k < 1 ∨ 4 < k ∨ M.goes ≠ decide (k = 3 ∨ k = 4)) := by
    rintro (h | h | h)
    · omega
    · omega
    · exact h hgo
  have htk : takeR M k (bl pc) (decide (rest = ⟨#[]⟩)) = if 65536 < M.half.length + pc.size then none else some (if k = 2 ∨ k = 3 then ⟨M.recs, M.half ++ bl pc, true⟩ else ⟨M.recs ++ [tx (M.half ++ bl pc)], [], false⟩) := by
    unfold takeR
    rw [if_neg hkr, bl_length]
    by_cases h65 : 65536 < M.half.length + pc.size
    · rw [if_pos (.inr h65), if_pos h65]
    · rw [if_neg, if_neg h65]
      rintro (⟨h1, h2⟩ | h)
      · exact hge ⟨decide_eq_true h1, of_decide_eq_false h2⟩
      · exact h65 h
  rw [htk] at hrun
  have htx : tx M.half ++ pc = tx (M.half ++ bl pc) := by
    have : pc = tx (bl pc) := (tx_bl pc).symm
    rw [this, tx_app, bl_tx]
  have hszh : (tx (M.half ++ bl pc)).size = M.half.length + pc.size := by rw [tx_size, List.length_append, bl_length]
  refine ⟨tx M.half, cellsAt_one (cellH_at T.cb2), by rw [tx_size]; omega, _, htx, rfl, wrAt_of T.cb2 (by show 0 + 1 + 1 ≤ 3; omega) (.inr (.inr (Nat.le_refl _))), ?_⟩
  intro g1 e1
  have T1 : MSt h b b1 b2 (metV R p c) g1 ⟨M.recs, M.half ++ bl pc, M.goes⟩ p' c' := by
    have kk : ∀ y, y ≠ b2 → g1[y]? = hy[y]? := fun y hy => by rw [e1]; exact setsH_ne hy
    refine ⟨by rw [e1]; exact T.x.over (setsH_same (B := fun y => y = b2) rfl) fun y hy => by omega, (kk b (by omega)).trans T.cb, (kk b1 (by omega)).trans T.cb1, by rw [e1, setsH_at T.cb2]; rfl, T.row.keep fun y hy => kk y ?_⟩
    rintro rfl
    obtain ⟨cur, hc⟩ := T.row.blk hy
    rw [T.cb2] at hc
    cases hc
  refine ⟨tx (M.half ++ bl pc), cellsAt_one (cellH_at T1.cb2), fun h65 => ?_, fun h65 => ?_⟩
  · have h65 : (65536 : Int) < ((tx (M.half ++ bl pc)).size : Int) := of_decide_eq_true h65
    have hnone : bodyF (bl s) R = none := by rw [hrun, if_pos (by omega)]
    obtain ⟨f1, f2, f3⟩ := fail T1 hnone
    refine ⟨_, _, _, _, _, f1, rfl, by simp [Value.oneCell'], f2, fun hr er => ?_⟩
    obtain ⟨f4, f5⟩ := f3 hr er
    exact ⟨_, _, _, _, _, f4, f5, .inl ⟨hnone, rfl⟩⟩
  have h65 : ¬ (65536 : Int) < ((tx (M.half ++ bl pc)).size : Int) := of_decide_eq_false h65
  rw [if_neg (by omega)] at hrun
  refine ⟨rfl, wrAt_of T1.cb2 (by show 0 + 2 + 1 ≤ 3; omega) (.inr (.inr (Nat.le_refl _))), ?_⟩
  intro g2 e2
  have T2 : MSt h b b1 b2 (metV R p c) g2 ⟨M.recs, M.half ++ bl pc, g⟩ p' c' := by
    have kk : ∀ y, y ≠ b2 → g2[y]? = g1[y]? := fun y hy => by rw [e2]; exact setsH_ne hy
    refine ⟨by rw [e2]; exact T1.x.over (setsH_same (B := fun y => y = b2) rfl) fun y hy => by omega, (kk b (by omega)).trans T1.cb, (kk b1 (by omega)).trans T1.cb1, by rw [e2, setsH_at T1.cb2]; rfl, T1.row.keep fun y hy => kk y ?_⟩
    rintro rfl
    obtain ⟨cur, hc⟩ := T1.row.blk hy
    rw [T1.cb2] at hc
    cases hc
  have inv : ∀ {hx : Hp} {M' : Rd} {p'' : Option Addr} {c'' : Nat}, MSt h b b1 b2 (metV R p c) hx M' p'' c'' → (if k = 2 ∨ k = 3 then (⟨M.recs, M.half ++ bl pc, true⟩ : Rd) else ⟨M.recs ++ [tx (M.half ++ bl pc)], [], false⟩) = M' →
      (∃ (s'' : ByteArray) (M : Rd) (p' : Option Addr) (c' : Nat), [Value.string rest] = [.string s''] ∧ MSt h b b1 b2 (metV R p c) hx M p' c' ∧ M.half.length ≤ 65536 ∧ M.recs.length + s''.size ≤ R.recs.length + s.size ∧ s''.size ≤ s.size ∧
        ((s'' = ⟨#[]⟩ ∧ bodyF (bl s) R = some M) ∨ (s'' ≠ ⟨#[]⟩ ∧ bodyF (bl s) R = bodyF (bl s'') M))) ∧ rest.size < s'.size := by
    intro hx M' p'' c'' TT hM
    rw [hM] at hrun
    have hrun : bodyF (bl s) R = if restP (bl s') = [] then some M' else bodyF (restP (bl s')) M' := hrun
    have hMl : M'.half.length ≤ 65536 ∧ M'.recs.length ≤ M.recs.length + 1 := by
      rw [← hM]
      split
      · exact ⟨by show (M.half ++ bl pc).length ≤ _; rw [List.length_append, bl_length]; omega, Nat.le_succ _⟩
      · exact ⟨Nat.zero_le _, by show (M.recs ++ [_]).length ≤ _; simp⟩
    refine ⟨⟨rest, M', p'', c'', rfl, TT, hMl.1, by omega, by omega, ?_⟩, by omega⟩
    by_cases hre : rest = ⟨#[]⟩
    · exact .inl ⟨hre, by rw [hrun, if_pos (by rw [← hbr, hre])]⟩
    · exact .inr ⟨hre, by rw [hrun, if_neg (by rw [← hbr]; exact fun e => hre (bl_inj e)), hbr]⟩
  refine ⟨fun hg => ?_, fun hg => ?_⟩
  rotate_left
  · have hg : g = true := by simpa using hg
    have hg' : k = 2 ∨ k = 3 := of_decide_eq_true hg
    exact inv T2 (by rw [if_pos hg', hg])
  have hg : g = false := by simpa using hg
  have hg' : ¬ (k = 2 ∨ k = 3) := of_decide_eq_false hg
  refine ⟨p', M.recs.length, c', cellsAt_one (cellH_at T2.cb2), tx (M.half ++ bl pc), cellsAt_one (cellH_at T2.cb2), ?_⟩
  have xg2 := T2.x.size
  refine semH_push rowS T2.row (vs := [.string (tx (M.half ++ bl pc))]) (m := 1) rfl rfl (by simp) (by simp) (by simp [Value.oneCell']) (by show ((M.recs.length + 1) + (M.recs.length + 1) / 4 + 192) * 16 ≤ _; omega) (by show M.recs.length + 1 ≤ maxLen; simp only [maxLen]; omega) xg2 fun p5 c5 g3 o5 gr5 _ b5 => ?_
  have o5 : Own g3 h.size 9 1 (.slice p5 (M.recs.length + 1) c5) (M.recs.length + 1) (M.recs.map Value.string ++ [.string (tx (M.half ++ bl pc))]) := o5
  have ner : ∀ (y : Nat) (cs : Array Value), g2[y]? = some (Obj.cells cs 136) → g3[y]? = some (Obj.cells cs 136) := fun y cs hy => (gr5.block y (Array.getElem?_eq_some_iff.1 hy).1 fun e => by
    obtain ⟨cur, hc⟩ := T2.row.blk e.symm
    rw [hy] at hc
    cases hc).trans hy
  have d3 := ner b2 _ T2.cb2
  refine ⟨rfl, wrAt_of d3 (by show 0 + 0 + 1 ≤ 3; omega) (.inr (.inr (Nat.le_refl _))), ?_⟩
  intro g4 e4
  have d4 : g4[b2]? = some (.cells [Value.slice p5 (M.recs.length + 1) c5, .string (tx (M.half ++ bl pc)), .bool g].toArray 136) := by rw [e4, setsH_at d3]; rfl
  refine ⟨rfl, wrAt_of d4 (by show 0 + 1 + 1 ≤ 3; omega) (.inr (.inr (Nat.le_refl _))), ?_⟩
  intro g5 e5
  have hl5 : (M.recs ++ [tx (M.half ++ bl pc)]).length = M.recs.length + 1 := by simp
  have d5 : g5[b2]? = some (.cells (metV ⟨M.recs ++ [tx (M.half ++ bl pc)], [], false⟩ p5 c5).toArray 136) := by
    rw [e5, setsH_at d4, hg]
    unfold metV
    rw [hl5]
    rfl
  have kk : ∀ y, y ≠ b2 → g5[y]? = g3[y]? := fun y hy => by rw [e5, setsH_ne hy, e4, setsH_ne hy]
  have z5 : g5.size = g3.size := by rw [e5, setsH_size, e4, setsH_size]
  refine inv (M' := ⟨M.recs ++ [tx (M.half ++ bl pc)], [], false⟩) (p'' := p5) (c'' := c5) ⟨?_, (kk b (by omega)).trans (ner b _ T2.cb), (kk b1 (by omega)).trans (ner b1 _ T2.cb1), d5, ?_⟩ (by rw [if_neg hg'])
  · have xg3 : Ext h g3 := T2.x.grown gr5 fun y hy => (T2.row.lt hy).1
    exact ⟨by rw [z5]; exact xg3.size, fun y hy => (kk y (by omega)).trans (xg3.old y hy)⟩
  · show Own g5 h.size 9 1 (.slice p5 (M.recs ++ [tx (M.half ++ bl pc)]).length c5) (M.recs ++ [tx (M.half ++ bl pc)]).length _
    rw [hl5, List.map_append]
    refine o5.keep fun y hy => kk y ?_
    rintro rfl
    obtain ⟨cur, hc⟩ := o5.blk hy
    rw [d3] at hc
    cases hc

end
end Go.Vc

