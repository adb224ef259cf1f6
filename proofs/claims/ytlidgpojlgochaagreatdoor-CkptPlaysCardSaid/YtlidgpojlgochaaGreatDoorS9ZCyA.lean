/- The document's checkpoints: Write. -/
import Derived.Test.YtlidgpojlgochaaGreatDoorS9ZFrZ
import Derived.Test.YtlidgpojlgochaaGreatDoorS9ZCkX
set_option maxRecDepth 10000
namespace Go.Vc
open Go Go.Proofs Go.MapKept

section
variable {h : Hp} {B : Nat → Prop} {d : Nat} {σ : DS}

/-- turnoutref05.Put -/
theorem rPut_c (D : RefAt rI h B d σ) (n : Int) (f : Frm) (ok : f.Ok) (hlen : σ.pend.length ≤ 2199023255552) :
    CallsH Tryz.prog 76 #[vP d, vZ n, .agg (frmV f).toArray] h fun e h' => Same B h h' ∧ RefAt rI h' (GrowB B h h') d (putF σ n f).1 ∧ e = .returned (vZ (putF σ n f).2) := by
  refine V76 _ _ _ _ _ _ h _ ?_
  intro b h1 hb e1
  have x1 : Ext h h1 := by rw [e1]; exact Ext.push _ _
  have c1 : h1[h.size]? = some (.cells (frmV f).toArray 95) := by rw [e1]; exact push_last
  clear e1
  subst hb
  refine ⟨_, _, _, _, cellsAt_all (vs := frmV f) c1, (rWrong_c f h1).mono ?_⟩
  rintro e h2 ⟨x2, rfl⟩
  have x02 := x1.trans x2
  have grow : ∀ {hq : Hp}, Ext h hq → ∀ {τ : DS}, RefAt rI hq B d τ → RefAt rI hq (GrowB B h hq) d τ := fun x _ D' => D'.more (fun b hb => .inl hb) (GrowB.lt D.lt x.size)
  refine ⟨_, rfl, fun hw => ⟨x02.same B, ?_, ?_⟩, fun hw => ?_⟩
  · have hw : f.wrong ≠ 0 := by simpa using hw
    unfold putF
    rw [if_pos hw]
    exact grow x02 (D.ext x02)
  · have hw : f.wrong ≠ 0 := by simpa using hw
    unfold putF
    rw [if_pos hw]
  have hw0 : f.wrong = 0 := by simpa using hw
  refine (rRead_c (D.ext x02) n).mono ?_
  rintro e h3 ⟨y3, z3, D3, rfl⟩
  have y03 := (x02.same B).trans y3 fun _ h _ => h
  refine ⟨_, _, rfl, fun hc => ?_, fun hc => ?_⟩
  · have hc : (σ.read n).2.2 ≠ 0 := by simpa using hc
    have e1 : putF σ n f = ((σ.read n).1, (σ.read n).2.2) := by unfold putF; rw [if_neg (by simpa using hw0), if_pos hc]
    rw [e1]
    exact ⟨y03, D3.more (fun b hb => .inl hb) (GrowB.lt D.lt y03.size), rfl⟩
  have hc0 : (σ.read n).2.2 = 0 := by simpa using hc
  have hsz := read_size D.ok hc0
  have l1 := (Array.getElem?_eq_some_iff.1 c1).1
  have c3 := (y3.old h.size (Nat.lt_of_lt_of_le l1 x2.size) fun hb => by have := D.lt _ hb; omega).trans ((x2.old h.size l1).trans c1)
  have hb8 : ((bl (σ.read n).2.1).getD 511 0).toNat < 256 := ((bl (σ.read n).2.1).getD 511 0).toNat_lt
  have hmk : markN (σ.read n).2.1 < 256 := Nat.mod_lt _ (by decide)
  refine ⟨_, _, _, _, cellsAt_all (vs := frmV f) c3, by decide, _, byteD (i := 511) (by omega), _, wrapI64 (by omega) (by omega), _, wrapI64 (by omega) (by omega), by decide, (markN (σ.read n).2.1 : Int), by unfold markN; exact tmod_nat _ 256, (rSeal_c f ok _ h3).mono ?_⟩
  rintro e h4 ⟨x4, rfl⟩
  have hse : sealF f (markN (σ.read n).2.1 : Int) = (tx (sealL f (UInt8.ofNat (markN (σ.read n).2.1))), 0) := by
    unfold sealF
    rw [if_neg (by omega), if_neg (by simpa using hw0), Int.toNat_natCast]
  rw [hse]
  refine ⟨_, _, rfl, (rWrite_c (D3.ext x4) n _ (by rw [read_pend]; exact hlen)).mono ?_⟩
  rintro e h5 ⟨y5, D5, rfl⟩
  have e1 : putF σ n f = (σ.read n).1.write n (tx (sealL f (UInt8.ofNat (markN (σ.read n).2.1)))) := by unfold putF; rw [if_neg (by simpa using hw0), if_neg (by simpa using hc0)]
  rw [e1]
  have y05 := (y03.trans (x4.same B) fun _ h _ => h).trans y5 fun _ h _ => h
  have s4 := y03.size
  have s4' := x4.size
  refine ⟨_, rfl, y05, D5.more (fun b hb => ?_) (GrowB.lt D.lt y05.size), rfl⟩
  rcases hb with hb | hb
  · exact .inl hb
  · exact .inr ⟨by omega, hb.2⟩

/-- turnoutref20.bytes -/
theorem rBytesC_c (n many : Nat) (hn : n < 18446744073709551616) (hm : many ≤ 8) (h : Hp) : CallsH Tryz.prog 77 #[vU n, vI many] h fun e h' => Ext h h' ∧ e = .returned (.string (tx (beL many n))) := by
  refine V77 _ _ h _ ⟨fun l hq => ∃ i : Nat, i ≤ many ∧ l = [vU (n / 256 ^ i), .string (tx (beL i n)), vI i] ∧ Ext h hq, fun l _ => (many - numAt l 2).toNat, ⟨0, Nat.zero_le _, by simp [beL, tx], Ext.refl _⟩, ?_⟩
  rintro m s x hq ⟨i, hi, hl, hx⟩
  cases hl
  refine ⟨fun hc => ?_, fun hc => ?_⟩
  · have hc : i < many := by simp at hc; omega
    have hmod : IntKind.u8.wrap (((n / 256 ^ i) % 256 : Nat) : Int) = ((UInt8.ofNat (n / 256 ^ i)).toNat : Int) := by rw [wrapU8, u8_nat]; omega
    refine ⟨by decide, _, tmod_nat (n / 256 ^ i) 256, _, hmod, semH_build rowB (vs := [vB (UInt8.ofNat (n / 256 ^ i))]) rfl rfl (by simp) (by simp) (by simp [Value.oneCell']) ⟨_, _, _, rfl, ?_⟩⟩
    have x1 : Ext hq (hq.push (.cells [vB (UInt8.ofNat (n / 256 ^ i))].toArray 5)) := Ext.push _ _
    have g1 : Seg (hq.push (.cells [vB (UInt8.ofNat (n / 256 ^ i))].toArray 5)) (some ⟨hq.size, 0, none⟩) 1 (byteVs (tx [UInt8.ofNat (n / 256 ^ i)]).data.toList) := ⟨rfl, .inr ⟨_, _, rfl, cellsAt_all push_last⟩⟩
    generalize (hq.push (.cells [vB (UInt8.ofNat (n / 256 ^ i))].toArray 5)) = h1 at x1 g1
    refine semH_toText uBs uB uStr (t := tx [UInt8.ofNat (n / 256 ^ i)]) g1 ⟨_, rfl, by rw [tx_size, tx_size, beL_length]; simp; omega, _, rfl, by decide, ((n / 256 ^ i / 256 : Nat) : Int), ?_, _, incI (by omega), ⟨i + 1, hc, ?_, hx.trans x1⟩, ?_⟩
    · rw [show Int.tdiv ((n / 256 ^ i : Nat) : Int) (256 : Int) = ((n / 256 ^ i / 256 : Nat) : Int) from tdiv_nat _ 256, wrapU]
      have : n / 256 ^ i ≤ n := Nat.div_le_self _ _
      have : n / 256 ^ i / 256 ≤ n / 256 ^ i := Nat.div_le_self _ _
      omega
    · have e : tx [UInt8.ofNat (n / 256 ^ i)] ++ tx (beL i n) = tx (beL (i + 1) n) := bl_inj (by rw [bl_append, bl_tx, bl_tx, bl_tx, beL_cons]; rfl)
      rw [e, Nat.div_div_eq_div_mul, ← Nat.pow_succ]
    · simp only [numAt]; omega
  · have hc : i = many := by simp at hc; omega
    subst hc
    exact ⟨hx, rfl⟩

def restF (image : ByteArray) (i : Nat) : ByteArray := image.extract (491 * i) image.size
theorem restF_size (image : ByteArray) (i : Nat) : (restF image i).size = image.size - 491 * i := by unfold restF; rw [ByteArray.size_extract]; omega
theorem restF_bl (image : ByteArray) (i : Nat) : bl (restF image i) = (bl image).drop (491 * i) := by
  unfold restF
  rw [bl_extract, List.take_of_length_le (by rw [List.length_drop, bl_length]; exact Nat.le_refl _)]
theorem restF_zero (image : ByteArray) : restF image 0 = image := bl_inj (by rw [restF_bl]; simp)
theorem restF_piece (image : ByteArray) (i : Nat) {u : Nat} (hu : u = min (image.size - 491 * i) 491) : (restF image i).extract 0 u = pieceF image i := by
  apply bl_inj
  unfold pieceF
  rw [bl_extract, bl_extract, restF_bl, List.drop_zero, Nat.sub_zero]
  congr 1
  omega
theorem restF_next (image : ByteArray) (i : Nat) {u : Nat} (hu : u = min (image.size - 491 * i) 491) : (restF image i).extract u (restF image i).size = restF image (i + 1) := by
  apply bl_inj
  rw [bl_extract, restF_bl, restF_bl, restF_size, List.drop_drop, List.take_of_length_le (by rw [List.length_drop, bl_length]; omega)]
  by_cases hlt : image.size - 491 * i ≤ 491
  · rw [List.drop_of_length_le (by rw [bl_length]; omega), List.drop_of_length_le (by rw [bl_length]; omega)]
  · congr 1
    omega
theorem restF_nil {image : ByteArray} {i : Nat} : restF image i = ⟨#[]⟩ ↔ image.size ≤ 491 * i := by
  constructor
  · intro e
    have := restF_size image i
    rw [e] at this
    have h0 : (⟨#[]⟩ : ByteArray).size = 0 := rfl
    omega
  · intro hl
    apply bl_inj
    rw [restF_bl, List.drop_of_length_le (by rw [bl_length]; omega)]

/-- turnoutref20.pieces -/
theorem rPieces_c (image : ByteArray) (hsz : image.size ≤ 2097152) (h : Hp) : CallsH Tryz.prog 75 #[.string image] h fun e h' => Ext h h' ∧ ∃ p c, e = .returned (.slice p (numP image) c) ∧
    Own h' h.size 9 1 (.slice p (numP image) c) (numP image) (((List.range (numP image)).map (pieceF image)).map Value.string) := by
  refine V75 _ h _ ⟨fun l hq => ∃ (i : Nat) (p : Option Addr) (c : Nat), i ≤ numP image ∧ l = [.string (restF image i), .slice p i c] ∧ Ext h hq ∧ Own hq h.size 9 1 (.slice p i c) i (((List.range i).map (pieceF image)).map Value.string),
    fun l _ => match l with | .string s :: _ => s.size | _ => 0, ⟨0, none, 0, Nat.zero_le _, by rw [restF_zero], Ext.refl _, Own.nil _ _ _ _⟩, ?_⟩
  rintro s p n c hq ⟨i, p', c', hi, hl, x, o⟩
  cases hl
  have hs := restF_size image n
  refine ⟨fun hc => ?_, fun hc => ?_⟩
  · have hc : restF image n ≠ ⟨#[]⟩ := by simpa using hc
    have hlt : 491 * n < image.size := by
      have := mt restF_nil.2 hc
      omega
    have hn : n < numP image := by unfold numP; omega
    obtain ⟨u, hu⟩ : ∃ u, u = min (image.size - 491 * n) 491 := ⟨_, rfl⟩
    have hN : numP image ≤ 4273 := by unfold numP; omega
    have hmin : (min ((restF image n).size : Int) 491) = (u : Int) := by rw [hs, hu]; omega
    refine ⟨u, hmin, Nat.zero_le _, by rw [hs, hu]; omega, _, restF_piece image n hu, semH_push rowS o (vs := [.string (pieceF image n)]) (m := 1) rfl rfl (by simp) (by simp) (by simp [Value.oneCell']) (by omega) (by simp only [maxLen]; omega) x.size fun p2 c2 h2 o2 g2 _ _ => ⟨u, hmin, by rw [hs, hu]; omega, Nat.le_refl _, _, restF_next image n hu, ⟨n + 1, p2, c2, hn, rfl, x.own o (Nat.le_refl _) g2, ?_⟩, ?_⟩⟩
    · rw [List.range_succ, List.map_append, List.map_append]
      exact o2
    · show (restF image (n + 1)).size < (restF image n).size
      rw [restF_size, restF_size]; omega
  · have hc : restF image n = ⟨#[]⟩ := by simpa using hc
    have hge := restF_nil.1 hc
    have hn : n = numP image := by unfold numP at hi ⊢; omega
    subst hn
    exact ⟨x, p, c, rfl, o⟩

/-! ## The document's disk at work -/

/-- The document's disk at work, beside what else lies there. -/
def RWkS (B : Nat → Prop) (g : Hp) (d : Nat) (hr : Hp) (τ : DS) : Prop := ∃ C, Same B g hr ∧ RefAt rI hr C d τ ∧ (∀ b, C b → B b ∨ g.size ≤ b) ∧ Kp B g C hr

end
section
variable {B : Nat → Prop} {g hr hs : Hp} {d : Nat} {τ τ' : DS}

theorem RWkS.start (D : RefAt rI g B d τ) : RWkS B g d g τ := ⟨B, Same.refl _ _, D, fun _ hb => .inl hb, Nat.le_refl _, fun _ _ hn => ⟨hn, rfl⟩⟩
theorem RWkS.ext (W : RWkS B g d hr τ) (x : Ext hr hs) : RWkS B g d hs τ :=
  let ⟨C, y, D, s, k⟩ := W
  ⟨C, y.trans (x.same NoB) (fun _ hx _ => hx.elim), D.ext x, s, k.trans (Kp.ext C x)⟩
theorem RWkS.size (W : RWkS B g d hr τ) : g.size ≤ hr.size := let ⟨_, _, _, _, k⟩ := W; k.1
theorem RWkS.old (W : RWkS B g d hr τ) {b : Nat} (hb : b < g.size) (hn : ¬ B b) : hr[b]? = g[b]? := let ⟨_, _, _, _, k⟩ := W; (k.2 b hb hn).2
theorem RWkS.next (C : Nat → Prop) (y : Same B g hr) (s : ∀ b, C b → B b ∨ g.size ≤ b) (k : Kp B g C hr) (y2 : Same C hr hs) (D2 : RefAt rI hs (GrowB C hr hs) d τ') : RWkS B g d hs τ' := by
  refine ⟨GrowB C hr hs, y.trans y2 fun b hb hl => (s b hb).resolve_right (by omega), D2, ?_, k.trans ⟨y2.size, fun b hb hn => ⟨?_, y2.old b hb hn⟩⟩⟩
  · rintro b (hb | hb)
    · exact s b hb
    · have := y.size; exact .inr (by omega)
  · rintro (hc | hc)
    · exact hn hc
    · omega
theorem RWkS.put (W : RWkS B g d hr τ) (n : Int) {f : Frm} (ok : f.Ok) (hl : τ.pend.length ≤ 2199023255552) :
    CallsH Tryz.prog 76 #[vP d, vZ n, .agg (frmV f).toArray] hr fun e hs => RWkS B g d hs (putF τ n f).1 ∧ e = .returned (vZ (putF τ n f).2) := by
  obtain ⟨C, y, D, s, k⟩ := W
  refine (rPut_c D n f ok hl).mono ?_
  rintro e hs ⟨y2, D2, rfl⟩
  exact ⟨RWkS.next C y s k y2 D2, rfl⟩
theorem RWkS.flush (W : RWkS B g d hr τ) : CallsH Tryz.prog 26 #[vP d] hr fun e hs => RWkS B g d hs τ.flush.1 ∧ e = .returned (vZ τ.flush.2) := by
  obtain ⟨C, y, D, s, k⟩ := W
  refine (rFlush_c D).mono ?_
  rintro e hs ⟨y2, _, D2, rfl⟩
  exact ⟨RWkS.next C y s k y2 (D2.more (fun b hb => .inl hb) (GrowB.lt D.lt y2.size)), rfl⟩
theorem RWkS.done {h : Hp} (W : RWkS B g d hr τ) (x : Ext h g) (hB : ∀ b, B b → b < h.size) : Same B h hr ∧ RefAt rI hr (GrowB B h hr) d τ := by
  obtain ⟨C, y, D, s, k⟩ := W
  have hs := x.size
  have hs2 := y.size
  refine ⟨(x.same B).trans y fun _ hb _ => hb, D.more (fun b hb => ?_) (GrowB.lt hB (by omega))⟩
  rcases s b hb with hb' | hb'
  · exact .inl hb'
  · exact .inr ⟨by omega, D.lt b hb⟩

end

section
variable {h : Hp} {B : Nat → Prop} {d : Nat} {σ : DS}

theorem vs_of_pieces {image : ByteArray} {k : Nat} (hk : k < numP image) : ((List.range (numP image)).map (pieceF image))[k]'(by simpa using hk) = pieceF image k := by simp

set_option maxHeartbeats 1000000 in
/-- turnoutref20.Write -/
theorem rWriteH_c (D : RefAt rI h B d σ) (H : Hd) (ok : H.Ok) (image : ByteArray) (hl : σ.pend.length ≤ 2199023250000) :
    CallsH Tryz.prog 50 #[vP d, .agg (hdV H).toArray, .string image] h fun e h' => Same B h h' ∧ RefAt rI h' (GrowB B h h') d (writeC σ H image).1 ∧ e = .returned (vZ (writeC σ H image).2) := by
  have stay : ∀ {hq : Hp}, Ext h hq → Same B h hq ∧ RefAt rI hq (GrowB B h hq) d σ := fun x => ⟨x.same B, (D.ext x).more (fun b hb => .inl hb) (GrowB.lt D.lt x.size)⟩
  have nB : ∀ {x : Nat}, h.size ≤ x → ¬ B x := fun hx hb => by have := D.lt _ hb; omega
  refine V50 _ _ _ _ _ _ _ h _ ?_
  intro b h1 hb e1
  have x1 : Ext h h1 := by rw [e1]; exact Ext.push _ _
  have cb1 : h1[b]? = some (.cells (hdV H).toArray 39) := by rw [e1, hb]; exact push_last
  clear e1
  refine ⟨false, eqv_ptr uPRd _, fun hf => (by cases hf), fun _ => ⟨_, _, _, _, _, cellsAt_all (vs := hdV H) cb1, (rRight_c (D.ext x1) H ok.a0).mono ?_⟩⟩
  rintro e h2 ⟨x2, rfl⟩
  have x02 := x1.trans x2
  obtain ⟨k1, k2⟩ := stay x02
  refine ⟨_, rfl, fun l hq => hq = h2 ∧ rightH σ.safe.length H = true ∧ image ≠ ⟨#[]⟩, ⟨decide (¬ (rightH σ.safe.length H = true ∧ image ≠ ⟨#[]⟩)), ⟨fun hr => ⟨rfl, ?_⟩, fun hr => ⟨rfl, ?_⟩⟩, fun hB => ?_, fun hB => ?_⟩, ?_⟩
  · have hr : rightH σ.safe.length H = false := by simpa using hr
    rw [hr]; simp
  · have hr : rightH σ.safe.length H = true := by simpa using hr
    rw [hr]; simp
  · have hB := of_decide_eq_true hB
    have e1 : writeC σ H image = (σ, 1) := by
      unfold writeC
      rw [if_pos]
      by_cases hr : rightH σ.safe.length H = true
      · exact .inr (Decidable.of_not_not fun hn => hB ⟨hr, hn⟩)
      · exact .inl (by simpa using hr)
    rw [e1]; exact ⟨k1, k2, rfl⟩
  · exact ⟨rfl, Decidable.of_not_not (of_decide_eq_false hB)⟩
  rintro h2' ⟨rfl, hright, hne⟩
  obtain ⟨r1, r2, r3, r4, r5, r6, r7, r8⟩ := rightH_ok hright
  have w0 : writeC σ H image = if mostH H < image.size then (σ, 2) else runL (stepsF H image) σ := by
    unfold writeC
    rw [if_neg]
    rintro (h | h)
    · rw [hright] at h; cases h
    · exact hne h
  have hpos : 1 ≤ image.size := Nat.pos_of_ne_zero fun h0 => hne (bl_inj (List.eq_nil_of_length_eq_zero (by rw [bl_length]; exact h0)))
  have cb2 := (x2.old b (Array.getElem?_eq_some_iff.1 cb1).1).trans cb1
  refine ⟨_, cellsAt_one (cellH_at cb2), (rMay_c (image.size : Int) H.ls (by omega) (by omega) h2').mono ?_⟩
  rintro e h3 ⟨rfl, rfl⟩
  refine ⟨_, rfl, fun hc => ?_, fun hc => ?_⟩
  · have hm : mostH H < image.size := by
      have hc : decide (1 ≤ (image.size : Int) ∧ (image.size : Int) ≤ min (491 * H.ls) 2097152) = false := by simpa only [Bool.not_eq_true'] using hc
      have hc := of_decide_eq_false hc
      unfold mostH; omega
    rw [w0, if_pos hm]
    exact ⟨k1, k2, rfl⟩
  have hc : 1 ≤ (image.size : Int) ∧ (image.size : Int) ≤ min (491 * H.ls) 2097152 := by simpa using hc
  rw [w0, if_neg (by unfold mostH; omega)]
  clear w0
  have hsz : image.size ≤ 2097152 ∧ (image.size : Int) ≤ 491 * H.ls := by omega
  refine (rPieces_c image hsz.1 h3).mono ?_
  rintro e g ⟨xg, p, c, rfl, o⟩
  have x0g := x02.trans xg
  have cb := (xg.old b (Array.getElem?_eq_some_iff.1 cb2).1).trans cb2
  have lb := (Array.getElem?_eq_some_iff.1 cb).1
  have hbh : h.size ≤ b := by omega
  have Dg := D.ext x0g
  obtain ⟨N, hN⟩ : ∃ N, N = numP image := ⟨_, rfl⟩
  have hN2 : (N : Int) ≤ H.ls := by rw [hN]; unfold numP; omega
  have hsteps := steps_length H image
  rw [← hN] at o hsteps
  have s3 := x02.size
  have sg := xg.size
  have put : ∀ {hr : Hp} {τ : DS}, RWkS B g d hr τ → hr[b]? = some (.cells (hdV H).toArray 39) := fun W => (W.old lb (nB hbh)).trans cb
  have seg : ∀ {hr : Hp} {τ : DS}, RWkS B g d hr τ → Seg hr p N (((List.range N).map (pieceF image)).map Value.string) := fun W => o.seg.keep fun bb oo hp _ => by
    have hbb : (Value.slice p N c).ownBlock = some bb := by rw [hp]; rfl
    have := o.lt hbb
    exact W.old this.2 (nB (by omega))
  rw [← hN]
  refine ⟨_, _, _, rfl, fun l hr => ∃ (i : Nat) (τ : DS), l = [vI i] ∧ i ≤ N ∧ RWkS B g d hr τ ∧ τ.pend.length ≤ σ.pend.length + i ∧ runL (stepsF H image) σ = runL ((stepsF H image).drop i) τ,
    fun l _ => (N - numAt l 0).toNat, ⟨0, σ, rfl, Nat.zero_le _, RWkS.start Dg, Nat.le_refl _, rfl⟩, ?_⟩
  have drop : ∀ {i : Nat} {f : DS → DS × Int}, (stepsF H image)[i]? = some f → (stepsF H image).drop i = f :: (stepsF H image).drop (i + 1) := fun {i f} hf => by
    obtain ⟨hi, hfe⟩ := List.getElem?_eq_some_iff.1 hf
    rw [List.drop_eq_getElem_cons hi, hfe]
  rintro x hr ⟨i, τ, hl', hi, W, hpl, hrun⟩
  cases hl'
  have cr := put W
  refine ⟨fun hlt => ?_, fun hlt => ?_⟩
  · have hlt : i < N := by have := of_decide_eq_true hlt; omega
    have hf := steps_put (H := H) (image := image) (i := i) (by omega)
    obtain ⟨bb, oo, hp, hcell⟩ := (seg W).at (i := i) (by simpa using hlt)
    have hve : (((List.range N).map (pieceF image)).map Value.string)[i]'(by simpa using hlt) = Value.string (pieceF image i) := by simp
    rw [hve] at hcell
    have hpl2 : placeH H + i = 2 + H.slot * H.ls + i := rfl
    have b1 : 0 ≤ H.slot * H.ls ∧ H.slot * H.ls ≤ 2046 := by rcases r6 with e | e <;> rw [e] <;> omega
    refine ⟨_, cellsAt_one (cellH_at cr), _, cellsAt_one (cellH_at cr), _, wrapI64 (by omega) (by omega), _, wrapI64 (by omega) (by omega), _, wrapI64 (by omega) (by omega), _, cellsAt_one (cellH_at cr), bb, oo, hp, by omega, by omega, _, hcell, ?_⟩
    have hps : (pieceF image i).size ≤ 9223372036854775807 := by have := piece_le (image := image) (k := i); omega
    refine (W.put (placeH H + i) (f := pieceM H image i) (Frm.ok_of (.inr rfl) (by omega) ⟨by omega, by omega⟩ hps) (by omega)).mono ?_
    rintro e hs ⟨W', rfl⟩
    have hd := drop hf
    have hst : putS H image i τ = putF τ (placeH H + i) (pieceM H image i) := rfl
    refine ⟨_, rfl, fun hne => ?_, fun hz => ?_⟩
    · have hne : (putS H image i τ).2 ≠ 0 := of_decide_eq_true hne
      rw [hrun, hd, runL, if_pos hne]
      obtain ⟨k1, k2⟩ := W'.done x0g D.lt
      exact ⟨k1, k2, rfl⟩
    · have hz : ¬ (putS H image i τ).2 ≠ 0 := of_decide_eq_false hz
      have hpm := steps_more (List.mem_of_getElem? hf) τ
      refine ⟨_, incI (by omega), ⟨i + 1, _, rfl, hlt, W', by rw [← hst]; omega, ?_⟩, by simp only [numAt]; omega⟩
      rw [hrun, hd, runL, if_neg hz]
      rfl
  have hiN : i = N := by have := of_decide_eq_false hlt; omega
  subst hiN
  have e0 : (stepsF H image)[i]? = some DS.flush := by have := steps_end (H := H) (image := image) 0; rw [hN]; exact this
  have e1 : (stepsF H image)[i + 1]? = some (headS H image) := by have := steps_end (H := H) (image := image) 1; rw [hN]; exact this
  have e2 : (stepsF H image)[i + 1 + 1]? = some DS.flush := by have := steps_end (H := H) (image := image) 2; rw [hN]; exact this
  have e3 : (stepsF H image).drop (i + 1 + 1 + 1) = [] := List.drop_of_length_le (by omega)
  refine W.flush.mono ?_
  rintro e hs ⟨W1, rfl⟩
  have hrun1 : runL (stepsF H image) σ = if τ.flush.2 ≠ 0 then τ.flush else runL ((stepsF H image).drop (i + 1)) τ.flush.1 := by rw [hrun, drop e0, runL]
  refine ⟨_, rfl, fun hne => ?_, fun hz => ?_⟩
  · rw [hrun1, if_pos (of_decide_eq_true hne)]
    obtain ⟨k1, k2⟩ := W1.done x0g D.lt
    exact ⟨k1, k2, rfl⟩
  rw [if_neg (of_decide_eq_false hz)] at hrun1
  have c1 := put W1
  have fm := flush_more (σ := τ)
  have sb : ∀ {ha hb : Hp}, Ext ha hb → ha[b]? = some (.cells (hdV H).toArray 39) → hb[b]? = some (.cells (hdV H).toArray 39) := fun x c => (x.old b (Array.getElem?_eq_some_iff.1 c).1).trans c
  have sz : ∀ k n, (tx (beL k n)).size = k := fun k n => by rw [tx_size, beL_length]
  refine ⟨fun h' => h'[b]? = some (.cells (hdV H).toArray 39), c1, _, cellsAt_one (cellH_at c1), (rBytesC_c H.ep 8 (by omega) (by decide) hs).mono ?_⟩
  rintro e q1 ⟨z1, rfl⟩
  have hls : IntKind.u64.wrap H.ls = ((H.ls.toNat : Nat) : Int) := by rw [wrapU64]; omega
  refine ⟨_, rfl, sb z1 c1, _, fun h' c => cellsAt_one (cellH_at c), _, hls, (rBytesC_c H.ls.toNat 4 (by omega) (by decide) q1).mono ?_⟩
  rintro e q2 ⟨z2, rfl⟩
  have z12 := z1.trans z2
  refine ⟨_, rfl, sb z12 c1, by rw [sz, sz]; decide, _, rfl, _, wrapU (by omega), (rBytesC_c image.size 4 (by omega) (by decide) q2).mono ?_⟩
  rintro e q3 ⟨z3, rfl⟩
  have z13 := z12.trans z3
  refine ⟨_, rfl, sb z13 c1, by rw [ByteArray.size_append, sz, sz, sz]; decide, _, rfl, (rMore_c 0#32 image (by simp only [maxLen]; omega) q3).mono ?_⟩
  rintro e q4 ⟨rfl, rfl⟩
  have hsum : moreB 0#32 (bl image) = sumB [image] := by
    have := sumB_more [] image
    rw [List.nil_append] at this
    rw [this]; rfl
  rw [hsum]
  have hx : (sumB [image]).toNat < 4294967296 := (sumB [image]).isLt
  refine ⟨_, rfl, sb z13 c1, _, wrapU (by omega), (rBytesC_c (sumB [image]).toNat 4 (by omega) (by decide) q4).mono ?_⟩
  rintro e q5 ⟨z5, rfl⟩
  have z15 := z13.trans z5
  have c5 := sb z15 c1
  have hbody : tx (beL 8 H.ep) ++ tx (beL 4 H.ls.toNat) ++ tx (beL 4 image.size) ++ tx (beL 4 (sumB [image]).toNat) = tx (bodyL H image) := by
    apply bl_inj
    simp only [bl_append, bl_tx, bodyL, List.append_assoc]
  refine ⟨_, rfl, c5, by rw [ByteArray.size_append, ByteArray.size_append, sz, sz, sz, sz]; decide, _, hbody, _, cellsAt_one (cellH_at c5), _, cellsAt_one (cellH_at c5), _, cellsAt_one (cellH_at c5), ?_⟩
  have hbl := bodyL_length H image
  refine ((W1.ext z15).put H.slot (f := headM H image) (Frm.ok_of (.inl rfl) (by omega) (by rcases r6 with e | e <;> rw [e] <;> decide) (by rw [tx_size, hbl]; decide)) (by omega)).mono ?_
  rintro e q6 ⟨W6, rfl⟩
  have hrun2 : runL (stepsF H image) σ = if (headS H image τ.flush.1).2 ≠ 0 then headS H image τ.flush.1 else runL ((stepsF H image).drop (i + 1 + 1)) (headS H image τ.flush.1).1 := by rw [hrun1, drop e1, runL]
  refine ⟨_, rfl, fun hne => ?_, fun hz => ?_⟩
  · have hne : (headS H image τ.flush.1).2 ≠ 0 := of_decide_eq_true hne
    rw [hrun2, if_pos hne]
    obtain ⟨k1, k2⟩ := W6.done x0g D.lt
    exact ⟨k1, k2, rfl⟩
  have hz : ¬ (headS H image τ.flush.1).2 ≠ 0 := of_decide_eq_false hz
  rw [if_neg hz, drop e2, runL, e3] at hrun2
  refine W6.flush.mono ?_
  rintro e q7 ⟨W7, rfl⟩
  have fin : runL (stepsF H image) σ = (headS H image τ.flush.1).1.flush := by
    rw [hrun2]
    split
    · rfl
    · rename_i h0
      have h0 : (headS H image τ.flush.1).1.flush.2 = 0 := Decidable.of_not_not h0
      rw [runL, ← h0]
  rw [fin]
  obtain ⟨k1, k2⟩ := W7.done x0g D.lt
  exact ⟨_, rfl, k1, k2, rfl⟩

end
end Go.Vc
