/- SumsSpreads: the walk. -/
import Derived.Test.YtmjbccjelnhhiaaDoorS2D
set_option maxRecDepth 10000
namespace Go.Vc
open Go Go.Proofs Go.MapKept

theorem Own.kept' {h h' : Hp} {base : Nat} {e : TypeId} {size : Nat} {v : Value} {n : Nat} {xs : List Value} {row : Option Nat} (o : Own h base e size v n xs) (g : Grown h h' row) (hne : ∀ b, v.ownBlock = some b → row ≠ some b) : Own h' base e size v n xs := by
  refine o.kept g ?_
  cases hv : v.ownBlock with
  | none => exact .inl rfl
  | some b => exact .inr (Ne.symm (hne b hv))

theorem Grown.trans {a b c : Hp} {row : Option Nat} (g : Grown a b row) (k : Grown b c row) : Grown a c row :=
  ⟨Nat.le_trans g.size k.size, fun i hi hne => (k.block i (Nat.lt_of_lt_of_le hi g.size) hne).trans (g.block i hi hne)⟩

/-- A store into a row of one's own, as a condition asks it. -/
theorem Own.store {h : Hp} {base : Nat} {e : TypeId} {p : Option Addr} {n c : Nat} {xs : List Value} (o : Own h base e 1 (.slice p n c) n xs) {i : Nat} (hi : i < n) {v : Value} (h1 : v.oneCell' = true) {K : Hp → Prop}
    (hK : ∀ h', Own h' base e 1 (.slice p n c) n (xs.set i v) → Grown h h' (Value.slice p n c).ownBlock → K h') :
    ∃ b q, p = some ⟨b, q, none⟩ ∧ 0 ≤ (i : Int) ∧ (i : Int) < n ∧ v.oneCell' = true ∧ wrAt h b (q + Int.toNat (i : Int) * 1) 1 ∧ ∀ h', h' = setsH h b (q + Int.toNat (i : Int) * 1) [v] → K h' := by
  rcases o.2 with ⟨hn, h0⟩ | ⟨g, cap, cur, hv, hb, hg, hnc, hcm, hcs, ht⟩
  · omega
  · cases hv
    refine ⟨g, 0, rfl, by omega, by omega, h1, ?_, ?_⟩
    · exact wrAt_of (show h[g]? = _ from hg) (by rw [Int.toNat_natCast]; omega) (by omega)
    · rintro h' rfl
      rw [Int.toNat_natCast, Nat.zero_add, Nat.mul_one]
      refine hK _ ⟨by rw [List.length_set]; exact o.1, .inr ⟨g, c, layC cur i [v], rfl, hb, ?_, hnc, hcm, by rw [layC_size]; exact hcs, ?_⟩⟩ ⟨by rw [setsH_size]; exact Nat.le_refl _, fun k _ hne => setsH_ne (fun e => hne (by rw [e]; rfl))⟩
      · exact setsH_at (show h[g]? = _ from hg)
      · rw [← ht]
        simp only [layC, Array.toList_setIfInBounds, List.take_set]

theorem val_of {l : List Int} {i : Nat} (hi : i < l.length) {a : Int} (h : l[i]? = some a) : l[i] = a := by
  rw [List.getElem?_eq_getElem hi] at h; exact Option.some.inj h

/-- What Slots answers, in one piece. -/
def slotsOut (f : ByteArray → Nat) (most : Int) (l : List ByteArray) : List Nat × Int :=
  if most < 1 then ([], 1) else match slotsF f most.toNat l with
    | none => ([], 120)
    | some (_, out) => (out, 0)

theorem SlotsRes.out {base : Nat} {f : ByteArray → Nat} {most : Int} {l : List ByteArray} {e : Ending} {h' : Hp} (r : SlotsRes base f most l e h') :
    ∃ (p : Option Addr) (n c : Nat), e = .returned (.tuple #[.slice p n c, .int .i64 (slotsOut f most l).2]) ∧ Own h' base 3 1 (.slice p n c) n ((slotsOut f most l).1.map vI) := by
  obtain ⟨p, n, c, code, rfl, hc⟩ := r
  refine ⟨p, n, c, ?_⟩
  unfold slotsOut
  rcases hc with ⟨h1, rfl, rfl, rfl, rfl⟩ | ⟨h1, h2, rfl, rfl, rfl, rfl⟩ | ⟨h1, kn, out, h2, rfl, ho⟩
  · rw [if_pos h1]; exact ⟨rfl, Own.nil _ _ _ _⟩
  · rw [if_neg (by omega), h2]; exact ⟨rfl, Own.nil _ _ _ _⟩
  · rw [if_neg (by omega), h2]; exact ⟨rfl, ho⟩

theorem slotsOut_len (f : ByteArray → Nat) (most : Int) (l : List ByteArray) : (slotsOut f most l).1.length ≤ l.length := by
  unfold slotsOut
  split
  · simp
  · cases h : slotsF f most.toNat l with
    | none => simp
    | some r => exact Nat.le_of_eq (slots_ok f most.toNat (by omega) l _ _ h).len

abbrev vZ (n : Int) : Value := .int .i64 n

theorem vI_vZ (l : List Nat) : l.map vI = (l.map (fun a : Nat => (a : Int))).map vZ := by rw [List.map_map]; rfl

theorem oneZ (l : List Int) : ∀ v ∈ l.map vZ, v.oneCell' = true := by
  intro v hv
  obtain ⟨_, _, rfl⟩ := List.mem_map.1 hv
  rfl

/-- turnoutlaw02.SumsSpreads -/
theorem law_3 (sd : W32) (most : Int) (hmax : most ≤ 9223372036854775807) (l : List ByteArray) (hl : ∀ b ∈ l, b.size ≤ maxLen) (h : Hp) (hh : Halves h) {p : Option Addr} {n c : Nat} (hnc : n ≤ c) (hs : Seg h p n (l.map Value.string)) :
    CallsH Tryd.prog 3 #[vW sd, .int .i64 most, .slice p n c] h (RetX (.bool true) h) := by
  have hln : l.length = n := by have := hs.1; simpa using this
  refine V3 _ _ _ _ _ h _ ((live_12 h hh).mono ?_)
  rintro e h1 ⟨rfl, hx1⟩
  refine ⟨_, rfl, fun l' hp => hp = h1 ∧ ∃ m : Nat, m ≤ n ∧ m ≤ 1000 ∧ l' = [vI m], ⟨fun hc => ⟨rfl, 1000, by simp at hc; omega, by omega, rfl⟩, fun hc => ⟨rfl, n, by omega, by simp at hc; omega, rfl⟩⟩, ?_⟩
  rintro m_ hp ⟨rfl, m, hmn, hm1000, hl'⟩
  cases hl'
  have hseg1 := hs.ext hx1
  have hh1 := hh.ext hx1
  refine ⟨fun l' hq => hq = hp ∧ ∃ i : Nat, i ≤ m ∧ l' = [vI i], fun l' _ => (m - numAt l' 0).toNat, ⟨rfl, 0, Nat.zero_le _, rfl⟩, ?_⟩
  rintro x hp2 ⟨rfl, i, hi, hl'⟩
  cases hl'
  refine ⟨fun hc => ?_, fun hc => ?_⟩
  · have hc : i < m := by simp at hc; omega
    have hil : i < l.length := by omega
    refine hseg1.text hil ((spread_13 sd _ (hl _ (List.getElem_mem hil)) hp2).mono ?_)
    rintro e h3 ⟨rfl, rfl⟩
    refine ⟨_, rfl, hseg1.text hil ((spread_14 sd _ (hl _ (List.getElem_mem hil)) h3).mono ?_)⟩
    rintro e h4 ⟨rfl, rfl⟩
    exact ⟨_, rfl, fun hne => by simp at hne, fun _ => ⟨_, incI (by omega), ⟨rfl, i + 1, hc, rfl⟩, by simp only [numAt]; omega⟩⟩
  clear hc
  -- the texts that are looked at
  obtain ⟨t, ht⟩ : ∃ t, t = l.take m := ⟨_, rfl⟩
  have htl : t.length = m := by rw [ht]; simp; omega
  have htb : ∀ b ∈ t, b.size ≤ maxLen := fun b hb => hl b (List.mem_of_mem_take (ht ▸ hb))
  have segt : ∀ {hq : Hp}, Ext hp2 hq → Seg hq p m (t.map Value.string) := fun hxq => by
    have := (hseg1.ext hxq).drop (l := 0) (m := m) (Nat.zero_le _) hmn (p' := p) (fun _ => by cases p <;> simp [Addr.add])
    rw [ht]
    simpa [List.map_take] using this
  refine ⟨m, rfl, Nat.zero_le _, by omega, _, cutP_zero, ?_⟩
  refine (slots_15 sd most hmax t htb (by omega) hp2 (segt (Ext.refl _))).mono ?_
  rintro e h5 ⟨hx5, hres⟩
  obtain ⟨pW, nW, cW, rfl, hW⟩ := hres.out
  refine ⟨_, _, _, _, rfl, m, rfl, Nat.zero_le _, by omega, _, cutP_zero, ?_⟩
  refine (lent_16 t (by omega) h5 (segt hx5)).mono ?_
  rintro e h6 ⟨hx6, pA, cA, rfl, hA⟩
  have hcA := hA.len.2.2
  have segA : ∀ {hq : Hp} {last : ByteArray}, Own hq h5.size 9 1 (.slice pA (m + 1) cA) (m + 1) ((t ++ [last]).map Value.string) → Seg hq pA m (t.map Value.string) := fun hxq => by
    have := hxq.seg.drop (l := 0) (m := m) (Nat.zero_le _) (by omega) (p' := pA) (fun _ => by cases pA <;> simp [Addr.add])
    simpa [htl] using this
  refine ⟨_, _, _, rfl, m, rfl, Nat.zero_le _, by omega, _, cutP_zero, ?_⟩
  refine (slots_17 sd most hmax t htb (by omega) h6 (segA hA)).mono ?_
  rintro e h7 ⟨hx7, hres1⟩
  obtain ⟨pO, nO, cO, rfl, hO⟩ := hres1.out
  refine ⟨_, _, _, _, rfl, m, rfl, Nat.zero_le _, by omega, _, cutP_zero, ?_⟩
  refine (slots_17 sd most hmax t htb (by omega) h7 (segA (hA.ext hx7))).mono ?_
  rintro e h8 ⟨hx8, hres2⟩
  obtain ⟨pT, nT, cT, rfl, hT⟩ := hres2.out
  refine ⟨_, _, _, _, rfl, m, rfl, Nat.zero_le _, by omega, _, cutP_zero, ?_⟩
  refine (back_18 t (by omega) h8 ((hA.ext hx7).ext hx8).seg (segt (((hx5.trans hx6).trans hx7).trans hx8))).mono ?_
  rintro e h9 ⟨rfl, rfl⟩
  generalize hS : slotsOut (fun s => (spread sd (bl s)).toNat) most t = S at *
  have hSl : S.1.length ≤ m := by rw [← hS, ← htl]; exact slotsOut_len _ _ _
  have eO : nO = S.1.length := by have := hO.len.2.1; simpa using this.symm
  have eT : nT = S.1.length := by have := hT.len.2.1; simpa using this.symm
  have eW : nW = S.1.length := by have := hW.len.2.1; simpa using this.symm
  subst eO
  have hW9 : Own h9 hp2.size 3 1 (.slice pW nW cW) nW (S.1.map vI) := ((hW.ext hx6).ext hx7).ext hx8
  have hA9 : Own h9 h5.size 9 1 (.slice pA (m + 1) cA) (m + 1) ((t ++ [behind]).map Value.string) := (hA.ext hx7).ext hx8
  have hO9 : Own h9 h6.size 3 1 (.slice pO S.1.length cO) S.1.length (S.1.map vI) := hO.ext hx8
  -- whose block is whose
  have bW : ∀ b, (Value.slice pW nW cW).ownBlock = some b → hp2.size ≤ b ∧ b < h5.size := fun b hb => hW.lt hb
  have bA : ∀ b, (Value.slice pA (m + 1) cA).ownBlock = some b → h5.size ≤ b ∧ b < h6.size := fun b hb => hA.lt hb
  have bO : ∀ b, (Value.slice pO S.1.length cO).ownBlock = some b → h6.size ≤ b ∧ b < h7.size := fun b hb => hO.lt hb
  have bT : ∀ b, (Value.slice pT nT cT).ownBlock = some b → h7.size ≤ b ∧ b < h9.size := fun b hb => hT.lt hb
  have z1 := hx5.size
  have z2 := hx6.size
  have z3 := hx7.size
  have z4 := hx8.size
  have hx9 : Ext h h9 := hx1.trans (((hx5.trans hx6).trans hx7).trans hx8)
  have segN : ∀ {hq : Hp} {base : Nat} {p : Option Addr} {n c : Nat}, Own hq base 3 1 (.slice p n c) n (S.1.map vI) → Seg hq p n ((S.1.map (fun a : Nat => (a : Int))).map (Value.int .i64)) := fun o => by
    rw [List.map_map]; exact o.seg
  refine ⟨_, rfl, (same_19 _ _ (by simp; omega) h9 (segN hO9) (segN hW9)).mono ?_⟩
  rintro e h10 ⟨rfl, rfl⟩
  refine ⟨_, rfl, (same_19 _ _ (by simp; omega) h10 (segN hT) (segN hW9)).mono ?_⟩
  rintro e h11 ⟨rfl, rfl⟩
  refine ⟨_, rfl, ?_⟩
  rw [decide_eq_true rfl]
  subst eT
  -- the first answer is written over
  refine ⟨fun l' hq => ∃ i : Nat, i ≤ S.1.length ∧ l' = [vI i] ∧ Grown h11 hq (Value.slice pO S.1.length cO).ownBlock ∧ ∃ zs : List Int, Own hq h6.size 3 1 (.slice pO S.1.length cO) S.1.length (zs.map vZ) ∧ zs.length = S.1.length ∧ ∀ j, j < i → zs[j]? = some (-1),
    fun l' _ => (S.1.length - numAt l' 0).toNat, ⟨0, Nat.zero_le _, rfl, ⟨Nat.le_refl _, fun _ _ _ => rfl⟩, S.1.map (fun a : Nat => (a : Int)), by rw [← vI_vZ]; exact hO9, by simp, fun j hj => by omega⟩, ?_⟩
  rintro x h12 ⟨i, hi, hl', hg, zs, ho, hzl, hz⟩
  cases hl'
  refine ⟨fun hc => ?_, fun hc => ?_⟩
  · have hc : i < S.1.length := by simp at hc; omega
    refine ho.store hc rfl fun h13 ho13 hg13 => ⟨_, incI (by omega), ⟨i + 1, hc, rfl, hg.trans hg13, zs.set i (-1), by rw [List.map_set]; exact ho13, by simp [hzl], fun j hj => ?_⟩, by simp only [numAt]; omega⟩
    rw [List.getElem?_set]
    by_cases hij : i = j
    · subst hij; rw [if_pos rfl, if_pos (by omega)]
    · rw [if_neg hij]; exact hz j (by omega)
  have hie : i = S.1.length := by simp at hc; omega
  subst hie
  clear hc hi
  have hg0 : Grown h11 h12 (Value.slice pO S.1.length cO).ownBlock := hg
  have hT12 : Own h12 h7.size 3 1 (.slice pT S.1.length cT) S.1.length (S.1.map vI) := hT.kept' hg fun b hb hr => by have := bT b hb; have := bO b hr; omega
  refine semH_push row26 ho (vs := [vZ (-2), vZ (-3), vZ (-4)]) (m := 3) rfl rfl (by simp) (by simp) (by simp [Value.oneCell']) (by omega) (by simp only [maxLen]; omega) (by have := hg.size; omega) fun pG cG h15 hG hg15 _ hbG => ?_
  have hgG : Grown h11 h15 (Value.slice pO S.1.length cO).ownBlock := hg.trans hg15
  have hT15 : Own h15 h7.size 3 1 (.slice pT S.1.length cT) S.1.length (S.1.map vI) := hT.kept' hgG fun b hb hr => by have := bT b hb; have := bO b hr; omega
  have bG : ∀ b, (Value.slice pG (S.1.length + 3) cG).ownBlock = some b → (h6.size ≤ b ∧ b < h7.size) ∨ h11.size ≤ b := fun b hb => by
    rcases hbG with hbG | ⟨b', hb', hge⟩
    · exact .inl (bO b (hbG ▸ hb))
    · rw [hb'] at hb
      cases hb
      have := hg.size
      exact .inr (by omega)
  -- the second answer is written over
  refine ⟨fun l' hq => ∃ i : Nat, i ≤ S.1.length ∧ l' = [vI i] ∧ Grown h15 hq (Value.slice pT S.1.length cT).ownBlock ∧ ∃ ys : List Int, Own hq h7.size 3 1 (.slice pT S.1.length cT) S.1.length (ys.map vZ) ∧ ys.length = S.1.length ∧ ∀ j, j < i → ys[j]? = some (-5),
    fun l' _ => (S.1.length - numAt l' 0).toNat, ⟨0, Nat.zero_le _, rfl, ⟨Nat.le_refl _, fun _ _ _ => rfl⟩, S.1.map (fun a : Nat => (a : Int)), by rw [← vI_vZ]; exact hT15, by simp, fun j hj => by omega⟩, ?_⟩
  rintro x h16 ⟨i, hi, hl', hg16, ys, hoT, hyl, hy⟩
  cases hl'
  refine ⟨fun hc => ?_, fun hc => ?_⟩
  · have hc : i < S.1.length := by simp at hc; omega
    refine hoT.store hc rfl fun h17 ho17 hg17 => ⟨_, incI (by omega), ⟨i + 1, hc, rfl, hg16.trans hg17, ys.set i (-5), by rw [List.map_set]; exact ho17, by simp [hyl], fun j hj => ?_⟩, by simp only [numAt]; omega⟩
    rw [List.getElem?_set]
    by_cases hij : i = j
    · subst hij; rw [if_pos rfl, if_pos (by omega)]
    · rw [if_neg hij]; exact hy j (by omega)
  have hie : i = S.1.length := by simp at hc; omega
  subst hie
  clear hc hi
  refine semH_push row26 hoT (vs := [vZ (-6), vZ (-7), vZ (-8)]) (m := 3) rfl rfl (by simp) (by simp) (by simp [Value.oneCell']) (by omega) (by simp only [maxLen]; omega) (by have := hgG.size; have := hg16.size; omega) fun pM cM h19 hM hg19 _ _ => ?_
  have hgT : Grown h15 h19 (Value.slice pT S.1.length cT).ownBlock := hg16.trans hg19
  have hG19 : Own h19 h6.size 3 1 (.slice pG (S.1.length + 3) cG) (S.1.length + 3) (zs.map vZ ++ [vZ (-2), vZ (-3), vZ (-4)]) := hG.kept' hgT fun b hb hr => by
    have := bT b hr
    rcases bG b hb with h3 | h3 <;> omega
  have sG : Seg h19 pG (S.1.length + 3) ((zs ++ [-2, -3, -4]).map (Value.int .i64)) := by rw [List.map_append]; exact hG19.seg
  have sM : Seg h19 pM (S.1.length + 3) ((ys ++ [-6, -7, -8]).map (Value.int .i64)) := by rw [List.map_append]; exact hM.seg
  have gAt : ∀ i, i < S.1.length → (zs ++ [-2, -3, -4])[i]? = some (-1) := fun i hi => by rw [List.getElem?_append_left (by omega)]; exact hz i hi
  have mAt : ∀ i, i < S.1.length → (ys ++ [-6, -7, -8])[i]? = some (-5) := fun i hi => by rw [List.getElem?_append_left (by omega)]; exact hy i hi
  have gEnd : ∀ k, (zs ++ [-2, -3, -4])[S.1.length + k]? = [(-2 : Int), -3, -4][k]? := fun k => by rw [List.getElem?_append_right (by omega), hzl, Nat.add_sub_cancel_left]
  have mEnd : ∀ k, (ys ++ [-6, -7, -8])[S.1.length + k]? = [(-6 : Int), -7, -8][k]? := fun k => by rw [List.getElem?_append_right (by omega), hyl, Nat.add_sub_cancel_left]
  have lG : (zs ++ [-2, -3, -4]).length = S.1.length + 3 := by simp [hzl]
  have lM : (ys ++ [-6, -7, -8]).length = S.1.length + 3 := by simp [hyl]
  refine ⟨fun l' hq => hq = h19 ∧ l' = [.bool true], ⟨fun l' hq => hq = h19 ∧ ∃ i : Nat, i ≤ S.1.length ∧ l' = [.bool true, vI i], fun l' _ => (S.1.length - numAt l' 1).toNat, ⟨rfl, 0, Nat.zero_le _, rfl⟩, ?_⟩, ?_⟩
  · rintro own_ x h20 ⟨rfl, i, hi, hl'⟩
    cases hl'
    refine ⟨fun l' hq => hq = h20 ∧ l' = [] ∧ i < S.1.length, ⟨decide (i < S.1.length), ⟨fun _ => ⟨rfl, by simp⟩, fun hno => ⟨rfl, by simp at hno; simp; omega⟩⟩, fun hB => ⟨rfl, rfl, by simpa using hB⟩, fun _ => ⟨rfl, rfl⟩⟩, ?_⟩
    rintro h21 ⟨rfl, _, hil⟩
    refine ⟨true, ⟨fun _ => ?_, fun hf => (by cases hf)⟩, _, incI (by omega), ⟨rfl, i + 1, hil, rfl⟩, by simp only [numAt]; omega⟩
    refine sG.num (i := i) (by omega) ⟨fun _ => ?_, fun hne => ?_⟩
    · refine sM.num (i := i) (by omega) ⟨rfl, ?_⟩
      rw [val_of (by omega) (mAt i hil)]; rfl
    · rw [val_of (by omega) (gAt i hil)] at hne
      simp at hne
  · rintro own_ h22 ⟨rfl, hl'⟩
    cases hl'
    have bA' : ∀ b, (Value.slice pA (m + 1) cA).ownBlock = some b → (Value.slice pO S.1.length cO).ownBlock ≠ some b ∧ (Value.slice pT S.1.length cT).ownBlock ≠ some b := fun b hb =>
      ⟨fun hr => by have := bA b hb; have := bO b hr; omega, fun hr => by have := bA b hb; have := bT b hr; omega⟩
    have hA22 : Own h22 h5.size 9 1 (.slice pA (m + 1) cA) (m + 1) ((t ++ [behind]).map Value.string) := (hA9.kept' hgG fun b hb => (bA' b hb).1).kept' hgT fun b hb => (bA' b hb).2
    have hW22 : Own h22 hp2.size 3 1 (.slice pW nW cW) nW (S.1.map vI) := (hW9.kept' hgG fun b hb hr => by have := bW b hb; have := bO b hr; omega).kept' hgT fun b hb hr => by have := bW b hb; have := bT b hr; omega
    refine ⟨true, ⟨fun _ => ?_, fun hf => (by cases hf)⟩, hA22.store (i := m) (by omega) rfl fun h23 hA23 hg23 => ?_⟩
    · refine sG.num (i := S.1.length) (by omega) ⟨fun _ => ⟨((S.1.length + 2 : Nat) : Int), wrapI64 (by omega) (by omega), sG.num (i := S.1.length + 2) (by omega) ⟨fun _ => sM.num (i := S.1.length) (by omega) ⟨rfl, ?_⟩, fun hne => ?_⟩⟩, fun hne => ?_⟩
      · rw [val_of (i := S.1.length) (by omega) (mEnd 0)]; rfl
      · rw [val_of (by omega) (gEnd 2)] at hne
        simp at hne
      · rw [val_of (i := S.1.length) (by omega) (gEnd 0)] at hne
        simp at hne
    · have hA23' : Own h23 h5.size 9 1 (.slice pA (m + 1) cA) (m + 1) ((t ++ [(⟨#[111, 116, 104, 101, 114]⟩ : ByteArray)]).map Value.string) := by
        have e : ((t ++ [behind]).map Value.string).set m (.string ⟨#[111, 116, 104, 101, 114]⟩) = (t ++ [(⟨#[111, 116, 104, 101, 114]⟩ : ByteArray)]).map Value.string := by
          rw [List.map_append, List.map_append, List.set_append_right _ _ (by simp [htl])]
          simp [htl]
        rw [← e]; exact hA23
      have hW23 : Own h23 hp2.size 3 1 (.slice pW nW cW) nW (S.1.map vI) := hW22.kept' hg23 fun b hb hr => by have := bW b hb; have := bA b hr; omega
      refine ⟨m, rfl, Nat.zero_le _, by omega, _, cutP_zero, ?_⟩
      refine (slots_17 sd most hmax t htb (by omega) h23 (segA hA23')).mono ?_
      rintro e h24 ⟨hx24, hres3⟩
      obtain ⟨pR, nR, cR, rfl, hR⟩ := hres3.out
      rw [hS] at hR ⊢
      have eR : nR = S.1.length := by have := hR.len.2.1; simpa using this.symm
      refine ⟨_, _, _, _, rfl, (same_19 _ _ (by simp; omega) h24 (segN hR) (segN (hW23.ext hx24))).mono ?_⟩
      rintro e h25 ⟨rfl, rfl⟩
      refine ⟨_, rfl, true, ⟨fun _ => ⟨fun _ => ⟨fun _ => ⟨fun _ => ⟨fun _ => ⟨fun _ => ⟨fun _ => ⟨fun _ => ⟨rfl, by simp⟩, fun hf => (by simp at hf)⟩, fun hf => (by simp at hf)⟩, fun hf => (by cases hf)⟩, fun hf => (by simp at hf)⟩, fun hf => (by cases hf)⟩, fun hf => (by cases hf)⟩, fun hf => (by cases hf)⟩, fun hf => (by cases hf)⟩, rfl, ?_⟩
      have zz := hx1.size
      exact (((hx9.grown hgG fun b hb => by have := bO b hb; omega).grown hgT fun b hb => by have := bT b hb; omega).grown hg23 fun b hb => by have := bA b hb; omega).trans hx24

end Go.Vc
