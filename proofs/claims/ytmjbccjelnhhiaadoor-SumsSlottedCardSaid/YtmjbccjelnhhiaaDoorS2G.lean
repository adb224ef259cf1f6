/- SumsSlotted: the walk. -/
import Derived.Test.YtmjbccjelnhhiaaDoorS2Q
import Derived.Test.YtmjbccjelnhhiaaDoorS2F
import Derived.Test.YtmjbccjelnhhiaaDoorS2E
set_option maxRecDepth 10000
namespace Go.Vc
open Go Go.Proofs Go.MapKept

theorem rev_at {α : Type} {L : List α} {i : Nat} (hi : i < L.length) : L.reverse[i]'(by simpa using hi) = L[L.length - 1 - i]'(by omega) := by
  rw [List.getElem_reverse]

/-- turnoutlaw02.SumsSlotted -/
theorem law_5 (sd : W32) (most : Int) (hmax : most ≤ 9223372036854775807) (l : List ByteArray) (hl : ∀ b ∈ l, b.size ≤ maxLen) (h : Hp) (hh : Halves h) {p : Option Addr} {n c : Nat} (hs : Seg h p n (l.map Value.string)) :
    CallsH Tryd.prog 5 #[vW sd, .int .i64 most, .slice p n c] h (RetX (.bool true) h) := by
  have hln : l.length = n := by have := hs.1; simpa using this
  refine V5 _ _ _ _ _ h _ ((live_12 h hh).mono ?_)
  rintro e h1 ⟨rfl, hx1⟩
  refine ⟨_, rfl, fun l' hp => hp = h1 ∧ ∃ m : Nat, m ≤ n ∧ m ≤ 400 ∧ l' = [vI m], ⟨fun hc => ⟨rfl, 400, by simp at hc; omega, by omega, rfl⟩, fun hc => ⟨rfl, n, by omega, by simp at hc; omega, rfl⟩⟩, ?_⟩
  rintro m_ hp ⟨rfl, m, hmn, hm400, hl'⟩
  cases hl'
  have hseg1 := hs.ext hx1
  have hh1 := hh.ext hx1
  -- the texts that are looked at
  obtain ⟨L, hL⟩ : ∃ L, L = l.take m := ⟨_, rfl⟩
  have hLl : L.length = m := by rw [hL]; simp; omega
  have hLb : ∀ b ∈ L, b.size ≤ maxLen := fun b hb => hl b (List.mem_of_mem_take (hL ▸ hb))
  have hLat : ∀ i (hi : i < m), L[i]'(by omega) = l[i]'(by omega) := fun i hi => by subst hL; rw [List.getElem_take]
  have segL : ∀ {hq : Hp}, Ext hp hq → Seg hq p n (l.map Value.string) := fun hxq => hseg1.ext hxq
  refine ⟨fun l' hq => ∃ (i : Nat) (p1 p2 : Option Addr) (c1 c2 : Nat), i ≤ m ∧ l' = [.slice p1 i c1, .slice p2 i c2, vI i] ∧ Own hq hp.size 9 1 (.slice p1 i c1) i ((L.take i).map Value.string) ∧
      Own hq hp.size 9 1 (.slice p2 i c2) i ((L.reverse.take i).map Value.string) ∧ (∀ b, (Value.slice p1 i c1).ownBlock = some b → (Value.slice p2 i c2).ownBlock ≠ some b) ∧ Ext hp hq,
    fun l' _ => (m - numAt l' 2).toNat, ⟨0, none, none, 0, 0, Nat.zero_le _, rfl, Own.nil _ _ _ _, Own.nil _ _ _ _, by simp [Value.ownBlock], Ext.refl _⟩, ?_⟩
  rintro p1 n1 c1 p2 n2 c2 x hp2 ⟨i, _, _, _, _, him, hl', ho1, ho2, hdis, hx2⟩
  cases hl'
  refine ⟨fun hc => ?_, fun hc => ?_⟩
  · have hc : n1 < m := by simp at hc; omega
    have hil : n1 < l.length := by omega
    refine (segL hx2).text hil ?_
    refine semH_push row23 ho1 (vs := [.string l[n1]]) (m := 1) rfl rfl (by simp) (by simp) (by simp [Value.oneCell']) (by omega) (by simp only [maxLen]; omega) hx2.size fun p1' c1' h3 ho1' hg1 _ hb1 => ?_
    have hx3 := hx2.own ho1 (Nat.le_refl _) hg1
    have ho2' : Own h3 hp.size 9 1 (.slice p2 n1 c2) n1 ((L.reverse.take n1).map Value.string) := by
      refine ho2.kept hg1 ?_
      cases hq1 : (Value.slice p2 n1 c2).ownBlock with
      | none => exact .inl rfl
      | some b => exact .inr fun he => hdis b he.symm hq1
    have hdis' : ∀ b, (Value.slice p1' (n1 + 1) c1').ownBlock = some b → (Value.slice p2 n1 c2).ownBlock ≠ some b := by
      intro b hb hq
      rcases hb1 with he | ⟨b', he, hge⟩
      · exact hdis b (he ▸ hb) hq
      · rw [he] at hb
        cases hb
        have := (ho2.lt hq).2
        omega
    refine ⟨((m - 1 : Nat) : Int), by rw [wrapI64] <;> omega, ((m - 1 - n1 : Nat) : Int), by rw [wrapI64] <;> omega, ?_⟩
    have hjl : m - 1 - n1 < l.length := by omega
    refine (segL hx3).text hjl ?_
    refine semH_push row23 ho2' (vs := [.string l[m - 1 - n1]]) (m := 1) rfl rfl (by simp) (by simp) (by simp [Value.oneCell']) (by omega) (by simp only [maxLen]; omega) hx3.size fun p2' c2' h4 ho2'' hg2 _ hb2 => ?_
    have ho1'' : Own h4 hp.size 9 1 (.slice p1' (n1 + 1) c1') (n1 + 1) ((L.take n1).map Value.string ++ [Value.string l[n1]]) := by
      refine ho1'.kept hg2 ?_
      cases hq1 : (Value.slice p1' (n1 + 1) c1').ownBlock with
      | none => exact .inl rfl
      | some b => exact .inr fun he => hdis' b hq1 he.symm
    refine ⟨_, incI (by omega), ⟨n1 + 1, p1', p2', c1', c2', hc, rfl, ?_, ?_, ?_, hx3.own ho2' (Nat.le_refl _) hg2⟩, by simp only [numAt]; omega⟩
    · rw [take_one (show n1 < L.length by omega), List.map_append, List.map_cons, List.map_nil, hLat n1 hc]; exact ho1''
    · rw [take_one (show n1 < L.reverse.length by simp; omega), List.map_append, List.map_cons, List.map_nil, rev_at (by omega)]
      have e : L[L.length - 1 - n1]'(by omega) = l[m - 1 - n1] := by
        rw [← hLat (m - 1 - n1) (by omega)]
        congr 1; omega
      rw [e]; exact ho2''
    · intro b hb hq
      rcases hb2 with he | ⟨b', he, hge⟩
      · exact hdis' b hb (he ▸ hq)
      · rw [he] at hq
        cases hq
        have := (ho1'.lt hb).2
        omega
  · have hc : n1 = m := by simp at hc; omega
    subst hc
    have tL : L.take n1 = L := List.take_of_length_le (by omega)
    have tR : L.reverse.take n1 = L.reverse := List.take_of_length_le (by simp; omega)
    rw [tL] at ho1
    rw [tR] at ho2
    refine (slots_17 sd most hmax L hLb (by omega) hp2 ho1.seg).mono ?_
    rintro e h3 ⟨hx3, hres1⟩
    obtain ⟨pa, na, ca, ea, rfl, hcase1⟩ := hres1
    refine ⟨_, _, _, _, rfl, (slots_17 sd most hmax L.reverse (fun b hb => hLb b (List.mem_reverse.1 hb)) (by simp; omega) h3 (ho2.ext hx3).seg).mono ?_⟩
    rintro e h4 ⟨hx4, hres2⟩
    obtain ⟨pb, nb, cb, eb, rfl, hcase2⟩ := hres2
    have hxx : Ext h h4 := ((hx1.trans hx2).trans hx3).trans hx4
    have hmem : ∀ x, x ∈ L ↔ x ∈ L.reverse := fun x => List.mem_reverse.symm
    have both : (most < 1 ∧ ea = 1 ∧ eb = 1 ∧ na = 0 ∧ nb = 0) ∨ (1 ≤ most ∧ most < n1 ∧ ea = 120 ∧ eb = 120 ∧ na = 0 ∧ nb = 0) ∨
        (1 ≤ most ∧ ∃ (m : Nat) (kn kn' : Known) (oa ob : List Nat), most = (m : Int) ∧ 0 < m ∧ slotsF (fun s => (spread sd (bl s)).toNat) m L = some (kn, oa) ∧ slotsF (fun s => (spread sd (bl s)).toNat) m L.reverse = some (kn', ob) ∧ ea = 0 ∧ eb = 0 ∧
          Own h3 hp2.size 3 1 (.slice pa na ca) na (oa.map vI) ∧ Own h4 h3.size 3 1 (.slice pb nb cb) nb (ob.map vI)) := by
      rcases Int.lt_or_le most 1 with h0 | h0
      · left
        rcases hcase1 with ⟨_, e1, _, e2, _⟩ | ⟨h1, _⟩ | ⟨h1, _⟩
        · rcases hcase2 with ⟨_, f1, _, f2, _⟩ | ⟨h1, _⟩ | ⟨h1, _⟩
          · exact ⟨h0, e1, f1, e2, f2⟩
          · omega
          · omega
        · omega
        · omega
      · right
        obtain ⟨m, hm⟩ := Int.eq_ofNat_of_zero_le (show 0 ≤ most by omega)
        have hmt : most.toNat = m := by omega
        have hm0 : 0 < m := by omega
        rw [hmt] at hcase1 hcase2
        rcases hcase1 with ⟨h1, _⟩ | ⟨_, hn1, e1, _, e2, _⟩ | ⟨_, kn, oa, hs1, e1, hoa⟩
        · omega
        · left
          rcases hcase2 with ⟨h1, _⟩ | ⟨_, hn2, f1, _, f2, _⟩ | ⟨_, kn', ob, hs2, f1, hob⟩
          · omega
          · refine ⟨h0, ?_, e1, f1, e2, f2⟩
            obtain ⟨D, hD, hlen, hsub⟩ := slotsF_full _ m hm0 _ hn1
            have := length_le_of_sub D L hD hsub
            omega
          · exact (few_of_some hm0 (fun x => (hmem x).symm) hs2 hn1).elim
        · right
          rcases hcase2 with ⟨h1, _⟩ | ⟨_, hn2, f1, _, f2, _⟩ | ⟨_, kn', ob, hs2, f1, hob⟩
          · omega
          · exact (few_of_some hm0 hmem hs1 hn2).elim
          · exact ⟨h0, m, kn, kn', oa, ob, hm, hm0, hs1, hs2, e1, f1, hoa, hob⟩
    have heq : ea = eb := by
      rcases both with ⟨_, rfl, rfl, _⟩ | ⟨_, _, rfl, rfl, _⟩ | ⟨_, _, _, _, _, _, _, _, _, _, rfl, rfl, _⟩ <;> rfl
    refine ⟨_, _, _, _, rfl, fun l' hq => l' = [] ∧ hq = h4, ⟨false, ⟨fun hf => (by simp at hf), fun _ => ⟨rfl, by simp [heq]⟩⟩, fun hB => (by cases hB), fun _ => ⟨rfl, rfl⟩⟩, ?_⟩
    rintro h5 ⟨_, rfl⟩
    refine ⟨fun hne => ?_, fun hok => ?_⟩
    · -- an error
      refine ⟨true, ⟨0, ?_, fun _ => ?_, fun hf => (by simp at hf)⟩, rfl, hxx⟩
      · rcases both with ⟨_, _, _, e1, e2⟩ | ⟨_, _, _, _, e1, e2⟩ | ⟨_, _, _, _, _, _, _, _, _, _, e1, _⟩
        · subst e1 e2; rfl
        · subst e1 e2; rfl
        · subst e1; simp at hne
      · rcases both with ⟨h0, rfl, _, _⟩ | ⟨h0, h1, rfl, _, _⟩ | ⟨_, _, _, _, _, _, _, _, _, _, e1, _⟩
        · exact ⟨fun _ => ⟨fun _ => ⟨rfl, rfl⟩, fun hf => (by simp at hf; omega)⟩, fun hf => (by simp at hf)⟩
        · refine ⟨fun hf => (by simp at hf), fun _ => ⟨fun _ => ⟨fun _ => ⟨rfl, ?_⟩, fun hf => (by simp at hf; omega)⟩, fun hf => (by simp at hf)⟩⟩
          simp; omega
        · subst e1; simp at hne
    · obtain ⟨h0, m, kn, kn', oa, ob, rfl, hm0, hs1, hs2, rfl, _, hoa, hob⟩ : (1 ≤ most ∧ ∃ (m : Nat) (kn kn' : Known) (oa ob : List Nat), most = (m : Int) ∧ 0 < m ∧ slotsF (fun s => (spread sd (bl s)).toNat) m L = some (kn, oa) ∧ slotsF (fun s => (spread sd (bl s)).toNat) m L.reverse = some (kn', ob) ∧ ea = 0 ∧ eb = 0 ∧
          Own h3 hp2.size 3 1 (.slice pa na ca) na (oa.map vI) ∧ Own h5 h3.size 3 1 (.slice pb nb cb) nb (ob.map vI)) := by
        rcases both with ⟨_, rfl, _⟩ | ⟨_, _, rfl, _⟩ | hh
        · simp at hok
        · simp at hok
        · exact hh
      have ok1 := slots_ok _ m hm0 _ _ _ hs1
      have ok2 := slots_ok _ m hm0 _ _ _ hs2
      have hla : oa.length = n1 := by rw [ok1.len, hLl]
      have hlb : ob.length = n1 := by rw [ok2.len, List.length_reverse, hLl]
      have hna : na = n1 := by have := hoa.len.2.1; simp at this; omega
      have hnb : nb = n1 := by have := hob.len.2.1; simp at this; omega
      subst hna
      subst hnb
      refine ⟨fun l' hq => l' = [] ∧ hq = h5, ⟨false, ⟨fun hf => (by simp at hf), fun _ => ⟨fun hf => (by simp at hf), fun _ => ⟨rfl, ?_⟩⟩⟩, fun hB => (by cases hB), fun _ => ⟨rfl, rfl⟩⟩, ?_⟩
      · symm; simp; omega
      rintro h6 ⟨_, rfl⟩
      have sega : Seg h6 pa nb ((oa.map (fun a : Nat => (a : Int))).map (Value.int .i64)) := by rw [List.map_map]; exact (hoa.ext hx4).seg
      have segb : Seg h6 pb nb ((ob.map (fun a : Nat => (a : Int))).map (Value.int .i64)) := by rw [List.map_map]; exact hob.seg
      have segl := segL ((hx2.trans hx3).trans hx4)
      refine ⟨fun l' hq => hq = h6 ∧ ∃ i : Nat, i ≤ nb ∧ l' = [vI i], fun l' _ => (nb - numAt l' 0).toNat, ⟨rfl, 0, Nat.zero_le _, rfl⟩, ?_⟩
      rintro x h7 ⟨rfl, i, hi, hl'⟩
      cases hl'
      refine ⟨fun hc => ?_, fun _ => ⟨rfl, hxx⟩⟩
      have hc : i < nb := by simp at hc; omega
      refine ⟨fun l' hq => hq = h7 ∧ ∃ k : Nat, k ≤ nb ∧ l' = [.bool (decide (∃ (j : Nat) (hj : j < ob.length), j < k ∧ oa[i]'(by omega) = ob[j])), vI k], fun l' _ => (nb - numAt l' 1).toNat, ⟨rfl, 0, Nat.zero_le _, by simp⟩, ?_⟩
      rintro inv k_ h8 ⟨rfl, k, hk, hl'⟩
      cases hl'
      refine ⟨fun hkc => ?_, fun hkc => ?_⟩
      · have hkc : k < nb := by simp at hkc; omega
        refine sega.num (i := i) (by simp; omega) (sega.num (i := k) (by simp; omega) (segl.text (i := i) (by omega) (segl.text (i := k) (by omega) ⟨_, eqv_bool u4 _ _, fun hf => ?_, fun _ => ?_⟩)))
        · exfalso
          have := slots_alike ok1 (i := i) (k := k) (by omega) (by omega)
          rw [hLat i hc, hLat k hkc] at this
          simp only [List.getElem_map, Int.natCast_inj, this] at hf
          simp at hf
        · refine ⟨decide (∃ (j : Nat) (hj : j < ob.length), j < k + 1 ∧ oa[i]'(by omega) = ob[j]), ⟨fun hin => ⟨rfl, ?_⟩, fun hin => ?_⟩, _, incI (by omega), ⟨rfl, k + 1, hkc, rfl⟩, by simp only [numAt]; omega⟩
          · obtain ⟨j, hj, hjk, he⟩ := of_decide_eq_true hin
            exact decide_eq_true ⟨j, hj, by omega, he⟩
          · have hno := of_decide_eq_false hin
            refine sega.num (i := i) (by simp; omega) (segb.num (i := k) (by simp; omega) ⟨rfl, ?_⟩)
            simp only [List.getElem_map, Int.natCast_inj]
            apply decide_eq_decide.2
            constructor
            · rintro ⟨j, hj, hjk, he⟩
              rcases Nat.lt_or_ge j k with h3 | h3
              · exact (hno ⟨j, hj, h3, he⟩).elim
              · have : j = k := by omega
                subst this; exact he
            · intro he
              exact ⟨k, by omega, by omega, he⟩
      · have hkc : k = nb := by simp at hkc; omega
        subst hkc
        have hin : ∃ (j : Nat) (hj : j < ob.length), j < k ∧ oa[i]'(by omega) = ob[j] := by
          have hm1 := slots_same hm0 hmem hs1 hs2 (oa[i]'(by omega)) (List.getElem_mem _)
          obtain ⟨j, hj, he⟩ := List.getElem_of_mem hm1
          exact ⟨j, hj, by omega, he.symm⟩
        have hlt : oa[i]'(by omega) < m := ok1.slots _ (ok1.there i (by omega) (by omega))
        refine ⟨false, ⟨fun hf => ?_, fun _ => ?_⟩, fun hB => (by cases hB), fun _ => ⟨_, incI (by omega), ⟨rfl, i + 1, hc, rfl⟩, by simp only [numAt]; omega⟩⟩
        · rw [decide_eq_true hin] at hf; cases hf
        · refine sega.num (i := i) (by simp; omega) ⟨fun hf => ?_, fun _ => sega.num (i := i) (by simp; omega) ⟨rfl, ?_⟩⟩
          · simp only [List.getElem_map] at hf
            have := of_decide_eq_true hf
            omega
          · simp only [List.getElem_map]
            symm
            rw [decide_eq_false_iff_not]
            omega

end Go.Vc
