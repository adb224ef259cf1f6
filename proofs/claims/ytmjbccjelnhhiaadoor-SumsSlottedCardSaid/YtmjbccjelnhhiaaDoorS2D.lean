/- Contracts: the document's Slots; two lists of numbers. -/
import Derived.Test.YtmjbccjelnhhiaaDoorS2C
set_option maxRecDepth 10000
namespace Go.Vc
open Go Go.Proofs Go.MapKept

/-- Rising numbers. -/
def Rising (l : List Nat) : Prop := l.Pairwise (· < ·)

theorem Rising.lt {l : List Nat} (h : Rising l) {i j : Nat} (hj : j < l.length) (hij : i < j) : l[i]'(by omega) < l[j] :=
  (List.pairwise_iff_getElem.1 h) i j (by omega) hj hij

/-- How many of rising numbers are smaller, and whether a number is one of them. -/
def Stands (tk : List Nat) (n lo : Nat) : Prop := lo ≤ tk.length ∧ (∀ i (hi : i < tk.length), i < lo → tk[i] < n) ∧ (∀ i (hi : i < tk.length), lo ≤ i → n ≤ tk[i])

theorem Stands.is {tk : List Nat} {n lo : Nat} (hr : Rising tk) (s : Stands tk n lo) : n ∈ tk ↔ ∃ h : lo < tk.length, tk[lo] = n := by
  constructor
  · intro hn
    obtain ⟨j, hj, he⟩ := List.getElem_of_mem hn
    have h1 : ¬ j < lo := fun hlt => by have := s.2.1 j hj hlt; omega
    rcases Nat.lt_or_ge lo j with h2 | h2
    · have h3 := s.2.2 lo (by omega) (Nat.le_refl _)
      have h4 := hr.lt hj h2
      omega
    · have : j = lo := by omega
      subst this
      exact ⟨hj, he⟩
  · rintro ⟨h, rfl⟩
    exact List.getElem_mem h

/-- turnoutref02.stands -/
theorem stands_32 (tk : List Nat) (hr : Rising tk) (hlen : tk.length ≤ 1099511627776) (n : Nat) (h : Hp) {p : Option Addr} {k c : Nat} (hs : Seg h p k (tk.map vI)) :
    CallsH Tryd.prog 32 #[.slice p k c, vI n] h fun e h' => h' = h ∧ ∃ lo, Stands tk n lo ∧ e = .returned (.tuple #[vI lo, .bool (decide (n ∈ tk))]) := by
  have hln : tk.length = k := by have := hs.1; simpa using this
  have hs' : Seg h p k ((tk.map (fun a : Nat => (a : Int))).map (Value.int .i64)) := by rw [List.map_map]; exact hs
  refine V32 _ _ _ _ h _ ⟨fun l' hp => hp = h ∧ ∃ lo hi : Nat, l' = [vI lo, vI hi] ∧ lo ≤ hi ∧ hi ≤ tk.length ∧ (∀ i (hi : i < tk.length), i < lo → tk[i] < n) ∧ (∀ i (hi' : i < tk.length), hi ≤ i → n ≤ tk[i]),
    fun l' _ => (numAt l' 1 - numAt l' 0).toNat, ⟨rfl, 0, tk.length, by rw [hln]; rfl, Nat.zero_le _, Nat.le_refl _, fun i _ h0 => by omega, fun i h1 h2 => by omega⟩, ?_⟩
  rintro x y hp ⟨rfl, lo, hi, hl', hle, hhi, hlow, hhigh⟩
  cases hl'
  refine ⟨fun hc => ?_, fun hc => ?_⟩
  · have hc : lo < hi := by simp at hc; omega
    have hm : (lo + hi) / 2 < tk.length := by omega
    refine ⟨((lo + hi : Nat) : Int), by rw [wrapI64] <;> omega, by decide, (((lo + hi) / 2 : Nat) : Int), ?_, ?_⟩
    · have : Int.tdiv ((lo + hi : Nat) : Int) 2 = (((lo + hi) / 2 : Nat) : Int) := (Int.ofNat_tdiv (lo + hi) 2).symm
      rw [this, wrapI64] <;> omega
    · refine hs'.num (by simpa using hm) ⟨fun hlt => ?_, fun hge => ?_⟩
      · have hlt : tk[(lo + hi) / 2] < n := by simp at hlt; omega
        refine ⟨_, incI (by omega), ⟨rfl, (lo + hi) / 2 + 1, hi, rfl, by omega, hhi, fun i hi' hi2 => ?_, hhigh⟩, by simp only [numAt]; omega⟩
        rcases Nat.lt_or_ge i ((lo + hi) / 2) with h3 | h3
        · have := hr.lt hm h3; omega
        · have : i = (lo + hi) / 2 := by omega
          subst this; exact hlt
      · have hge : n ≤ tk[(lo + hi) / 2] := by simp at hge; omega
        refine ⟨⟨rfl, lo, (lo + hi) / 2, rfl, by omega, by omega, hlow, fun i hi' hi2 => ?_⟩, by simp only [numAt]; omega⟩
        rcases Nat.lt_or_ge ((lo + hi) / 2) i with h3 | h3
        · have := hr.lt hi' h3; omega
        · have : i = (lo + hi) / 2 := by omega
          subst this; exact hge
  · have hc : lo = hi := by simp at hc; omega
    subst hc
    have hst : Stands tk n lo := ⟨hhi, hlow, hhigh⟩
    refine ⟨fun hin => ?_, fun hout => ?_⟩
    · have hin : lo < tk.length := by simp at hin; omega
      have e : decide (n ∈ tk) = decide (tk[lo] = n) := by
        congr 1
        apply propext
        rw [hst.is hr]
        exact ⟨fun ⟨_, h⟩ => h, fun h => ⟨hin, h⟩⟩
      refine hs'.num (i := lo) (by simpa using hin) ⟨rfl, lo, hst, ?_⟩
      rw [e]
      simp only [List.getElem_map, Int.natCast_inj]
    · have hout : tk.length ≤ lo := by simp at hout; omega
      have e : decide (n ∈ tk) = false := by
        rw [decide_eq_false_iff_not, hst.is hr]
        rintro ⟨h, _⟩; omega
      exact ⟨rfl, lo, hst, by rw [e]⟩

/-- A number that is none of them, laid in its place. -/
theorem rising_insert {tk : List Nat} (hr : Rising tk) {n lo : Nat} (s : Stands tk n lo) (hn : ¬ n ∈ tk) : Rising (tk.take lo ++ [n] ++ tk.drop lo) := by
  unfold Rising
  rw [List.pairwise_append, List.pairwise_append]
  refine ⟨⟨hr.sublist (List.take_sublist _ _), by simp, ?_⟩, hr.sublist (List.drop_sublist _ _), ?_⟩
  · intro a ha b hb
    simp at hb; subst hb
    obtain ⟨i, hi, rfl⟩ := List.getElem_of_mem ha
    rw [List.getElem_take]
    have hi2 : i < lo ∧ i < tk.length := by simp at hi; omega
    exact s.2.1 i hi2.2 hi2.1
  · intro a ha b hb
    obtain ⟨j, hj, rfl⟩ := List.getElem_of_mem hb
    rw [List.getElem_drop]
    have hj2 : lo + j < tk.length := by simp at hj; omega
    have h1 := s.2.2 (lo + j) hj2 (by omega)
    have h2 : tk[lo + j] ≠ n := fun h => hn (h ▸ List.getElem_mem hj2)
    rcases List.mem_append.1 ha with ha | ha
    · obtain ⟨i, hi, rfl⟩ := List.getElem_of_mem ha
      rw [List.getElem_take]
      have hi2 : i < lo ∧ i < tk.length := by simp at hi; omega
      have := s.2.1 i hi2.2 hi2.1
      omega
    · simp at ha; subst ha; omega

/-- The state of the document's loop over texts. -/
def RefInv (f : ByteArray → Nat) (m : Nat) (l : List ByteArray) (base : Nat) (h : Hp) (i : Nat) (p : Option Addr) (n c : Nat) (q : Option Addr) (k d : Nat) (hp : Hp) : Prop :=
  ∃ (kn : Known) (out tk : List Nat), slotsF f m (l.take i) = some (kn, out) ∧ Own hp base 3 1 (.slice p n c) n (out.map vI) ∧ Own hp base 3 1 (.slice q k d) k (tk.map vI) ∧ Rising tk ∧
    (∀ a, a ∈ tk ↔ a ∈ kn.map (·.2)) ∧ tk.length = kn.length ∧ (∀ b, (Value.slice p n c).ownBlock = some b → (Value.slice q k d).ownBlock ≠ some b) ∧ Ext h hp ∧ base ≤ hp.size

theorem oneI (l : List Nat) : ∀ v ∈ l.map vI, v.oneCell' = true := by
  intro v hv
  obtain ⟨_, _, rfl⟩ := List.mem_map.1 hv
  rfl

theorem cutP_pos {p : Option Addr} {c l : Nat} (h : l < c) : cutP p c l 1 = p.map (·.add l) := by
  unfold cutP
  rw [if_neg (by omega), Nat.mul_one]

/-- turnoutref02.Slots -/
theorem slots_15 (sd : W32) (most : Int) (hmax : most ≤ 9223372036854775807) (l : List ByteArray) (hl : ∀ b ∈ l, b.size ≤ maxLen) (hn : l.length ≤ 1099511627776) (h : Hp) {p : Option Addr} {n c : Nat} (hs : Seg h p n (l.map Value.string)) :
    CallsH Tryd.prog 15 #[vW sd, .int .i64 most, .slice p n c] h fun e h' => Ext h h' ∧ SlotsRes h.size (fun s => (spread sd (bl s)).toNat) most l e h' := by
  refine V15 _ _ _ _ _ h _ ⟨fun hc => ⟨Ext.refl h, none, 0, 0, 1, rfl, .inl ⟨by simpa using hc, rfl, rfl, rfl, rfl⟩⟩, fun hc => ?_⟩
  have h1 : 1 ≤ most := by simp at hc; omega
  clear hc
  have hln : l.length = n := by have := hs.1; simpa using this
  obtain ⟨m, hm⟩ := Int.eq_ofNat_of_zero_le (show 0 ≤ most by omega)
  have hmt : most.toNat = m := by omega
  have hm0 : 0 < m := by omega
  refine ⟨fun l' hp => ∃ (i : Nat) (p' : Option Addr) (n' c' : Nat) (q' : Option Addr) (k' d' : Nat), i ≤ l.length ∧ l' = [.slice p' n' c', .slice q' k' d', vI i] ∧ RefInv (fun s => (spread sd (bl s)).toNat) m l h.size h i p' n' c' q' k' d' hp,
    fun l' _ => (l.length - numAt l' 2).toNat, ⟨0, none, 0, 0, none, 0, 0, Nat.zero_le _, rfl, [], [], [], rfl, Own.nil _ _ _ _, Own.nil _ _ _ _, List.Pairwise.nil, by simp, rfl, by simp [Value.ownBlock], Ext.refl h, Nat.le_refl _⟩, ?_⟩
  rintro p1 n1 c1 q1 k1 d1 x hp ⟨i, p', n', c', q', k', d', hi, hl', kn, out, tk, hst, hown, htak, hris, hmem, htl, hdis, hx, hsz⟩
  cases hl'
  have ok := slots_ok _ m hm0 _ _ _ hst
  have hol : n1 = i := by have := hown.len.2.1; have h2 := ok.len; simp at this h2; omega
  have hkl : k1 = tk.length := by have := htak.len.2.1; simp at this; omega
  have hknl : kn.length ≤ i := by have := ok.le; simp at this; omega
  refine ⟨fun hc => ?_, fun hc => ?_⟩
  · have hc : i < l.length := by simp at hc; omega
    have htake := take_one hc
    -- what is appended to the answers
    have push : ∀ (hpa : Hp) (a : Nat) (kn' : Known) (tk' : List Nat) (q2 : Option Addr) (k2 d2 : Nat), slotsF (fun s => (spread sd (bl s)).toNat) m (l.take (i + 1)) = some (kn', out ++ [a]) → Own hpa h.size 3 1 (.slice p1 n1 c1) n1 (out.map vI) →
        Own hpa h.size 3 1 (.slice q2 k2 d2) k2 (tk'.map vI) → Rising tk' → (∀ a, a ∈ tk' ↔ a ∈ kn'.map (·.2)) → tk'.length = kn'.length → (∀ b, (Value.slice p1 n1 c1).ownBlock = some b → (Value.slice q2 k2 d2).ownBlock ≠ some b) → Ext h hpa → h.size ≤ hpa.size →
        ∀ {K : Option Addr → Nat → Nat → Hp → Prop}, (∀ p2 n2 c2 hpb, RefInv (fun s => (spread sd (bl s)).toNat) m l h.size h (i + 1) p2 n2 c2 q2 k2 d2 hpb → K p2 n2 c2 hpb) →
        SemH Tryd.prog (Instr.buildSlice 26 1 #[(0, vI a)]) hpa fun v_ h1 => ∃ (p1_ : Option Addr) (n1_ c1_ : Nat), v_ = (Value.slice p1_ n1_ c1_) ∧
          SemH Tryd.prog (Builtin.append_ #[26, 26] 26 #[.slice p1 n1 c1, .slice p1_ n1_ c1_]) h1 fun v_1 h2 => ∃ (p2 : Option Addr) (n2 c2 : Nat), v_1 = (Value.slice p2 n2 c2) ∧ K p2 n2 c2 h2 := by
      intro hpa a kn' tk' q2 k2 d2 hst' ho ht hr' hm' hl' hd' hx' hs' K hK
      refine semH_push row26 ho (vs := [vI a]) (m := 1) rfl rfl (by simp) (by simp) (by simp [Value.oneCell']) (by omega) (by simp only [maxLen]; omega) hs' fun p2 c2 h2 ho2 hg2 _ hb2 => hK _ _ _ _ ?_
      refine ⟨kn', out ++ [a], tk', hst', by simpa using ho2, ht.kept hg2 ?_, hr', hm', hl', ?_, hx'.own ho (Nat.le_refl _) hg2, Nat.le_trans hs' hg2.size⟩
      · cases hb : (Value.slice p1 n1 c1).ownBlock with
        | none => cases hq : (Value.slice q2 k2 d2).ownBlock with
          | none => exact .inl rfl
          | some g => exact .inr (by simp)
        | some b => exact .inr (hd' b hb)
      · intro b hb hq
        rcases hb2 with hb2 | ⟨b', hb', hge⟩
        · exact hd' b (hb2 ▸ hb) hq
        · have := (ht.lt hq).2
          rw [hb'] at hb
          cases hb
          omega
    refine ⟨fun l' hp' => hp' = hp ∧ l' = [match kn.find l[i] with | some a => vI a | none => .int .i64 (-1)], ?_, ?_⟩
    · -- the search among those that have theirs
      refine ⟨fun l' hp' => hp' = hp ∧ ∃ k : Nat, k ≤ i ∧ ((l' = [.int .i64 (-1), vI k] ∧ ∀ j (hj : j < k) (hj' : j < l.length), l[j] ≠ l[i]) ∨ ∃ a, l' = [vI a, vI k] ∧ kn.find l[i] = some a),
        fun l' _ => (i - numAt l' 1).toNat, ⟨rfl, 0, Nat.zero_le _, .inl ⟨rfl, fun j hj => by omega⟩⟩, ?_⟩
      rintro at_ k hp1 ⟨rfl, k, hk, hcase⟩
      rcases hcase with ⟨hl', hno⟩ | ⟨a, hl', hfd⟩
      · cases hl'
        refine ⟨fun l' hp' => hp' = hp1 ∧ l' = [] ∧ k < i, ⟨decide (k < i), ⟨fun hki => ⟨rfl, ?_⟩, fun hki => ⟨rfl, ?_⟩⟩, fun hB => ⟨rfl, rfl, by simpa using hB⟩, fun hB => ⟨rfl, ?_⟩⟩, ?_⟩
        · have : k < i := by simp at hki; omega
          simp [this]
        · have : ¬ k < i := by simp at hki; omega
          simp [this]
        · have hki : k = i := by simp at hB; omega
          subst hki
          have : kn.find l[k] = none := by
            cases hf : kn.find l[k] with
            | none => rfl
            | some a =>
              exfalso
              have h3 := ok.keys _ (find_some hf)
              obtain ⟨j, hj, he⟩ := List.getElem_of_mem h3
              rw [List.getElem_take] at he
              have hj2 : j < k := by simp at hj; omega
              exact hno j hj2 (by omega) he
          rw [this]
        · rintro hp2 ⟨rfl, _, hki⟩
          refine (hs.ext hx).text (i := k) (by omega) ((hs.ext hx).text hc ⟨fun heq => ?_, fun hne => ?_⟩)
          · have heq : l[k] = l[i] := by simpa using heq
            have hkn : (l[k], out[k]'(by rw [ok.len]; simp; omega)) ∈ kn := by
              have := ok.there k (by simp; omega) (by rw [ok.len]; simp; omega)
              rw [List.getElem_take] at this
              exact this
            have hfd := find_of_mem ok.nodupK hkn
            rw [heq] at hfd
            refine (show Seg hp2 p1 n1 ((out.map (fun a : Nat => (a : Int))).map (Value.int .i64)) by rw [List.map_map]; exact hown.seg).num (i := k) (by rw [List.length_map, ok.len]; simp; omega) ?_
            refine ⟨_, incI (by omega), ⟨rfl, k + 1, hki, .inr ⟨_, ?_, hfd⟩⟩, by simp only [numAt]; omega⟩
            rw [List.getElem_map]
          · have hne : l[k] ≠ l[i] := by simpa using hne
            refine ⟨_, incI (by omega), ⟨rfl, k + 1, hki, .inl ⟨rfl, fun j hj hj' => ?_⟩⟩, by simp only [numAt]; omega⟩
            rcases Nat.lt_or_ge j k with h3 | h3
            · exact hno j h3 hj'
            · have : j = k := by omega
              subst this; exact hne
      · cases hl'
        refine ⟨fun _ _ => False, ⟨false, ⟨fun _ => ⟨rfl, (by simp)⟩, fun _ => ⟨rfl, rfl⟩⟩, ⟨fun hB => (by cases hB), fun _ => ⟨rfl, by rw [hfd]⟩⟩⟩, fun _ hf => hf.elim⟩
    · rintro at_ hp3 ⟨rfl, hl'⟩
      cases hfd : kn.find l[i] with
      | some a =>
        rw [hfd] at hl'
        cases hl'
        refine ⟨fun _ => ?_, fun hneg => (by simp at hneg)⟩
        refine push hp3 a kn tk q1 k1 d1 ?_ hown htak hris hmem htl hdis hx hsz fun p2 n2 c2 h2 hinv => ⟨_, incI (by omega), ⟨i + 1, _, _, _, _, _, _, hc, rfl, hinv⟩, by simp only [numAt]; omega⟩
        rw [htake, slotsF_snoc, hst]
        simp only [slotStep, hfd]
      | none =>
        rw [hfd] at hl'
        cases hl'
        refine ⟨fun hpos => by simp at hpos, fun _ => ⟨fun hfull => ?_, fun hfree => ?_⟩⟩
        · have hfull : m ≤ kn.length := by simp at hfull; omega
          refine ⟨hx, none, 0, 0, 120, rfl, .inr (.inl ⟨h1, ?_, rfl, rfl, rfl, rfl⟩)⟩
          rw [hmt]
          refine slots_take_none (i := i + 1) ?_
          rw [htake, slotsF_snoc, hst]
          simp only [slotStep, hfd, if_pos hfull]
        · have hfree : kn.length < m := by simp at hfree; omega
          refine (hs.ext hx).text hc ((spread_14 sd l[i] (hl _ (List.getElem_mem hc)) hp3).mono ?_)
          rintro e hp5 ⟨rfl, rfl⟩
          generalize hF : (spread sd (bl l[i])).toNat = F
          have hFlt : F < 4294967296 := by rw [← hF]; exact (spread sd (bl l[i])).isLt
          have hmlt : F % m < m := Nat.mod_lt _ hm0
          refine ⟨_, rfl, _, rfl, ?_⟩
          rw [hF]
          have e1 : IntKind.i64.wrap (F : Int) = F := wrapI64 (by omega) (by omega)
          rw [e1]
          refine ⟨by omega, ((F % m : Nat) : Int), by rw [hm, ← Int.ofNat_tmod], ?_⟩
          refine (stands_32 tk hris (by omega) (F % m) hp5 htak.seg).mono ?_
          rintro e hp7 ⟨rfl, lo, hlo, rfl⟩
          obtain ⟨k0, hk0, hpl, hnin, hin⟩ := place_spec (T := kn.map (·.2)) hmlt (by simpa using hfree)
          have hpl : place (kn.map (·.2)) m (F % m) = (F % m + k0) % m := hpl
          refine ⟨_, _, rfl, fun l' hp => hp = hp7 ∧ ∃ j lo, j ≤ k0 ∧ Stands tk ((F % m + j) % m) lo ∧ l' = [vI ((F % m + j) % m), vI lo, .bool (decide ((F % m + j) % m ∈ tk))],
            fun l' _ => gapM (F % m) m k0 (numAt l' 0), ⟨rfl, 0, lo, Nat.zero_le _, by rw [Nat.add_zero, Nat.mod_eq_of_lt hmlt]; exact hlo, by rw [Nat.add_zero, Nat.mod_eq_of_lt hmlt]⟩, ?_⟩
          rintro at_ pp isv hp8 ⟨rfl, j, lo, hj, hlo, hl'⟩
          cases hl'
          have hb : (F % m + j) % m < m := Nat.mod_lt _ hm0
          refine ⟨fun his => ?_, fun hno => ?_⟩
          · have his : (F % m + j) % m ∈ tk := by simpa using his
            have hjk : j ≠ k0 := by
              rintro rfl
              exact hnin ((hmem _).1 his)
            refine ⟨_, incI (by omega), by omega, _, next_mod hm, ?_⟩
            refine (stands_32 tk hris (by omega) _ hp8 htak.seg).mono ?_
            rintro e hp9 ⟨rfl, lo2, hlo2, rfl⟩
            refine ⟨_, _, rfl, ⟨rfl, j + 1, lo2, by omega, ?_, ?_⟩, gapM_lt hmlt (by omega) hk0⟩
            · rw [step_mod' (F % m + j)] at hlo2; exact hlo2
            · rw [step_mod' (F % m + j), Nat.add_assoc]
          · have hno : ¬ (F % m + j) % m ∈ tk := by simpa using hno
            have hjk : j = k0 := by
              rcases Nat.lt_or_ge j k0 with h3 | h3
              · exact (hno ((hmem _).2 (hin j h3))).elim
              · omega
            subst hjk
            generalize hA : (F % m + j) % m = A at *
            have hlok : lo ≤ k1 := by rw [hkl]; exact hlo.1
            have hkd := htak.len.2.2
            have seg1 : Seg hp8 q1 lo ((tk.take lo).map vI) := by
              have := htak.seg.drop (l := 0) (m := lo) (Nat.zero_le _) hlok (p' := q1) (fun _ => by cases q1 <;> simp [Addr.add])
              simpa [List.map_take] using this
            refine ⟨lo, rfl, Nat.zero_le _, by omega, _, cutP_zero, ?_⟩
            rw [Nat.sub_zero]
            refine semH_appendSeg row26 (Own.nil hp8 hp8.size 3 1) seg1 (oneI _) (by omega) (by simp only [maxLen]; omega) (Nat.le_refl _) fun p10 c10 hp10 ho10 hg10 _ hb10 => ?_
            have hx10 : Ext hp8 hp10 := ⟨hg10.size, fun b hb => hg10.block b hb (by simp [Value.ownBlock])⟩
            refine semH_push row26 ho10 (vs := [vI A]) (m := 1) rfl rfl (by simp) (by simp) (by simp [Value.oneCell']) (by omega) (by simp only [maxLen]; omega) hx10.size fun p12 c12 hp12 ho12 hg12 _ _ => ?_
            have hx12 : Ext hp8 hp12 := hx10.own ho10 (Nat.le_refl _) hg12
            have seg2 : Seg hp12 (cutP q1 d1 lo 1) (k1 - lo) ((tk.drop lo).map vI) := by
              have := (htak.seg.ext hx12).drop (l := lo) (m := k1) hlok (Nat.le_refl _) (p' := cutP q1 d1 lo 1) (fun hlt => cutP_pos (by omega))
              have e : ((List.map vI tk).take k1).drop lo = (tk.drop lo).map vI := by
                rw [List.take_of_length_le (by simp; omega), List.map_drop]
              rwa [e] at this
            refine ⟨lo, rfl, hlok, by omega, _, rfl, ?_⟩
            refine semH_appendSeg row26 ho12 seg2 (oneI _) (by omega) (by simp only [maxLen]; omega) hx12.size fun p13 c13 hp13 ho13 hg13 _ _ => ?_
            have hx13 : Ext hp8 hp13 := hx12.own ho12 (Nat.le_refl _) hg13
            refine push hp13 A (kn ++ [(l[i], A)]) (tk.take lo ++ [A] ++ tk.drop lo) _ _ _ ?_ (hown.ext hx13) ?_ (rising_insert hris hlo hno) ?_ ?_ ?_ (hx.trans hx13) (Nat.le_trans hsz hx13.size) fun p2 n2 c2 h2 hinv => ⟨_, incI (by omega), ⟨i + 1, _, _, _, _, _, _, hc, rfl, hinv⟩, by simp only [numAt]; omega⟩
            · rw [htake, slotsF_snoc, hst]
              simp only [slotStep, hfd, if_neg (Nat.not_le.2 hfree), hF, hpl]
            · have := ho13.mono (base' := h.size) hsz
              simpa [List.map_append] using this
            · intro a
              have e : a ∈ (kn ++ [(l[i], A)]).map (·.2) ↔ a ∈ tk ∨ a = A := by
                rw [List.map_append, List.mem_append, hmem]; simp
              have : a ∈ tk ↔ a ∈ tk.take lo ∨ a ∈ tk.drop lo := by
                rw [← List.mem_append, List.take_append_drop]
              rw [e, List.mem_append, List.mem_append, this, List.mem_singleton]
              constructor
              · rintro ((h | rfl) | h)
                · exact .inl (.inl h)
                · exact .inr rfl
                · exact .inl (.inr h)
              · rintro ((h | h) | rfl)
                · exact .inl (.inl h)
                · exact .inr h
                · exact .inl (.inr rfl)
            · have := hlo.1
              simp; omega
            · intro b hb hq
              have h3 := (hown.lt hb).2
              have h4 := (ho13.lt hq).1
              omega
  · have hc : i = l.length := by simp at hc; omega
    subst hc
    rw [List.take_length] at hst
    refine ⟨hx, p1, n1, c1, 0, rfl, .inr (.inr ⟨h1, kn, out, by rw [hmt]; exact hst, rfl, hown⟩)⟩

/-- turnoutlaw02.sameInts -/
theorem same_19 (l m : List Int) (hlen : l.length ≤ 1099511627776) (h : Hp) {p q : Option Addr} {n k c d : Nat} (hs : Seg h p n (l.map (Value.int .i64))) (ht : Seg h q k (m.map (Value.int .i64))) :
    CallsH Tryd.prog 19 #[.slice p n c, .slice q k d] h (Ret (.bool (decide (l = m))) h) := by
  have hln : l.length = n := by have := hs.1; simpa using this
  have hmk : m.length = k := by have := ht.1; simpa using this
  refine V19 _ _ _ _ _ _ h _ ⟨fun hc => ?_, fun hc => ?_⟩
  · have hne : l ≠ m := by rintro rfl; simp at hc; omega
    exact ⟨by rw [decide_eq_false hne], rfl⟩
  · have hlm : l.length = m.length := by simp at hc; omega
    refine ⟨fun l' hp => hp = h ∧ ∃ i : Nat, i ≤ l.length ∧ l' = [vI i] ∧ l.take i = m.take i, fun l' _ => (l.length - numAt l' 0).toNat, ⟨rfl, 0, Nat.zero_le _, rfl, by simp⟩, ?_⟩
    rintro x hp ⟨rfl, i, hi, hl', he⟩
    cases hl'
    refine ⟨fun hc => ?_, fun hc => ?_⟩
    · have hc : i < l.length := by simp at hc; omega
      refine hs.num hc (ht.num (by omega) ⟨fun hne => ?_, fun heq => ?_⟩)
      · have hne' : l ≠ m := by rintro rfl; simp at hne
        exact ⟨by rw [decide_eq_false hne'], rfl⟩
      · have heq : l[i] = m[i]'(by omega) := by simpa using heq
        refine ⟨_, incI (by omega), ⟨rfl, i + 1, hc, rfl, ?_⟩, by simp only [numAt]; omega⟩
        rw [take_one hc, take_one (show i < m.length by omega), he, heq]
    · have hc : i = l.length := by simp at hc; omega
      subst hc
      rw [List.take_length, hlm, List.take_length] at he
      exact ⟨by rw [decide_eq_true he], rfl⟩

end Go.Vc
