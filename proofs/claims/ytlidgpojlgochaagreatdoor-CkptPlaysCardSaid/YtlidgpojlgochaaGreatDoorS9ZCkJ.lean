import Derived.Test.YtlidgpojlgochaaGreatDoorS9ZCkH
set_option maxRecDepth 10000
/- Checkpoints: the first examples; disks with one checkpoint or two. -/
namespace Go.Vc
open Go Go.Proofs Go.MapKept

/-! ## The newest checkpoint of a disk -/

/-- The newest checkpoint of a disk's sectors. -/
structure J (n : Nat) (S : List ByteArray) (H : Hd) (image : ByteArray) : Prop where
  F : FitsH n H image
  len : S.length = n
  sz : ∀ s ∈ S, s.size = 512
  hd : ∃ m, openF (S.getD H.slot.toNat ByteArray.empty) = (headM H image, m, 0)
  pc : ∀ k, k < numP image → ∃ m, openF (S.getD (plN H + k) ByteArray.empty) = (pieceM H image k, m, 0)
  ot : ∀ σ p, Alive σ S [] p → (takeF σ (1 - H.slot)).2.1 = true → (takeF σ (1 - H.slot)).1.h.gen < H.gen

section
variable {n : Nat} {S T : List ByteArray} {H G : Hd} {image s : ByteArray} {σ τ : DS} {p q : Nat}

theorem Alive.look (A : Alive σ S [] p) (i : Nat) : σ.look i = S.getD i ByteArray.empty := by
  unfold DS.look
  rw [A.q, A.s]; rfl

theorem take_congr (A : Alive σ S [] p) (B : Alive τ T [] q) (hl : T.length = S.length) {i : Nat} (he : T[i]? = S[i]?) : takeF τ (i : Int) = takeF σ (i : Int) := by
  have e1 : getF τ (i : Int) = getF σ (i : Int) := by
    by_cases hi : i < S.length
    · rw [get_at B.g (by rw [B.s]; omega), get_at A.g (by rw [A.s]; omega), A.look, B.look, List.getD_eq_getElem?_getD, List.getD_eq_getElem?_getD, he]
    · have ha : ∀ {ρ : DS} {U : List ByteArray} {r : Nat}, Alive ρ U [] r → ¬ i < U.length → getF ρ (i : Int) = (Frm.no, 41) := by
        intro ρ U r C hi
        have hq : ρ.asked (i : Int) = 41 := by
          unfold DS.asked
          rw [if_neg (by simp [C.g]), if_pos (by rw [C.s]; omega)]
        have hrd : ρ.read (i : Int) = (ρ, ByteArray.empty, 41) := by unfold DS.read; rw [hq, if_neg (by decide)]
        unfold getF
        rw [hrd, if_pos (by show (41 : Int) ≠ 0; decide)]
      rw [ha B (by omega), ha A hi]
  unfold takeF
  rw [e1, A.s, B.s, hl]

theorem J.take (j : J n S H image) (A : Alive σ S [] p) : takeF σ H.slot = (tkOf H image, true, 0) := by
  obtain ⟨m, hm⟩ := j.hd
  exact take_head (by rw [A.s, j.len]; exact j.F) A.g (by rw [A.look]; exact hm)

theorem J.slots (j : J n S H image) : (H.slot = 0 ∧ 1 - H.slot = 1) ∨ (H.slot = 1 ∧ 1 - H.slot = 0) := by
  rcases j.F.b.2.2.2.2.2.1 with e | e <;> rw [e] <;> simp

theorem J.newest (j : J n S H image) (A : Alive σ S [] p) : (newestF σ).2 = (tkOf H image :: okL (takeF σ (1 - H.slot)), 0) := by
  have h0 := take_zero A.g (1 - H.slot)
  obtain ⟨⟨u, ok, c⟩, hu⟩ : ∃ r, takeF σ (1 - H.slot) = r := ⟨_, rfl⟩
  rw [hu] at h0
  have h0 : c = 0 := h0
  subst h0
  have hot := j.ot σ p A
  rw [hu] at hot
  rw [newest_two j.slots (j.take A) hu hot, hu]
  rfl

theorem J.find (j : J n S H image) (A : Alive σ S [] p) : (findF σ).2 = (H, image, 0) :=
  find_first (by rw [A.s, j.len]; exact j.F) A.g (fun k hk => by rw [A.look]; exact j.pc k hk) (j.newest A)

/-- The sectors of two checkpoints in two slots lie apart. -/
theorem apart (F : FitsH n H image) (K : FitsH n G s) (hs : G.slot = 1 - H.slot) (hl : G.ls = H.ls) : H.slot.toNat ≠ G.slot.toNat ∧ (∀ k, H.slot.toNat ≠ plN G + k) ∧ (∀ k, k < numP image → plN H + k ≠ G.slot.toNat) ∧ ∀ k i, k < numP image → i < numP s → plN H + k ≠ plN G + i := by
  have h1 := F.b
  have h2 := K.b
  have f1 := F.num
  have f2 := K.num
  have f3 := F.pl
  have f4 := K.pl
  unfold placeH at f3 f4
  rcases h1.2.2.2.2.2.1 with e | e <;> rw [e] at hs f3 <;> rw [hs] at f4 <;> refine ⟨by rw [e, hs]; decide, fun k => by rw [e]; simp; omega, fun k hk => by rw [hs]; simp; omega, fun k i hk hi => ?_⟩
  · have e1 : (2 + 0 * H.ls) = (plN H : Int) := f3.1
    have e2 : (2 + (1 - 0) * G.ls) = (plN G : Int) := f4.1
    omega
  · have e1 : (2 + 1 * H.ls) = (plN H : Int) := f3.1
    have e2 : (2 + (1 - 1) * G.ls) = (plN G : Int) := f4.1
    omega

theorem getD_congr {i : Nat} (h : T[i]? = S[i]?) : T.getD i ByteArray.empty = S.getD i ByteArray.empty := by
  rw [List.getD_eq_getElem?_getD, List.getD_eq_getElem?_getD, h]

theorem slot_cast (F : FitsH n H image) : H.slot = (H.slot.toNat : Int) := F.slot.1

/-- A checkpoint more, cut or not. -/
theorem J.step (j : J n S H image) (K : FitsH n G s) (hs : G.slot = 1 - H.slot) (hl : G.ls = H.ls) (hg : H.gen < G.gen) {code : Int} (hT : ∀ x ∈ T, x.size = 512) (L : LeftBy n G s S T code p) :
    (code = 40 ∧ J n T H image ∧ p ≠ 0) ∨ ((p = 0 ∨ numP s + 3 ≤ p) ∧ J n T G s) := by
  obtain ⟨a1, a2, a3, a4⟩ := apart j.F K hs hl
  have k1 : T[H.slot.toNat]? = S[H.slot.toNat]? := L.off _ a1 fun k _ => a2 k
  have old : ∀ (o : ∀ σ q, Alive σ T [] q → (takeF σ (1 - H.slot)).2.1 = true → (takeF σ (1 - H.slot)).1.h.gen < H.gen), J n T H image := fun o =>
    ⟨j.F, L.len.trans j.len, hT, by rw [getD_congr k1]; exact j.hd, fun k hk => by rw [getD_congr (L.off _ (a3 k hk) fun i hi => a4 k i hk hi)]; exact j.pc k hk, o⟩
  have eo : (1 - H.slot : Int) = (G.slot.toNat : Int) := by rw [← hs]; exact slot_cast K
  have h40 : code = 40 → p ≠ 0 := fun h hp => by rw [L.zero hp] at h; cases h
  rcases L.head with ⟨h1, h2⟩ | ⟨h1, h2, h3, h4⟩ | ⟨h1, h2, h3⟩
  · refine .inl ⟨h2, old fun τ q B => ?_, h40 h2⟩
    have A : Alive { τ with safe := S } S [] q := ⟨B.g, rfl, B.q, B.p⟩
    have := take_congr A B L.len h1
    rw [eo, this, ← eo]
    exact j.ot _ _ A
  · refine .inl ⟨h3, old fun τ q B => ?_, h40 h3⟩
    rw [eo, take_none B.g (by rw [B.s, L.len, j.len]; exact K.slot.2.2) (by rw [B.look]; exact h4)]
    intro hf; cases hf
  · refine .inr ⟨h1, K, L.len.trans j.len, hT, h2, h3, fun τ q B => ?_⟩
    have A : Alive { τ with safe := S } S [] q := ⟨B.g, rfl, B.q, B.p⟩
    have e1 : (1 - G.slot : Int) = (H.slot.toNat : Int) := by rw [hs]; have := slot_cast j.F; omega
    have := take_congr A B L.len k1
    rw [e1, this, ← slot_cast j.F, j.take A]
    intro _
    exact hg

theorem open_zero : (openF zero512).2.2 ≠ 0 := by
  unfold openF
  split
  · decide
  · split
    · decide
    · split
      · decide
      · rw [if_pos (.inl (by rfl))]
        decide

/-- The first checkpoint of a new disk. -/
theorem J.first (K : FitsH n G s) (L : LeftBy n G s (List.replicate n zero512) T 0 0) (hT : ∀ x ∈ T, x.size = 512) : J n T G s := by
  have hs := K.b.2.2.2.2.2.1
  have hn := K.slot
  have hp := K.pl
  rcases L.head with ⟨_, h2⟩ | ⟨h1, _⟩ | ⟨_, h2, h3⟩
  · cases h2
  · omega
  · refine ⟨K, L.len.trans (by simp), hT, h2, h3, fun τ q B => ?_⟩
    obtain ⟨o, ho⟩ : ∃ o : Nat, o = (1 - G.slot).toNat := ⟨_, rfl⟩
    have eo : (1 - G.slot : Int) = (o : Int) := by omega
    have hoz : T[o]? = some zero512 := by
      rw [L.off o (by omega) (fun k hk => by omega), List.getElem?_replicate, if_pos (by have := K.pl; omega)]
    rw [eo, take_none B.g (by rw [B.s, L.len]; simp; have := K.pl; omega) (by rw [B.look, getD_of hoz]; exact open_zero)]
    intro hf; cases hf

end

/-! ## How -/

def longF (n which : Nat) : ByteArray := tx ((List.range n).map fun i => UInt8.ofNat (which + i / 5))
theorem longF_size (n which : Nat) : (longF n which).size = n := by unfold longF; rw [tx_size]; simp

theorem long_c (n which : Nat) (hn : n ≤ 4194304) (hw : which ≤ 1000000) (h : Hp) : CallsH Tryz.prog 15 #[vI n, vI which] h fun e h' => Ext h h' ∧ e = .returned (.string (longF n which)) := by
  refine V15 _ _ h _ (semH_make rowB zerosB (l := n) (c := n) (Nat.le_refl _) (by omega) (by simp only [maxLen]; omega) ⟨_, _, _, rfl, ?_⟩)
  have x1 : Ext h (h.push (.cells (Array.replicate n (.int .u8 0)) 5)) := Ext.push _ _
  have o1 : Own (h.push (.cells (Array.replicate n (.int .u8 0)) 5)) h.size 5 1 (.slice (some ⟨h.size, 0, none⟩) n n) n (List.replicate n (.int .u8 0)) := own_made (z := .int .u8 0) (l := n) (Nat.le_refl _) (by simp only [maxLen]; omega) (Nat.le_refl _)
  generalize h.push (.cells (Array.replicate n (.int .u8 0)) 5) = h1 at x1 o1
  let B : Nat → Value := fun i => vB (UInt8.ofNat (which + i / 5))
  refine ⟨fun l hr => ∃ i : Nat, l = [vI i] ∧ i ≤ n ∧ Ext h hr ∧ Own hr h.size 5 1 (.slice (some ⟨h.size, 0, none⟩) n n) n ((List.range n).map fun j => if j < i then B j else .int .u8 0), fun l _ => (n - numAt l 0).toNat,
    ⟨0, rfl, Nat.zero_le _, x1, ?_⟩, ?_⟩
  · have : (List.range n).map (fun j => if j < 0 then B j else Value.int .u8 0) = List.replicate n (.int .u8 0) := by
      apply List.ext_getElem?
      intro j
      by_cases hj : j < n
      · simp [hj]
      · simp [hj]
    rw [this]; exact o1
  rintro x hr ⟨i, hl, hi, xr, o⟩
  cases hl
  refine ⟨fun hlt => ?_, fun hlt => ?_⟩
  · have hlt : i < n := by have := of_decide_eq_true hlt; omega
    have hdiv : Int.tdiv (i : Int) 5 = ((i / 5 : Nat) : Int) := (Int.ofNat_tdiv i 5).symm
    refine ⟨by decide, ((i / 5 : Nat) : Int), by rw [hdiv]; exact wrapI64 (by omega) (by omega), ((which + i / 5 : Nat) : Int), by rw [wrapI64] <;> omega, ((UInt8.ofNat (which + i / 5)).toNat : Int), by rw [wrapU8, u8_nat]; omega, ?_⟩
    refine o.store hlt rfl fun h2 o2 g2 _ => ?_
    refine ⟨_, incI (by omega), ⟨i + 1, rfl, hlt, xr.grown g2 fun k hk => (o.lt hk).1, ?_⟩, by simp only [numAt]; omega⟩
    have : ((List.range n).map fun j => if j < i then B j else Value.int .u8 0).set i (Value.int .u8 ((UInt8.ofNat (which + i / 5)).toNat : Int)) = (List.range n).map fun j => if j < i + 1 then B j else Value.int .u8 0 := by
      apply List.ext_getElem?
      intro j
      rw [List.getElem?_set]
      by_cases hj : j < n
      · by_cases hij : i = j
        · subst hij
          simp [hj, B]
        · rw [if_neg hij]
          simp only [List.getElem?_map, List.getElem?_range hj, Option.map_some]
          congr 1
          by_cases h1 : j < i
          · rw [if_pos h1, if_pos (by omega)]
          · rw [if_neg h1, if_neg (by omega)]
      · have hij : i ≠ j := by omega
        rw [if_neg hij]
        simp [hj]
    rw [← this]; exact o2
  · have hi : i = n := by have := of_decide_eq_false hlt; omega
    subst hi
    refine semH_toText uBs uB uStr (t := longF i which) ?_ ⟨_, rfl, xr, rfl⟩
    have e1 : byteVs (longF i which).data.toList = (List.range i).map fun j => if j < i then B j else Value.int .u8 0 := by
      show byteVs (bl (longF i which)) = _
      unfold longF
      rw [bl_tx]
      apply List.ext_getElem?
      intro j
      by_cases hj : j < i
      · simp [byteVs, hj, B]
      · simp [byteVs, hj]
    rw [e1]
    exact o.seg

theorem Kp.cell {C C' : Nat → Prop} {hr hs : Hp} (k : Kp C hr C' hs) {b : Nat} {o : Obj} (c : hr[b]? = some o) (hC : ¬ C b) : hs[b]? = some o ∧ ¬ C' b := by
  obtain ⟨h1, h2⟩ := k.2 b (Array.getElem?_eq_some_iff.1 c).1 hC
  exact ⟨h2.trans c, h1⟩

/-- A new struct, set at once. -/
theorem hd_new {h : Hp} (g : Hd) {K : Nat → Hp → Prop} (hK : ∀ b h2, b = h.size → Ext h h2 → h2[b]? = some (.cells (hdV g).toArray 39) → K b h2) :
    ∀ b hp, b = Array.size h → hp = Array.push h (.cells (zeros Tryz.prog 39) 39) → (∃ i z, Tryz.prog.info? 39 = some i ∧ i.zero = some z) ∧ List.length (hdV g) = 5 ∧ (∀ c ∈ hdV g, c.oneCell' = true) ∧ wrAt hp b 0 5 ∧ ∀ h2, h2 = setsH hp b 0 (hdV g) → K b h2 := by
  intro b hp hb e
  have x : Ext h hp := by rw [e]; exact Ext.push _ _
  have c : hp[b]? = some (.cells (hdV Hd.no).toArray 39) := by rw [e, hb, zerosHead]; exact push_last
  obtain ⟨q1, q2, q3, q4⟩ := hd_set c g
  refine ⟨infoHead, q1, q2, q3, fun h2 e2 => hK b h2 hb ?_ (by rw [e2]; exact q4)⟩
  rw [e2]
  exact x.over (setsH_same (B := fun x => x = b) rfl) fun x hx => by omega
theorem ly_new {h : Hp} (g : Int × Int) {K : Nat → Hp → Prop} (hK : ∀ b h2, b = h.size → Ext h h2 → h2[b]? = some (.cells (lyV g).toArray 37) → K b h2) :
    ∀ b hp, b = Array.size h → hp = Array.push h (.cells (zeros Tryz.prog 37) 37) → (∃ i z, Tryz.prog.info? 37 = some i ∧ i.zero = some z) ∧ List.length (lyV g) = 2 ∧ (∀ c ∈ lyV g, c.oneCell' = true) ∧ wrAt hp b 0 2 ∧ ∀ h2, h2 = setsH hp b 0 (lyV g) → K b h2 := by
  intro b hp hb e
  have x : Ext h hp := by rw [e]; exact Ext.push _ _
  have c : hp[b]? = some (.cells (lyV (0, 0)).toArray 37) := by rw [e, hb, zerosLay]; exact push_last
  obtain ⟨q1, q2, q3, q4⟩ := ly_set c g
  refine ⟨infoLay, q1, q2, q3, fun h2 e2 => hK b h2 hb ?_ (by rw [e2]; exact q4)⟩
  rw [e2]
  exact x.over (setsH_same (B := fun x => x = b) rfl) fun x hx => by omega

section
variable {B C : Nat → Prop} {h hr : Hp} {d : Nat} {σ : DS}

theorem Wk.write (W : Wk B h C hr d σ) (hh : Halves h) (h0 : ¬ B 0) {H : Hd} (ok : H.Ok) (image : ByteArray) (hl : σ.pend.length ≤ 8796093000000) :
    CallsH Tryz.prog 14 #[vP d, .agg (hdV H).toArray, .string image] hr fun e hs => ∃ C', Wk B h C' hs d (writeC σ H image).1 ∧ Kp C hr C' hs ∧ e = .returned (vZ (writeC σ H image).2) := by
  obtain ⟨h1, h2⟩ := W.halves hh h0
  refine (writeH_c W.disk h1 h2 H ok image hl).mono ?_
  rintro e hs ⟨y, D, rfl⟩
  obtain ⟨a, b⟩ := W.step y D
  exact ⟨_, a, b, rfl⟩
theorem Wk.find (W : Wk B h C hr d σ) (hh : Halves h) (h0 : ¬ B 0) :
    CallsH Tryz.prog 18 #[vP d] hr fun e hs => Wk B h C hs d (findF σ).1 ∧ Kp C hr C hs ∧ e = .returned (.tuple #[.agg (hdV (findF σ).2.1).toArray, .string (findF σ).2.2.1, vZ (findF σ).2.2.2]) := by
  obtain ⟨h1, h2⟩ := W.halves hh h0
  refine (find_c W.disk h1 h2).mono ?_
  rintro e hs ⟨y, D, rfl⟩
  obtain ⟨a, b⟩ := W.go y D
  exact ⟨a, b, rfl⟩
theorem Wk.heads (W : Wk B h C hr d σ) (hh : Halves h) (h0 : ¬ B 0) :
    CallsH Tryz.prog 38 #[vP d] hr fun e hs => Wk B h C hs d (newestF σ).1 ∧ Kp C hr C hs ∧ ∃ p c, e = .returned (.tuple #[.slice p (newestF σ).2.1.length c, vZ (newestF σ).2.2]) ∧
      Own hs hr.size 39 5 (.slice p (newestF σ).2.1.length c) (newestF σ).2.1.length (((newestF σ).2.1.map (·.h)).map hdV).flatten := by
  obtain ⟨h1, h2⟩ := W.halves hh h0
  refine (heads_c W.disk h1 h2).mono ?_
  rintro e hs ⟨y, D, p, c, rfl, o⟩
  obtain ⟨a, b⟩ := W.go y D
  exact ⟨a, b, p, c, rfl, o⟩
theorem Wk.cut (W : Wk B h C hr d σ) (n : Int) (hn : n ≤ 9223372036854775807) : CallsH Tryz.prog 16 #[vP d, vZ n] hr fun e hs => Wk B h C hs d (σ.cut n) ∧ Kp C hr C hs ∧ e = .returned (.tuple #[]) := by
  refine (cut_c W.disk n hn).mono ?_
  rintro e hs ⟨y, _, D, rfl⟩
  obtain ⟨a, b⟩ := W.go y D
  exact ⟨a, b, rfl⟩
theorem Wk.crash (W : Wk B h C hr d σ) (fates : List (Int × Int)) {p : Option Addr} {n c : Nat} (hf : SegS hr p n 2 (fates.map fateV)) (hB : ∀ b o, p = some ⟨b, o, none⟩ → fates ≠ [] → ¬ C b) :
    CallsH Tryz.prog 10 #[vP d, .slice p n c] hr fun e hs => Wk B h C hs d (σ.crash fates) ∧ Kp C hr C hs ∧ e = .returned (.tuple #[]) := by
  refine (crash_c W.disk fates hf hB).mono ?_
  rintro e hs ⟨y, D, rfl⟩
  obtain ⟨a, b⟩ := W.go y D
  exact ⟨a, b, rfl⟩
theorem Wk.fresh {h' : Hp} (F : Fresh h h' d σ) : Wk NoB h (fun b => h.size ≤ b ∧ b < h'.size) h' d σ := ⟨F.1.same NoB, F.2, fun _ hb => .inr hb.1⟩

end

end Go.Vc

/- Checkpoints: the first examples. -/
namespace Go.Vc
open Go Go.Proofs Go.MapKept

def aH1 : Hd := ⟨0, 1, 1, 2, 4⟩
def aH2 : Hd := ⟨1, 2, 2, 2, 4⟩
def aS1 : ByteArray := longF 500 1
def aS2 : ByteArray := ⟨#[120]⟩
theorem aFit1 : FitsH 10 aH1 aS1 := ⟨by decide, by unfold aS1; rw [longF_size]; decide, by unfold aS1; rw [longF_size]; decide⟩
theorem aFit2 : FitsH 10 aH2 aS2 := ⟨by decide, by decide, by decide⟩
theorem aNext : nextF aH1 0 = (aH2, 0) := by decide
theorem aOk (H : Hd) (h : H = aH1 ∨ H = aH2) : H.Ok := by
  rcases h with rfl | rfl <;> exact ⟨by decide, by decide, by decide, by decide, by decide, by decide, by decide, by decide⟩

theorem Alive.new (n : Nat) : Alive (DS.new n) (List.replicate n zero512) [] 0 := ⟨rfl, rfl, rfl, rfl⟩
theorem Alive.cut {σ : DS} {S : List ByteArray} {P : List (Nat × ByteArray)} {p : Nat} (A : Alive σ S P p) (n : Int) : Alive (σ.cut n) S P (max n 0).toNat := by
  have e : σ.cut n = { σ with plan := (max n 0).toNat } := by unfold DS.cut; rw [if_neg (by rw [A.g]; simp)]
  rw [e]
  exact ⟨A.g, A.s, A.q, rfl⟩
theorem Alive.crash (σ : DS) (fates : List (Int × Int)) : Alive (σ.crash fates) (σ.crash fates).safe [] 0 := ⟨rfl, rfl, rfl, rfl⟩
theorem Same.toExt {h hr : Hp} (x : Same NoB h hr) : Ext h hr := ⟨x.size, fun b hb => x.old b hb id⟩

set_option maxHeartbeats 1000000 in
/-- turnoutlaw20.awake -/
theorem awake_c (h : Hp) (hh : Halves h) : CallsH Tryz.prog 4 #[] h fun e h' => Ext h h' ∧ e = .returned (.bool true) := by
  refine V4 h _ ((new_c (10 : Int)).mono ?_)
  rintro e h1 (⟨hbad, rfl, rfl⟩ | ⟨_, _, d, F, rfl⟩)
  · omega
  have W1 := Wk.fresh F
  obtain ⟨C, hC⟩ : ∃ C : Nat → Prop, C = fun b => h.size ≤ b ∧ b < h1.size := ⟨_, rfl⟩
  rw [← hC] at W1
  have A1 : Alive (DS.new (10 : Int).toNat) (List.replicate 10 zero512) [] 0 := Alive.new 10
  refine ⟨_, _, rfl, (layout_c 10 2 (by decide) h1).mono ?_⟩
  rintro e h2 ⟨x2, rfl⟩
  rw [show layF 10 2 = ((2, 4), 0) from by decide]
  refine ⟨_, _, _, rfl, ly_new (2, 4) fun b h3 hb x3 c3 => ?_⟩
  refine ⟨fun l hq => hq = h3, ⟨false, ⟨false, eqv_ptr uPD _, fun hf => (by cases hf), fun _ => ⟨fun hf => (by simp at hf), fun _ => ⟨fun hf => (by simp at hf), fun _ => ⟨_, _, cellsAt_all (vs := lyV (2, 4)) c3, _, eqv_lay (2, 4) (2, 4), rfl, by simp⟩⟩⟩⟩, fun hf => (by cases hf), fun _ => rfl⟩, ?_⟩
  rintro h3' rfl
  refine ⟨_, _, cellsAt_all (vs := lyV (2, 4)) c3, hd_new aH1 fun b1 h4 hb1 x4 c4 => ?_⟩
  have W4 := W1.ext ((x2.trans x3).trans x4)
  refine ⟨fun h' => h'[b1]? = some (.cells (hdV aH1).toArray 39), c4, _, _, _, _, _, fun h' c => cellsAt_all (vs := hdV aH1) c, (long_c 500 1 (by decide) (by decide) h4).mono ?_⟩
  rintro e h5 ⟨x5, rfl⟩
  have W5 := W4.ext x5
  have c5 := (x5.old b1 (Array.getElem?_eq_some_iff.1 c4).1).trans c4
  have d5 := ((x4.trans x5).old b (Array.getElem?_eq_some_iff.1 c3).1).trans c3
  have l2 := x2.size
  have l3 := x3.size
  have nb : ¬ C b := fun h => by rw [hC] at h; have := h.2; omega
  have nb1 : ¬ C b1 := fun h => by rw [hC] at h; have := h.2; omega
  refine ⟨_, rfl, c5, (W5.write hh (fun hf => hf) (aOk aH1 (.inl rfl)) aS1 (by rw [A1.q]; decide)).mono ?_⟩
  rintro e h6 ⟨C6, W6, k6, rfl⟩
  obtain ⟨w0, T, A6, L6⟩ := left_whole aFit1 (S := List.replicate 10 zero512) (by simp) (by intro s hs; rw [List.eq_of_mem_replicate hs]; exact zero512_size) A1
  rw [w0]
  have hT : ∀ s ∈ T, s.size = 512 := by rw [← A6.s]; exact W6.disk.ok.size
  have J6 := J.first aFit1 L6 hT
  obtain ⟨c6, nc6⟩ := k6.cell c5 nb1
  obtain ⟨d6, nd6⟩ := k6.cell d5 nb
  refine ⟨_, rfl, c6, (W6.cut 3 (by decide)).mono ?_⟩
  rintro e h7 ⟨W7, k7, rfl⟩
  have A7 := A6.cut 3
  obtain ⟨c7, _⟩ := k7.cell c6 nc6
  obtain ⟨d7, _⟩ := k7.cell d6 nd6
  refine ⟨rfl, _, _, _, _, _, cellsAt_all (vs := hdV aH1) c7, (next_c aH1 0 h7).mono ?_⟩
  rintro e h8 ⟨x8, rfl⟩
  rw [aNext]
  refine ⟨_, _, _, _, _, _, rfl, hd_new aH2 fun b2 h9 hb2 x9 c9 => ?_⟩
  have x79 := x8.trans x9
  have W9 := W7.ext x79
  have e8 := (x79.old b1 (Array.getElem?_eq_some_iff.1 c7).1).trans c7
  have d9 := (x79.old b (Array.getElem?_eq_some_iff.1 d7).1).trans d7
  have nb2 : ¬ C6 b2 := fun h => by have := W7.disk.lt _ h; have := x8.size; omega
  refine ⟨_, _, _, _, _, cellsAt_all (vs := hdV aH2) c9, (W9.write hh (fun hf => hf) (aOk aH2 (.inr rfl)) aS2 (by rw [A7.q]; decide)).mono ?_⟩
  rintro e h10 ⟨C10, W10, k10, rfl⟩
  have L10 := left_write aFit2 J6.len hT A7 []
  obtain ⟨c10, nc10⟩ := k10.cell c9 nb2
  obtain ⟨e10, ne10⟩ := k10.cell e8 nc6
  obtain ⟨d10, nd10⟩ := k10.cell d9 nd6
  refine ⟨_, rfl, (W10.crash [] (SegS.nil _ _) (by simp)).mono ?_⟩
  rintro e h11 ⟨W11, k11, rfl⟩
  have hT2 : ∀ s ∈ ((writeC (((writeC (DS.new (10 : Int).toNat) aH1 aS1).1).cut 3) aH2 aS2).1.crash []).safe, s.size = 512 := W11.disk.ok.size
  have hnum : numP aS2 = 1 := by decide
  obtain ⟨w1, J11⟩ : (writeC (((writeC (DS.new (10 : Int).toNat) aH1 aS1).1).cut 3) aH2 aS2).2 = 40 ∧ J 10 ((writeC (((writeC (DS.new (10 : Int).toNat) aH1 aS1).1).cut 3) aH2 aS2).1.crash []).safe aH1 aS1 := by
    rcases J6.step aFit2 rfl rfl (by decide) hT2 L10 with ⟨w1, J11, _⟩ | ⟨hp, _⟩
    · exact ⟨w1, J11⟩
    · rw [hnum] at hp
      exact absurd hp (by decide)
  rw [w1]
  have A11 := Alive.crash (writeC (((writeC (DS.new (10 : Int).toNat) aH1 aS1).1).cut 3) aH2 aS2).1 []
  refine ⟨rfl, (W11.find hh (fun hf => hf)).mono ?_⟩
  rintro e h12 ⟨W12, k12, rfl⟩
  rw [J11.find A11]
  have kk := k11.trans k12
  obtain ⟨c12, _⟩ := kk.cell c10 nc10
  obtain ⟨e12, _⟩ := kk.cell e10 ne10
  obtain ⟨d12, _⟩ := kk.cell d10 nd10
  refine ⟨_, _, _, _, _, _, _, rfl, hd_new aH1 fun b3 h13 hb3 x13 c13 => ?_⟩
  have W13 := W12.ext x13
  have c14 := (x13.old b2 (Array.getElem?_eq_some_iff.1 c12).1).trans c12
  have e14 := (x13.old b1 (Array.getElem?_eq_some_iff.1 e12).1).trans e12
  have d14 := (x13.old b (Array.getElem?_eq_some_iff.1 d12).1).trans d12
  refine ⟨fun _ => ⟨fun _ => ⟨_, _, _, _, _, cellsAt_all (vs := hdV aH2) c14, _, _, cellsAt_all (vs := lyV (2, 4)) d14, true, eqv_hd aH2 aH2, fun _ => ⟨fun _ => ⟨fun _ => ⟨_, _, _, _, _, cellsAt_all (vs := hdV aH1) c13, _, _, _, _, _, cellsAt_all (vs := hdV aH1) e14, true, eqv_hd aH1 aH1, fun _ => ?_, fun hf => (by cases hf)⟩, fun hf => (by simp at hf)⟩, fun hf => (by simp at hf)⟩, fun hf => (by cases hf)⟩, fun hf => (by simp at hf)⟩, fun hf => (by simp at hf)⟩
  refine (long_c 500 1 (by decide) (by decide) h13).mono ?_
  rintro e h14 ⟨x14, rfl⟩
  refine ⟨_, rfl, W13.same.toExt.trans x14, ?_⟩
  rw [show decide (aS1 = longF 500 1) = true from decide_eq_true rfl]

end Go.Vc

