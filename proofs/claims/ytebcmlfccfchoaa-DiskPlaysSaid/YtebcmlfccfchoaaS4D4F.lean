/- DiskFlushes: the walk. -/
import Derived.Test.YtebcmlfccfchoaaS4D4N
set_option maxRecDepth 10000
namespace Go.Vc
open Go Go.Proofs Go.MapKept

theorem layD_all {safe : List ByteArray} {n : Nat} {s : ByteArray} (h : ∀ x ∈ safe, x.size = 512) (hn : n < safe.length) (hs : s.size = 512) : layD safe (n, s) 512 = safe.set n s := by
  rw [layD_set hn, layT_all hs (h _ (List.getElem_mem _))]

theorem layAll_snoc (safe : List ByteArray) (l : List (Nat × ByteArray)) (w : Nat × ByteArray) : layAll safe (l ++ [w]) = layD (layAll safe l) w 512 := by
  unfold layAll; rw [List.foldl_append]; rfl

/-- What lies in sector 'i' behind some writes. -/
def wantAt (n i : Nat) (l : List Put) : ByteArray := (layAll (List.replicate n zero512) (l.map (putW n))).getD i zero512

theorem zeros_ok (n : Nat) : ∀ s ∈ List.replicate n zero512, s.size = 512 := fun s hs => by rw [List.eq_of_mem_replicate hs]; exact zero512_size
theorem puts_ok (n : Nat) (l : List Put) : ∀ x ∈ l.map (putW n), x.2.size = 512 := fun x hx => by obtain ⟨y, _, rfl⟩ := List.mem_map.1 hx; exact fullT_size _ _
theorem laid_len (n : Nat) (l : List Put) : (layAll (List.replicate n zero512) (l.map (putW n))).length = n := by
  rw [(layAll_ok _ _ (zeros_ok n) (puts_ok n l)).2, List.length_replicate]

theorem wantAt_step {n i : Nat} (hn : 0 < n) (hi : i < n) (l : List Put) (p : Put) : wantAt n i (l ++ [p]) = if pickN p.N n = i then fullT p.fill p.ends else wantAt n i l := by
  have hlt := pickN_lt p.N hn
  have ok := layAll_ok (l.map (putW n)) (List.replicate n zero512) (zeros_ok n) (puts_ok n l)
  have hl := laid_len n l
  unfold wantAt
  rw [List.map_append, List.map_cons, List.map_nil, layAll_snoc]
  show (layD _ (pickN p.N n, fullT p.fill p.ends) 512).getD i zero512 = _
  rw [layD_all ok.1 (by omega) (fullT_size _ _), List.getD_eq_getElem?_getD, List.getElem?_set]
  split
  · rw [if_pos (by omega)]; rfl
  · rw [List.getD_eq_getElem?_getD]

/-- Of a disk nothing pends, and its sectors hold this. -/
structure Calm (σ : DS) (S : List ByteArray) : Prop where
  safe : σ.safe = S
  pend : σ.pend = []
  on : σ.gone = false

theorem Calm.read {σ : DS} {S : List ByteArray} (c : Calm σ S) {i : Nat} (hi : i < S.length) : Calm (σ.read (i : Int)).1 S ∧ (σ.read (i : Int)).2 = (S[i], 0) := by
  have ha : σ.asked (i : Int) = 0 := by
    unfold DS.asked
    rw [if_neg (by simp [c.on]), if_neg (by rw [c.safe]; omega)]
  have hr : σ.read (i : Int) = ({ σ with reads := inc64 σ.reads }, σ.look i, 0) := by
    unfold DS.read
    rw [if_pos ha, Int.toNat_natCast]
  rw [hr]
  refine ⟨⟨c.safe, c.pend, c.on⟩, ?_⟩
  have : σ.look i = S[i] := by
    unfold DS.look
    rw [c.pend, c.safe]
    simp [lastOf, List.getD, hi]
  rw [this]

/-- The sectors of an image. -/
theorem chunks_image {σ : DS} (ok : σ.Ok) : chunks σ.image = σ.safe := by
  have hs := image_size ok
  have hl : σ.image.size / 512 = σ.safe.length := by omega
  apply List.ext_getElem
  · simp [chunks, hl]
  · intro i h1 h2
    simp only [chunks, List.getElem_map, List.getElem_range]
    have := image_at ok h2
    rw [Nat.mul_comm i 512, show (i + 1) * 512 = 512 * i + 512 by omega]
    exact this

theorem loadOk_image {σ : DS} (ok : σ.Ok) : LoadOk σ.image := by
  have hs := image_size ok
  have h1 := ok.pos
  have h2 := ok.most
  refine ⟨by omega, by omega, by omega⟩

/-- turnoutlaw04.DiskFlushes -/
theorem flushes_law (sectors : Int) (first behind : List Put) (hs0 : -9223372036854775808 ≤ sectors) (hs1 : sectors ≤ 9223372036854775807)
    (hfo : ∀ x ∈ first, PutOk x) (hbo : ∀ x ∈ behind, PutOk x) (hfl : first.length ≤ 8796093022208) (hbl : behind.length ≤ 8796093022208) (h : Hp)
    {p q : Option Addr} {k m c c' : Nat} (hf : SegS h p k 3 (first.map putV)) (hb : SegS h q m 3 (behind.map putV)) :
    CallsH Try.prog 8 #[vZ sectors, .slice p k c, .slice q m c'] h (RetX (.bool true) h) := by
  have hkf : first.length = k := by have := hf.1; simpa using this
  have hkb : behind.length = m := by have := hb.1; simpa using this
  refine V8 _ _ _ _ _ _ _ h _ ((awake_c h).mono ?_)
  rintro e h0 ⟨x0, rfl⟩
  refine ⟨_, rfl, (pick_c sectors 6 (by decide) hs0 hs1 h0).mono ?_⟩
  rintro e h0' ⟨rfl, rfl⟩
  have hp6 := pickN_lt sectors (show 0 < 6 by decide)
  obtain ⟨n, hn⟩ : ∃ n, n = 1 + pickN sectors 6 := ⟨_, rfl⟩
  have hn1 : 1 ≤ n := by omega
  have hn2 : n ≤ 4096 := by omega
  refine ⟨_, rfl, (n : Int), by rw [wrapI64] <;> omega, (written_c n hn1 hn2 first [] hfo (by simp) hfl (by simp) h0' (hf.ext x0) (SegS.nil _ _)).mono ?_⟩
  rintro e h1 ⟨dd, Fd, rfl⟩
  have x1 := x0.trans Fd.1
  refine ⟨_, rfl, (written_c n hn1 hn2 first behind hfo hbo hfl hbl h1 (hf.ext x1) (hb.ext x1)).mono ?_⟩
  rintro e h2 ⟨de, Fe, rfl⟩
  have x2 := x1.trans Fe.1
  have l0 := x0.size
  have l1 := Fd.1.size
  have l2 := Fe.1.size
  refine ⟨_, rfl, fun l hq => l = [] ∧ hq = h2, ⟨false, ⟨fun hf => (by cases hf), fun _ => ⟨false, eqv_ptr uPD _, fun hf => (by cases hf), fun _ => ⟨false, eqv_ptr uPD _, rfl, rfl⟩⟩⟩, fun hB => (by cases hB), fun _ => ⟨rfl, rfl⟩⟩, ?_⟩
  rintro h3 ⟨_, rfl⟩
  have Dd := Fd.2.ext Fe.1
  have De := Fe.2
  obtain ⟨S, hS⟩ : ∃ S, S = (writtenS n first []).safe := ⟨_, rfl⟩
  have hSl : S.length = n := by rw [hS]; exact laid_len n first
  have hwant : ∀ i (hi : i < S.length), S[i] = wantAt n i first := fun i hi => by
    subst hS
    show _ = (layAll (List.replicate n zero512) (first.map (putW n))).getD i zero512
    rw [List.getD_eq_getElem?_getD, List.getElem?_eq_getElem (by exact hi)]; rfl
  have okD := Dd.ok
  have him : (writtenS n first behind).image = (writtenS n first []).image := image_eq rfl
  have hsz := image_size okD
  rw [← hS, hSl] at hsz
  refine (image_c Dd).mono ?_
  rintro e h4 ⟨x4, rfl⟩
  refine ⟨_, rfl, fun l hq => l = [] ∧ Ext h3 hq, ?_, ?_⟩
  · refine ⟨((512 * n : Nat) : Int), by rw [wrapI64] <;> omega, fun hf => ?_, fun _ => (image_c (De.ext x4)).mono ?_⟩
    · rw [hsz] at hf; simp at hf
    rintro e h5 ⟨x5, rfl⟩
    refine ⟨_, rfl, fun hf => ?_, fun _ => (pending_c ((Dd.ext x4).ext x5) (by simp [writtenS])).mono ?_⟩
    · rw [him] at hf; simp at hf
    rintro e h6 ⟨x6, pp, pc, rfl, _⟩
    refine ⟨_, _, _, rfl, fun hf => (by simp [writtenS] at hf), fun _ => (pending_c (((De.ext x4).ext x5).ext x6) (by simp [writtenS]; omega)).mono ?_⟩
    rintro e h7 ⟨x7, pp', pc', rfl, _⟩
    exact ⟨_, _, _, rfl, fun hf => (by simp [writtenS, hkb] at hf), fun _ => ⟨rfl, ((x4.trans x5).trans x6).trans x7⟩⟩
  rintro h5 ⟨_, x5⟩
  refine (crash_c (De.ext x5) [] (SegS.nil _ _) (by intro b o hp; cases hp)).mono ?_
  rintro e h6 ⟨y6, De6, rfl⟩
  have Dd6 := (Dd.ext x5).other y6 fun b hb hb' => by omega
  have hx6 := (x2.trans x5).over y6 fun b hb => by omega
  refine ⟨rfl, (load_c (writtenS n first []).image (by omega) ).mono ?_⟩
  rintro e h7 (⟨hbad, _, _⟩ | ⟨_, dx, Fx, rfl⟩)
  · exact (hbad (loadOk_image okD)).elim
  rw [chunks_image okD, ← hS] at Fx
  have De7 := De6.ext Fx.1
  have Dd7 := Dd6.ext Fx.1
  have hx7 := hx6.trans Fx.1
  have cd : Calm (writtenS n first []) S := ⟨hS.symm, rfl, rfl⟩
  have ce : Calm ((writtenS n first behind).crash []) S := by
    refine ⟨?_, rfl, rfl⟩
    show layFates _ _ [] = S
    rw [hS]; unfold layFates; rw [List.zip_nil_right]; rfl
  have cx : Calm (DS.fresh S) S := ⟨rfl, rfl, rfl⟩
  have him2 : ((writtenS n first behind).crash []).image = (writtenS n first []).image := image_eq (by rw [ce.safe, hS])
  have hl7 := Fx.1.size
  have hl6 : h3.size ≤ h6.size := Nat.le_trans x5.size y6.size
  refine ⟨_, _, rfl, fun l hq => l = [] ∧ Ext h7 hq, ⟨fun hf => (by simp at hf), fun _ => ⟨false, eqv_ptr uPD _, fun hf => (by cases hf), fun _ => (image_c De7).mono ?_⟩⟩, ?_⟩
  · rintro e h8 ⟨x8, rfl⟩
    refine ⟨_, rfl, fun hf => ?_, fun _ => (pending_c (De7.ext x8) (by show (0 : Nat) ≤ _; omega)).mono ?_⟩
    · rw [him2] at hf; simp at hf
    rintro e h9 ⟨x9, pp, pc, rfl, _⟩
    refine ⟨_, _, _, rfl, fun hf => (by simp [DS.crash] at hf), fun _ => (off_c ((De7.ext x8).ext x9)).mono ?_⟩
    rintro e h10 ⟨rfl, rfl⟩
    exact ⟨_, rfl, fun hf => (by cases hf), fun _ => ⟨rfl, x8.trans x9⟩⟩
  rintro h8 ⟨_, x8⟩
  refine ⟨fun l hq => ∃ i σd σe σx, i ≤ n ∧ l = [vI i] ∧ Ext h hq ∧ (DiskAt dI hq (fun b => h0'.size ≤ b ∧ b < h1.size) dd σd ∧ Calm σd S) ∧ (DiskAt dI hq (fun b => h1.size ≤ b ∧ b < h3.size) de σe ∧ Calm σe S) ∧ (DiskAt dI hq (fun b => h6.size ≤ b ∧ b < h7.size) dx σx ∧ Calm σx S),
    fun l _ => (n - numAt l 0).toNat, ⟨0, _, _, _, Nat.zero_le _, rfl, hx7.trans x8, ⟨Dd7.ext x8, cd⟩, ⟨De7.ext x8, ce⟩, ⟨Fx.2.ext x8, cx⟩⟩, ?_⟩
  clear cd ce cx Fx De7 Dd7 x8 x5 Dd6 De6
  rintro x hq ⟨i, σd, σe, σx, hi, hl, hx, ⟨Gd, cd⟩, ⟨Ge, ce⟩, ⟨Gx, cx⟩⟩
  cases hl
  refine ⟨fun hc => ?_, fun hc => ⟨rfl, hx⟩⟩
  have hc : i < n := by simp at hc; omega
  refine semH_make rowB zerosB (l := 512) (c := 512) (Nat.le_refl _) (by omega) (by simp only [maxLen]; omega) ⟨_, _, _, rfl, ?_⟩
  have ho2 : Own (hq.push (.cells (Array.replicate 512 (.int .u8 0)) 5)) hq.size 5 1 (.slice (some ⟨hq.size, 0, none⟩) 512 512) 512 (List.replicate 512 (.int .u8 0)) := own_made (z := .int .u8 0) (l := 512) (Nat.le_refl _) (by simp only [maxLen]; omega) (Nat.le_refl _)
  have xq : Ext hq (hq.push (.cells (Array.replicate 512 (.int .u8 0)) 5)) := Ext.push _ _
  generalize (hq.push (.cells (Array.replicate 512 (.int .u8 0)) 5)) = h9 at ho2 xq
  have hbz : byteVs zero512.data.toList = List.replicate 512 (.int .u8 0) := List.map_replicate
  refine semH_toText uBs uB uStr (t := zero512) (by rw [hbz]; exact ho2.seg) ⟨_, rfl, ?_⟩
  refine ⟨fun l hr => ∃ j, j ≤ first.length ∧ l = [.string (wantAt n i (first.take j)), vI j] ∧ Ext h9 hr, fun l _ => (first.length - numAt l 1).toNat, ⟨0, Nat.zero_le _, ?_, Ext.refl _⟩, ?_⟩
  · have : wantAt n i (first.take 0) = zero512 := by
      unfold wantAt
      show (List.replicate n zero512).getD i zero512 = zero512
      rw [List.getD_eq_getElem?_getD, List.getElem?_replicate]
      split <;> rfl
    rw [this]; rfl
  rintro want y hr ⟨j, hj, hl, xr⟩
  cases hl
  have xh : Ext h hr := (hx.trans xq).trans xr
  refine ⟨fun hc2 => ?_, fun hc2 => ?_⟩
  · have hc2 : j < first.length := by simp at hc2; omega
    have hpo := hfo _ (List.getElem_mem hc2)
    obtain ⟨b, o, hp, hi0, hin, hget⟩ := (hf.ext xh).get (i := j) (by simpa using hc2)
    rw [List.getElem_map] at hget
    have hst := wantAt_step (n := n) (i := i) (by omega) hc (first.take j) first[j]
    have htk : first.take (j + 1) = first.take j ++ [first[j]] := by rw [List.take_add_one, List.getElem?_eq_getElem hc2]; rfl
    refine ⟨b, o, hp, hi0, hin, _, hget 0 _ rfl, (pick_c first[j].N n (by omega) hpo.1 hpo.2 hr).mono ?_⟩
    rintro e h10 ⟨rfl, rfl⟩
    refine ⟨_, rfl, fun heq => ?_, fun hne => ?_⟩
    · have heq : pickN first[j].N n = i := by simp at heq; omega
      refine ⟨b, o, hp, hi0, hin, _, hget 1 _ rfl, b, o, hp, hi0, hin, _, hget 2 _ rfl, (full_c first[j].fill first[j].ends h10).mono ?_⟩
      rintro e h11 ⟨x11, rfl⟩
      refine ⟨_, rfl, _, incI (by omega), ⟨j + 1, hc2, ?_, xr.trans x11⟩, by simp only [numAt]; omega⟩
      rw [htk, hst, if_pos heq]
    · have hne : ¬ pickN first[j].N n = i := by simp at hne; omega
      refine ⟨_, incI (by omega), ⟨j + 1, hc2, ?_, xr⟩, by simp only [numAt]; omega⟩
      rw [htk, hst, if_neg hne]
  have hc2 : j = first.length := by simp at hc2; omega
  subst hc2
  rw [List.take_length]
  have hiS : i < S.length := by omega
  rw [← hwant i hiS]
  have xqr := xq.trans xr
  obtain ⟨cd', rd⟩ := cd.read hiS
  obtain ⟨ce', re⟩ := ce.read hiS
  obtain ⟨cx', rx⟩ := cx.read hiS
  refine (read_c (Gd.ext xqr) (i : Int)).mono ?_
  rintro e h10 ⟨y10, z10, Gd10, rfl⟩
  have Ge10 := (Ge.ext xqr).other y10 fun b hb hb' => by omega
  have Gx10 := (Gx.ext xqr).other y10 fun b hb hb' => by omega
  have xh10 := xh.over y10 fun b hb => by omega
  rw [rd]
  refine ⟨_, _, rfl, (read_c Ge10 (i : Int)).mono ?_⟩
  rintro e h11 ⟨y11, z11, Ge11, rfl⟩
  have Gd11 := Gd10.other y11 fun b hb hb' => by omega
  have Gx11 := Gx10.other y11 fun b hb hb' => by omega
  have xh11 := xh10.over y11 fun b hb => by omega
  rw [re]
  refine ⟨_, _, rfl, (read_c Gx11 (i : Int)).mono ?_⟩
  rintro e h12 ⟨y12, z12, Gx12, rfl⟩
  have Gd12 := Gd11.other y12 fun b hb hb' => by omega
  have Ge12 := Ge11.other y12 fun b hb hb' => by omega
  have xh12 := xh11.over y12 fun b hb => by omega
  rw [rx]
  refine ⟨_, _, rfl, fun hf => (by simp at hf), fun _ => ⟨fun hf => (by simp at hf), fun _ => ⟨fun hf => (by simp at hf), fun _ => ⟨fun hf => (by simp at hf), fun _ => ⟨fun hf => (by simp at hf), fun _ => ⟨fun hf => (by simp at hf), fun _ => ?_⟩⟩⟩⟩⟩⟩
  refine (sector_c _ i (by omega) (by omega) h12).mono ?_
  rintro e h13 ⟨rfl, rfl⟩
  have hse : (writtenS n first []).image.extract (512 * i) (512 * i + 512) = S[i] := by
    have := image_at okD (i := i) (by rw [← hS]; exact hiS)
    subst hS
    exact this
  rw [hse]
  exact ⟨_, rfl, fun hf => (by simp at hf), fun _ => ⟨_, incI (by omega), ⟨i + 1, _, _, _, hc, rfl, xh12, ⟨Gd12, cd'⟩, ⟨Ge12, ce'⟩, ⟨Gx12, cx'⟩⟩, by simp only [numAt]; omega⟩⟩

end Go.Vc
