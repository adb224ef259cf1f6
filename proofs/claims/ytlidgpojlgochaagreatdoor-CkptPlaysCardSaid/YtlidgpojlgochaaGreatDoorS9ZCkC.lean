/- Checkpoints: Write. -/
import Derived.Test.YtlidgpojlgochaaGreatDoorS9ZCkB
import Derived.Test.YtlidgpojlgochaaGreatDoorS9ZWkA
set_option maxRecDepth 10000
namespace Go.Vc
open Go Go.Proofs Go.MapKept

/-! ## What is done -/

def pieceF (image : ByteArray) (k : Nat) : ByteArray := image.extract (491 * k) (min (491 * (k + 1)) image.size)
def numP (image : ByteArray) : Nat := (image.size + 490) / 491
def runL : List (DS → DS × Int) → DS → DS × Int
  | [], σ => (σ, 0)
  | f :: l, σ => if (f σ).2 ≠ 0 then f σ else runL l (f σ).1
def pieceM (H : Hd) (image : ByteArray) (k : Nat) : Frm := ⟨2, H.gen, k, pieceF image k⟩
def headM (H : Hd) (image : ByteArray) : Frm := ⟨1, H.gen, H.slot, tx (bodyL H image)⟩
def putS (H : Hd) (image : ByteArray) (k : Nat) (σ : DS) : DS × Int := putF σ (placeH H + k) (pieceM H image k)
def headS (H : Hd) (image : ByteArray) (σ : DS) : DS × Int := putF σ H.slot (headM H image)
def stepsF (H : Hd) (image : ByteArray) : List (DS → DS × Int) := (List.range (numP image)).map (putS H image) ++ [DS.flush, headS H image, DS.flush]
def writeC (σ : DS) (H : Hd) (image : ByteArray) : DS × Int :=
  if rightH σ.safe.length H = false ∨ image = ⟨#[]⟩ then (σ, 1) else if mostH H < image.size then (σ, 2) else runL (stepsF H image) σ

theorem write_more {σ : DS} {n : Int} {s : ByteArray} : (σ.write n s).1.pend.length ≤ σ.pend.length + 1 := by
  have hst := (DS.stepped_safe σ).2.1
  unfold DS.write
  split
  · split
    · split
      · rw [hst]; omega
      · show (σ.pend ++ [(n.toNat, s)]).length ≤ _
        simp
    · show σ.pend.length ≤ _; omega
  · show σ.pend.length ≤ _; omega

theorem put_more {σ : DS} {n : Int} {f : Frm} : (putF σ n f).1.pend.length ≤ σ.pend.length + 1 := by
  unfold putF
  split
  · show σ.pend.length ≤ _; omega
  · split
    · show (σ.read n).1.pend.length ≤ _; rw [read_pend]; omega
    · have := write_more (σ := (σ.read n).1) (n := n) (s := tx (sealL f (UInt8.ofNat (markN (σ.read n).2.1))))
      rwa [read_pend] at this

theorem flush_more {σ : DS} : σ.flush.1.pend.length ≤ σ.pend.length + 1 := by
  have hst := (DS.stepped_safe σ).2.1
  unfold DS.flush
  split
  · show σ.pend.length ≤ _; omega
  · split
    · show σ.stepped.pend.length ≤ _; rw [hst]; omega
    · show 0 ≤ _; omega

theorem steps_more {H : Hd} {image : ByteArray} {f : DS → DS × Int} (hf : f ∈ stepsF H image) (σ : DS) : (f σ).1.pend.length ≤ σ.pend.length + 1 := by
  unfold stepsF at hf
  simp only [List.mem_append, List.mem_map, List.mem_cons, List.not_mem_nil, or_false] at hf
  rcases hf with ⟨k, _, rfl⟩ | rfl | rfl | rfl
  · exact put_more
  · exact flush_more
  · exact put_more
  · exact flush_more

theorem steps_length (H : Hd) (image : ByteArray) : (stepsF H image).length = numP image + 3 := by unfold stepsF; simp
theorem steps_put {H : Hd} {image : ByteArray} {i : Nat} (hi : i < numP image) : (stepsF H image)[i]? = some (putS H image i) := by
  unfold stepsF
  rw [List.getElem?_append_left (by simpa using hi), List.getElem?_map, List.getElem?_range hi]; rfl
theorem steps_end {H : Hd} {image : ByteArray} (j : Nat) : (stepsF H image)[numP image + j]? = [DS.flush, headS H image, DS.flush][j]? := by
  unfold stepsF
  rw [List.getElem?_append_right (by simp)]; simp

/-! ## How -/

theorem infoTxt : ∃ i z, Tryz.prog.info? 9 = some i ∧ i.zero = some z := by
  have : ((Tryz.prog.info? 9).bind (·.zero)).isSome = true := by kernel_rfl
  obtain ⟨z, hz⟩ := Option.isSome_iff_exists.1 this
  obtain ⟨i, hi, hz⟩ := Option.bind_eq_some_iff.1 hz
  exact ⟨i, z, hi, hz⟩
theorem rowFn : RowT Tryz.prog 92 73 1 8 := RowT.of (by kernel_rfl)

/-- Rows of functions may have grown; all else is as it was. -/
def Kc (hr hs : Hp) : Prop := ∀ (y : Nat) (vs : Array Value) (t : TypeId), hr[y]? = some (.cells vs t) → t ≠ 73 → hs[y]? = some (.cells vs t)
theorem Kc.ext {hr hs : Hp} (x : Ext hr hs) : Kc hr hs := fun y _ _ h _ => (x.old y (Array.getElem?_eq_some_iff.1 h).1).trans h
theorem Kc.trans {a b c : Hp} (x : Kc a b) (y : Kc b c) : Kc a c := fun k vs t h ht => y k vs t (x k vs t h ht) ht
theorem Kc.grown {hr hs : Hp} {base n : Nat} {v : Value} {xs : List Value} (o : Own hr base 73 1 v n xs) (g : Grown hr hs v.ownBlock) : Kc hr hs := fun y vs t h ht => by
  refine (g.block y (Array.getElem?_eq_some_iff.1 h).1 fun e => ?_).trans h
  obtain ⟨cur, hc⟩ := o.blk e.symm
  rw [h] at hc
  cases hc
  exact ht rfl

def capV (a b : Nat) (c : Nat × Nat) : Value := .func (.func 43) #[] #[vP a, vP b, vP c.1, vP c.2]
def flushV (d : Nat) : Value := .func (.func 25) #[vP d] #[]
def headV (a b c : Nat) : Value := .func (.func 46) #[] #[vP a, vP b, vP c]

/-- The list of what is to be done, half built. -/
structure Todo (d : Nat) (H : Hd) (image : ByteArray) (h hr : Hp) (a b b2 : Nat) (k : Nat) (p : Option Addr) (c : Nat) (bk : Nat) (caps : List (Nat × Nat)) : Prop where
  x : Ext h hr
  ca : hr[a]? = some (.cells #[vP d] 26)
  cb : hr[b]? = some (.cells (hdV H).toArray 39)
  cc : hr[b2]? = some (.cells #[.string (tx (bodyL H image))] 9)
  ck : hr[bk]? = some (.cells #[vI k] 3)
  len : caps.length = k
  cap : ∀ (i : Nat) (c : Nat × Nat), caps[i]? = some c → hr[c.1]? = some (.cells #[vI i] 3) ∧ hr[c.2]? = some (.cells #[.string (pieceF image i)] 9) ∧ h.size ≤ c.1 ∧ h.size ≤ c.2
  row : Own hr h.size 73 1 (.slice p k c) k (caps.map (capV a b))
  lk : h.size ≤ bk

theorem Frm.ok_of {k : Int} {n : Nat} {i : Int} {s : ByteArray} (hk : k = 1 ∨ k = 2) (hn : n < 18446744073709551616) (hi : -9223372036854775808 ≤ i ∧ i ≤ 9223372036854775807) (hs : s.size ≤ 9223372036854775807) : (⟨k, n, i, s⟩ : Frm).Ok :=
  ⟨by show _ ≤ k; omega, by show k ≤ _; omega, hn, hi.1, hi.2, hs⟩

section
variable {B : Nat → Prop} {g hr : Hp} {d : Nat} {σ : DS} {a b c1 c2 : Nat} {H : Hd} {k : Nat} {s : ByteArray}

theorem put1_c (hh : Halves g) (h0 : ¬ B 0) (W : WkS B g d hr σ) (hl : σ.pend.length ≤ 8796093022208) (hs : H.slot = 0 ∨ H.slot = 1) (l0 : 0 ≤ H.ls) (l1 : H.ls ≤ 1000000) (hg : H.gen < 18446744073709551616) (hk : k ≤ 1000000) (hsz : s.size ≤ 9223372036854775807)
    (ca : g[a]? = some (.cells #[vP d] 26)) (cb : g[b]? = some (.cells (hdV H).toArray 39)) (cc : g[c1]? = some (.cells #[vI k] 3)) (cd : g[c2]? = some (.cells #[.string s] 9)) (na : ¬ B a) (nb : ¬ B b) (nc : ¬ B c1) (nd : ¬ B c2) :
    CallsH Tryz.prog 43 #[vP a, vP b, vP c1, vP c2] hr fun e hs => WkS B g d hs (putF σ (placeH H + k) ⟨2, H.gen, k, s⟩).1 ∧ e = .returned (vZ (putF σ (placeH H + k) ⟨2, H.gen, k, s⟩).2) := by
  have la := (Array.getElem?_eq_some_iff.1 ca).1
  have lb := (Array.getElem?_eq_some_iff.1 cb).1
  have lc := (Array.getElem?_eq_some_iff.1 cc).1
  have ld := (Array.getElem?_eq_some_iff.1 cd).1
  have hpl : 0 ≤ placeH H ∧ placeH H ≤ 1000002 := by unfold placeH; rcases hs with e | e <;> rw [e] <;> omega
  let Cv : Hp → Prop := fun h' => h'[a]? = some (.cells #[vP d] 26) ∧ h'[b]? = some (.cells (hdV H).toArray 39) ∧ h'[c1]? = some (.cells #[vI k] 3) ∧ h'[c2]? = some (.cells #[.string s] 9)
  have cv : ∀ {hq : Hp} {τ : DS}, WkS B g d hq τ → Cv hq := fun W => ⟨(W.old la na).trans ca, (W.old lb nb).trans cb, (W.old lc nc).trans cc, (W.old ld nd).trans cd⟩
  refine V43 _ _ _ _ hr _ ⟨Cv, cv W, a, 0, rfl, _, fun h' c => cellsAt_one (cellH_at c.1), b, 0, rfl, _, _, _, _, _, cellsAt_all (vs := hdV H) (cv W).2.1, (place_c H hs (by omega) (by omega) hr).mono ?_⟩
  rintro e h1 ⟨x1, rfl⟩
  have W1 := W.ext x1
  refine ⟨_, rfl, cv W1, c1, 0, rfl, _, fun h' c => cellsAt_one (cellH_at c.2.2.1), _, wrapI64 (by omega) (by omega), b, 0, rfl, _, fun h' c => cellsAt_one (cellH_at c.2.1), c1, 0, rfl, _, fun h' c => cellsAt_one (cellH_at c.2.2.1), c2, 0, rfl, _, fun h' c => cellsAt_one (cellH_at c.2.2.2), ?_⟩
  refine (W1.put hh h0 (placeH H + k) (f := ⟨2, H.gen, k, s⟩) (Frm.ok_of (.inr rfl) hg ⟨by omega, by omega⟩ hsz) hl).mono ?_
  rintro e h2 ⟨W2, rfl⟩
  exact ⟨_, rfl, cv W2, W2, rfl⟩

theorem put2_c (hh : Halves g) (h0 : ¬ B 0) (W : WkS B g d hr σ) (hl : σ.pend.length ≤ 8796093022208) (hs : H.slot = 0 ∨ H.slot = 1) (hg : H.gen < 18446744073709551616) (hsz : s.size ≤ 9223372036854775807)
    (ca : g[a]? = some (.cells #[vP d] 26)) (cb : g[b]? = some (.cells (hdV H).toArray 39)) (cd : g[c2]? = some (.cells #[.string s] 9)) (na : ¬ B a) (nb : ¬ B b) (nd : ¬ B c2) :
    CallsH Tryz.prog 46 #[vP a, vP b, vP c2] hr fun e hs => WkS B g d hs (putF σ H.slot ⟨1, H.gen, H.slot, s⟩).1 ∧ e = .returned (vZ (putF σ H.slot ⟨1, H.gen, H.slot, s⟩).2) := by
  have ca' := (W.old (Array.getElem?_eq_some_iff.1 ca).1 na).trans ca
  have cb' := (W.old (Array.getElem?_eq_some_iff.1 cb).1 nb).trans cb
  have cd' := (W.old (Array.getElem?_eq_some_iff.1 cd).1 nd).trans cd
  refine V46 _ _ _ hr _ ⟨a, 0, rfl, _, cellsAt_one (cellH_at ca'), b, 0, rfl, _, cellsAt_one (cellH_at cb'), b, 0, rfl, _, cellsAt_one (cellH_at cb'), b, 0, rfl, _, cellsAt_one (cellH_at cb'), c2, 0, rfl, _, cellsAt_one (cellH_at cd'), ?_⟩
  refine (W.put hh h0 H.slot (f := ⟨1, H.gen, H.slot, s⟩) (Frm.ok_of (.inl rfl) hg (by rcases hs with e | e <;> rw [e] <;> decide) hsz) hl).mono ?_
  rintro e h2 ⟨W2, rfl⟩
  exact ⟨_, rfl, W2, rfl⟩

end

theorem rightH_ok {n : Nat} {H : Hd} (h : rightH n H = true) : n ≤ 4096 ∧ 1 ≤ H.ls ∧ H.ls ≤ 2046 ∧ H.ll = n - 2 - 2 * H.ls ∧ 1 ≤ H.ll ∧ (H.slot = 0 ∨ H.slot = 1) ∧ (1 ≤ H.gen ∧ H.gen ≤ 9223372036854775807) ∧ (1 ≤ H.ep ∧ H.ep ≤ 9223372036854775807) := by
  unfold rightH rightB at h
  obtain ⟨h1, h2, h3, h4, h5⟩ := of_decide_eq_true h
  have h4 : 1 ≤ H.gen ∧ H.gen ≤ 9223372036854775807 := of_decide_eq_true h4
  have h5 : 1 ≤ H.ep ∧ H.ep ≤ 9223372036854775807 := of_decide_eq_true h5
  unfold layF at h1 h2
  by_cases hA : (n : Int) < 1 ∨ 4096 < (n : Int) ∨ H.ls < 1
  · rw [if_pos hA] at h1; simp at h1
  · obtain ⟨k1, k2, k3⟩ := half_b (s := (n : Int)) (by omega) (by omega)
    rw [if_neg hA] at h1 h2
    by_cases hC : ((n : Int) - 3).tdiv 2 < H.ls ∨ (n : Int) < 3
    · rw [if_pos hC] at h1; simp at h1
    · rw [if_neg hC] at h2
      have h6 : (n : Int) - 2 - 2 * H.ls = H.ll := (Prod.mk.inj h2).2
      have := k3 (by omega)
      refine ⟨by omega, by omega, by omega, h6.symm, by omega, h3, h4, h5⟩

set_option maxHeartbeats 1000000 in
/-- ckpt.Write -/
theorem writeH_c {h : Hp} {B : Nat → Prop} {d : Nat} {σ : DS} (D : DiskAt dI h B d σ) (hh : Halves h) (h0 : ¬ B 0) (H : Hd) (ok : H.Ok) (image : ByteArray) (hl : σ.pend.length ≤ 8796093000000) :
    CallsH Tryz.prog 14 #[vP d, .agg (hdV H).toArray, .string image] h fun e h' => Same B h h' ∧ DiskAt dI h' (GrowB B h h') d (writeC σ H image).1 ∧ e = .returned (vZ (writeC σ H image).2) := by
  have stay : ∀ {hq : Hp}, Ext h hq → Same B h hq ∧ DiskAt dI hq (GrowB B h hq) d σ := fun x => ⟨x.same B, (D.ext x).more (fun b hb => .inl hb) (GrowB.lt D.lt x.size)⟩
  refine V14 _ _ _ _ _ _ _ h _ ?_
  intro a h1 ha e1
  have x1 : Ext h h1 := by rw [e1]; exact Ext.push _ _
  have ca1 : h1[a]? = some (.cells #[vP d] 26) := by rw [e1, ha]; exact push_last
  have s1 : h1.size = h.size + 1 := by rw [e1]; simp
  clear e1
  intro b h2 hb e2
  have x2 : Ext h1 h2 := by rw [e2]; exact Ext.push _ _
  have ca2 := (x2.old a (Array.getElem?_eq_some_iff.1 ca1).1).trans ca1
  have cb2 : h2[b]? = some (.cells (hdV H).toArray 39) := by rw [e2, hb]; exact push_last
  clear e2
  have x02 := x1.trans x2
  refine ⟨fun l hq => Ext h2 hq ∧ rightH σ.safe.length H = true ∧ image ≠ ⟨#[]⟩, ⟨_, cellsAt_one (cellH_at ca2), false, eqv_ptr uPD _, fun hf => (by cases hf), fun _ => ⟨_, cellsAt_one (cellH_at ca2), _, _, _, _, _, cellsAt_all (vs := hdV H) cb2, (right_c (D.ext x02) H ok.a1).mono ?_⟩⟩, ?_⟩
  · rintro e h3 ⟨x3, rfl⟩
    obtain ⟨k1, k2⟩ := stay (x02.trans x3)
    refine ⟨_, rfl, fun hr => ?_, fun hr => ⟨fun he => ?_, fun he => ⟨x3, by simpa using hr, by simpa using he⟩⟩⟩
    · have hr : rightH σ.safe.length H = false := by simpa using hr
      have e1 : writeC σ H image = (σ, 1) := by unfold writeC; rw [if_pos (.inl hr)]
      rw [e1]; exact ⟨k1, k2, rfl⟩
    · have he : image = ⟨#[]⟩ := by simpa using he
      have e1 : writeC σ H image = (σ, 1) := by unfold writeC; rw [if_pos (.inr he)]
      rw [e1]; exact ⟨k1, k2, rfl⟩
  rintro h3 ⟨x3, hright, hne⟩
  obtain ⟨r1, r2, r3, r4, r5, r6, r7, r8⟩ := rightH_ok hright
  have w0 : writeC σ H image = if mostH H < image.size then (σ, 2) else runL (stepsF H image) σ := by
    unfold writeC
    rw [if_neg]
    rintro (h | h)
    · rw [hright] at h; cases h
    · exact hne h
  have cb3 := (x3.old b (Array.getElem?_eq_some_iff.1 cb2).1).trans cb2
  refine ⟨_, _, _, _, _, cellsAt_all (vs := hdV H) cb3, (most_c H (by omega) (by omega) h3).mono ?_⟩
  rintro e h4 ⟨x4, rfl⟩
  have x04 := (x02.trans x3).trans x4
  refine ⟨_, rfl, fun hc => ?_, fun hc => ?_⟩
  · have hc : mostH H < image.size := of_decide_eq_true hc
    obtain ⟨k1, k2⟩ := stay x04
    rw [w0, if_pos hc]; exact ⟨k1, k2, rfl⟩
  have hc : ¬ mostH H < image.size := of_decide_eq_false hc
  rw [w0, if_neg hc]
  clear w0
  have hsz : image.size ≤ 2097152 ∧ (image.size : Int) ≤ 491 * H.ls := by unfold mostH at hc; omega
  have x24 := x3.trans x4
  have cb4 := (x24.old b (Array.getElem?_eq_some_iff.1 cb2).1).trans cb2
  refine ⟨_, _, _, _, _, cellsAt_all (vs := hdV H) cb4, (saidH_c H image (by omega) (by omega) (by omega) (by omega) h4 (hh.ext x04)).mono ?_⟩
  rintro e h5 ⟨x5, rfl⟩
  refine ⟨_, _, rfl, ?_⟩
  intro b2 h6 hb2 e6
  have x6 : Ext h5 h6 := by rw [e6]; exact Ext.push _ _
  have c6 : h6[b2]? = some (.cells [Value.string ⟨#[]⟩].toArray 9) := by rw [e6, hb2, zerosS]; exact push_last
  clear e6
  obtain ⟨q1, q2⟩ := all_set c6 [.string (tx (bodyL H image))] rfl
  refine ⟨infoTxt, rfl, q1, ?_⟩
  intro h7 e7
  have x05 := x04.trans x5
  have l05 := x05.size
  have l24 := x24.size
  have l2 := (Array.getElem?_eq_some_iff.1 cb2).1
  have la2 := (Array.getElem?_eq_some_iff.1 ca2).1
  have l5 := x5.size
  have x7 : Ext h5 h7 := by rw [e7]; exact x6.over (setsH_same (B := fun x => x = b2) rfl) fun x hx => by omega
  have cc7 : h7[b2]? = some (.cells #[.string (tx (bodyL H image))] 9) := by rw [e7]; exact q2
  clear e7 q1 q2 c6 x6
  refine ⟨fun hf => (by simp at hf), fun _ => ?_⟩
  intro bk h8 hbk e8
  have x8 : Ext h7 h8 := by rw [e8]; exact Ext.push _ _
  have c8 : h8[bk]? = some (.cells [vZ 0].toArray 3) := by rw [e8, hbk, zerosNum]; exact push_last
  clear e8
  obtain ⟨q1, q2⟩ := all_set c8 [vZ 0] rfl
  refine ⟨infoNum, rfl, q1, ?_⟩
  intro h9 e9
  have x9 : Ext h7 h9 := by rw [e9]; exact x8.over (setsH_same (B := fun x => x = bk) rfl) fun x hx => by omega
  have ck9 : h9[bk]? = some (.cells #[vI 0] 3) := by rw [e9]; exact q2
  clear e9 q1 q2 c8 x8
  have x29 := (x24.trans x5).trans (x7.trans x9)
  have ca9 := (x29.old a la2).trans ca2
  have cb9 := (x29.old b l2).trans cb2
  have l7 := x7.size
  have cc9 := (x9.old b2 (Array.getElem?_eq_some_iff.1 cc7).1).trans cc7
  have T0 : Todo d H image h h9 a b b2 0 none 0 bk [] := ⟨x02.trans x29, ca9, cb9, cc9, ck9, rfl, by simp, Own.nil _ _ _ _, by omega⟩
  refine ⟨fun l hq => ∃ (k : Nat) (p : Option Addr) (c bk : Nat) (caps : List (Nat × Nat)), l = [.slice p k c, vP bk] ∧ 491 * k < image.size + 491 ∧ Todo d H image h hq a b b2 k p c bk caps,
    fun l hq => image.size + 491 - 491 * (match l with | .slice _ n _ :: _ => n | _ => 0), ⟨0, none, 0, bk, [], rfl, by omega, T0⟩, ?_⟩
  clear T0 ck9
  rintro p n c kp hq ⟨k, p', c', bk, caps, hl', hk, T⟩
  cases hl'
  refine ⟨bk, 0, rfl, _, cellsAt_one (cellH_at T.ck), _, wrapI64 (by omega) (by omega), fun hlt => ?_, fun hlt => ?_⟩
  · have hlt : 491 * n < image.size := by have := of_decide_eq_true hlt; omega
    refine ⟨bk, 0, rfl, _, cellsAt_one (cellH_at T.ck), _, wrapI64 (by omega) (by omega), bk, 0, rfl, _, cellsAt_one (cellH_at T.ck), ((n + 1 : Nat) : Int), by rw [wrapI64] <;> omega, ((491 * (n + 1) : Nat) : Int), by rw [wrapI64] <;> omega, 491 * n, by omega, min (491 * (n + 1)) image.size, by omega, by omega, by omega, pieceF image n, rfl, ?_⟩
    intro b7 g1 hb7 e1
    have y1 : Ext hq g1 := by rw [e1]; exact Ext.push _ _
    have c1 : g1[b7]? = some (.cells [Value.string ⟨#[]⟩].toArray 9) := by rw [e1, hb7, zerosS]; exact push_last
    clear e1
    obtain ⟨q1, q2⟩ := all_set c1 [.string (pieceF image n)] rfl
    refine ⟨infoTxt, rfl, q1, ?_⟩
    intro g2 e2
    have y2 : Ext hq g2 := by rw [e2]; exact y1.over (setsH_same (B := fun x => x = b7) rfl) fun x hx => by omega
    have c7 : g2[b7]? = some (.cells #[.string (pieceF image n)] 9) := by rw [e2]; exact q2
    clear e2 q1 q2 c1 y1
    have o2 := T.row.ext y2
    refine semH_push rowFn o2 (vs := [capV a b (bk, b7)]) (m := 1) rfl rfl (by simp) (by simp) (by simp [capV, Value.oneCell']) (by omega) (by simp only [maxLen]; omega) (by have := T.x.size; have := y2.size; omega) fun p3 c3 g3 o3 gr _ _ => ?_
    have K3 : Kc hq g3 := (Kc.ext y2).trans (Kc.grown o2 gr)
    have K23 : Kc g2 g3 := Kc.grown o2 gr
    have ck3 := K3 _ _ _ T.ck (by decide)
    refine ⟨bk, 0, rfl, _, cellsAt_one (cellH_at ck3), ?_⟩
    intro b9 g4 hb9 e4
    have y4 : Ext g3 g4 := by rw [e4]; exact Ext.push _ _
    have c4 : g4[b9]? = some (.cells [vZ 0].toArray 3) := by rw [e4, hb9, zerosNum]; exact push_last
    clear e4
    obtain ⟨q1, q2⟩ := all_set c4 [vI n] rfl
    refine ⟨infoNum, rfl, q1, ?_⟩
    intro g5 e5
    have c5 : g5[b9]? = some (.cells [vI n].toArray 3) := by rw [e5]; exact q2
    have y5 : Ext g3 g5 := by rw [e5]; exact y4.over (setsH_same (B := fun x => x = b9) rfl) fun x hx => by omega
    clear e5 q1 q2 c4 y4
    obtain ⟨q1, q2⟩ := all_set c5 [vI (n + 1)] rfl
    refine ⟨_, cellsAt_one (cellH_at c5), ((n + 1 : Nat) : Int), by rw [wrapI64] <;> omega, rfl, q1, ?_⟩
    intro g6 e6
    have c6 : g6[b9]? = some (.cells #[vI (n + 1)] 3) := by rw [e6]; exact q2
    have y6 : Ext g3 g6 := by rw [e6]; exact y5.over (setsH_same (B := fun x => x = b9) rfl) fun x hx => by omega
    clear e6 q1 q2 c5 y5
    have K6 : Kc hq g6 := K3.trans (Kc.ext y6)
    have l0 := T.x.size
    have l2' := y2.size
    have l3 := gr.size
    refine ⟨⟨n + 1, p3, c3, b9, caps ++ [(bk, b7)], rfl, by omega, ?_⟩, by simp only; omega⟩
    refine ⟨?_, K6 _ _ _ T.ca (by decide), K6 _ _ _ T.cb (by decide), K6 _ _ _ T.cc (by decide), c6, by rw [List.length_append, T.len]; rfl, ?_, ?_, by omega⟩
    · exact ((T.x.trans y2).grown gr fun k hk => (o2.lt hk).1).trans y6
    · intro i c hi
      by_cases hin : i < caps.length
      · rw [List.getElem?_append_left hin] at hi
        obtain ⟨t1, t2, t3, t4⟩ := T.cap i c hi
        exact ⟨K6 _ _ _ t1 (by decide), K6 _ _ _ t2 (by decide), t3, t4⟩
      · rw [List.getElem?_append_right (by omega)] at hi
        have hi0 : i = caps.length := by
          have := (List.getElem?_eq_some_iff.1 hi).1
          simp at this; omega
        rw [hi0, Nat.sub_self] at hi
        cases hi
        rw [hi0, T.len]
        exact ⟨K6 _ _ _ T.ck (by decide), (K23.trans (Kc.ext y6)) _ _ _ c7 (by decide), T.lk, by omega⟩
    · rw [List.map_append]
      exact o3.ext y6
  have hlt : image.size ≤ 491 * n := by have := of_decide_eq_false hlt; omega
  have hn : n = numP image := by unfold numP; omega
  have hsteps := steps_length H image
  have hnn : n ≤ 5000 := by omega
  refine ⟨_, cellsAt_one (cellH_at T.ca), _, cellsAt_one (cellH_at T.ca), ?_⟩
  refine semH_push rowFn T.row (vs := [flushV d, headV a b b2, flushV d]) (m := 3) rfl rfl (by simp) (by simp) (by simp [flushV, headV, Value.oneCell']) (by omega) (by simp only [maxLen]; omega) T.x.size fun p3 c3 g o3 gr _ _ => ?_
  have K : Kc hq g := Kc.grown T.row gr
  have xg : Ext h g := T.x.grown gr fun k hk => (T.row.lt hk).1
  have Dg := D.ext xg
  have hhg := hh.ext xg
  have sg := o3.seg
  have ca := K _ _ _ T.ca (by decide)
  have cb := K _ _ _ T.cb (by decide)
  have cc := K _ _ _ T.cc (by decide)
  have cap : ∀ (i : Nat) (c : Nat × Nat), caps[i]? = some c → g[c.1]? = some (.cells #[vI i] 3) ∧ g[c.2]? = some (.cells #[.string (pieceF image i)] 9) ∧ h.size ≤ c.1 ∧ h.size ≤ c.2 := fun i c hi => by
    obtain ⟨t1, t2, t3, t4⟩ := T.cap i c hi
    exact ⟨K _ _ _ t1 (by decide), K _ _ _ t2 (by decide), t3, t4⟩
  have nB : ∀ {x : Nat}, h.size ≤ x → ¬ B x := fun hx hb => by have := D.lt _ hb; omega
  have hbl := bodyL_length H image
  have call : ∀ (i : Nat) (hi : i < n + 3) (f : DS → DS × Int), (stepsF H image)[i]? = some f → ∀ (hr : Hp) (τ : DS), WkS B g d hr τ → τ.pend.length ≤ 8796093022208 →
      ∃ v, (caps.map (capV a b) ++ [flushV d, headV a b b2, flushV d])[i]? = some v ∧ ∃ fn_ fst_ cap_, v = Value.func (.func fn_) fst_ cap_ ∧ bodied Tryz.prog fn_ = true ∧
        CallsH Tryz.prog fn_ (fst_.toList ++ [] ++ cap_.toList).toArray hr fun e hs => WkS B g d hs (f τ).1 ∧ e = .returned (vZ (f τ).2) := by
    intro i hi f hf hr τ W hpl
    by_cases hin : i < n
    · rw [hn] at hin
      rw [steps_put hin] at hf
      cases hf
      have hlen : i < caps.length := by rw [T.len, hn]; exact hin
      obtain ⟨c, hc⟩ : ∃ c, caps[i]? = some c := ⟨_, List.getElem?_eq_getElem hlen⟩
      obtain ⟨t1, t2, t3, t4⟩ := cap i c hc
      refine ⟨capV a b c, by rw [List.getElem?_append_left (by simpa using hlen), List.getElem?_map, hc]; rfl, _, _, _, rfl, by kernel_rfl, ?_⟩
      have hps : (pieceF image i).size ≤ 9223372036854775807 := by unfold pieceF; rw [ByteArray.size_extract]; omega
      exact put1_c (s := pieceF image i) hhg h0 W hpl r6 (by omega) (by omega) (by omega) (by omega) hps ca cb t1 t2 (nB (by omega)) (nB (by omega)) (nB t3) (nB t4)
    · obtain ⟨j, rfl⟩ : ∃ j, i = n + j := ⟨i - n, by omega⟩
      rw [hn, steps_end] at hf
      have e1 : (caps.map (capV a b) ++ [flushV d, headV a b b2, flushV d])[n + j]? = [flushV d, headV a b b2, flushV d][j]? := by
        rw [List.getElem?_append_right (by rw [List.length_map, T.len]; omega), List.length_map, T.len, Nat.add_sub_cancel_left]
      rw [e1]
      match j, hi with
      | 0, _ => cases hf; exact ⟨_, rfl, _, _, _, rfl, by kernel_rfl, W.flush⟩
      | 1, _ => cases hf; exact ⟨_, rfl, _, _, _, rfl, by kernel_rfl, put2_c (s := tx (bodyL H image)) hhg h0 W hpl r6 (by omega) (by rw [tx_size, hbl]; decide) ca cb cc (nB (by omega)) (nB (by omega)) (nB (by omega))⟩
      | 2, _ => cases hf; exact ⟨_, rfl, _, _, _, rfl, by kernel_rfl, W.flush⟩
  refine ⟨fun l hr => ∃ (i : Nat) (τ : DS), l = [vI i] ∧ i ≤ n + 3 ∧ WkS B g d hr τ ∧ τ.pend.length ≤ σ.pend.length + i ∧ runL (stepsF H image) σ = runL ((stepsF H image).drop i) τ,
    fun l _ => (n + 3 - numAt l 0).toNat, ⟨0, σ, rfl, Nat.zero_le _, WkS.start Dg, Nat.le_refl _, rfl⟩, ?_⟩
  rintro x hr ⟨i, τ, hl', hi, W, hpl, hrun⟩
  cases hl'
  refine ⟨fun hlt' => ?_, fun hlt' => ?_⟩
  · have hlt' : i < n + 3 := by have := of_decide_eq_true hlt'; omega
    have hist : i < (stepsF H image).length := by omega
    obtain ⟨f, hf⟩ : ∃ f, (stepsF H image)[i]? = some f := ⟨_, List.getElem?_eq_getElem hist⟩
    obtain ⟨v, hv, fn, fst, cp, ev, hbod, hcall⟩ := call i hlt' f hf hr τ W (by omega)
    have hfe : (stepsF H image)[i] = f := by rw [List.getElem?_eq_getElem hist] at hf; exact Option.some.inj hf
    have hdrop : (stepsF H image).drop i = f :: (stepsF H image).drop (i + 1) := by rw [List.drop_eq_getElem_cons hist, hfe]
    have hsegr : Seg hr p3 (n + 3) (caps.map (capV a b) ++ [flushV d, headV a b b2, flushV d]) := by
      refine sg.keep fun bb oo hp hn0 => ?_
      have hbb : (Value.slice p3 (n + 3) c3).ownBlock = some bb := by rw [hp]; rfl
      have := o3.lt hbb
      exact W.old this.2 (nB this.1)
    obtain ⟨bb, oo, hp, hcell⟩ := hsegr.at (i := i) (by have := hsegr.1; omega)
    have hve : (caps.map (capV a b) ++ [flushV d, headV a b b2, flushV d])[i]'(by have := hsegr.1; omega) = v := by
      have := hv
      rw [List.getElem?_eq_getElem (by have := hsegr.1; omega)] at this
      exact Option.some.inj this
    rw [hve] at hcell
    refine ⟨bb, oo, hp, by omega, by omega, v, hcell, fn, fst, cp, ev, hbod, hcall.mono ?_⟩
    rintro e hs ⟨W', rfl⟩
    refine ⟨_, rfl, fun hne => ?_, fun hz => ?_⟩
    · have hne : (f τ).2 ≠ 0 := of_decide_eq_true hne
      have er : runL (stepsF H image) σ = f τ := by rw [hrun, hdrop, runL, if_pos hne]
      rw [er]
      obtain ⟨k1, k2⟩ := W'.done xg D.lt
      exact ⟨k1, k2, rfl⟩
    · have hz : ¬ (f τ).2 ≠ 0 := of_decide_eq_false hz
      have hpm := steps_more (List.mem_of_getElem? hf) τ
      refine ⟨_, incI (by omega), ⟨i + 1, _, rfl, hlt', W', by omega, ?_⟩, by simp only [numAt]; omega⟩
      rw [hrun, hdrop, runL, if_neg hz]
  · have hlt' : i = n + 3 := by have := of_decide_eq_false hlt'; omega
    have er : runL (stepsF H image) σ = (τ, 0) := by rw [hrun, List.drop_of_length_le (by omega)]; rfl
    rw [er]
    obtain ⟨k1, k2⟩ := W.done xg D.lt
    exact ⟨k1, k2, rfl⟩

theorem writeH_nil (H : Hd) (image : ByteArray) (h : Hp) : CallsH Tryz.prog 14 #[.pointer none, .agg (hdV H).toArray, .string image] h fun e h' => Ext h h' ∧ e = .returned (vZ 1) := by
  refine V14 _ _ _ _ _ _ _ h _ ?_
  intro a h1 ha e1
  have x1 : Ext h h1 := by rw [e1]; exact Ext.push _ _
  have ca1 : h1[a]? = some (.cells #[.pointer none] 26) := by rw [e1, ha]; exact push_last
  clear e1
  intro b h2 hb e2
  have x2 : Ext h1 h2 := by rw [e2]; exact Ext.push _ _
  have ca2 := (x2.old a (Array.getElem?_eq_some_iff.1 ca1).1).trans ca1
  refine ⟨fun _ _ => False, ⟨_, cellsAt_one (cellH_at ca2), true, eqv_nil uPD, fun _ => ⟨x1.trans x2, rfl⟩, fun hf => (by cases hf)⟩, fun _ hf => hf.elim⟩

end Go.Vc
