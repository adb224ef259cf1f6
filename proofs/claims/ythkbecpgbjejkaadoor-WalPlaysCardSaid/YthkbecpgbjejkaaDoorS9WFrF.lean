/- Frames: Put and Get. -/
import Derived.Test.YthkbecpgbjejkaaDoorS9WFrD
set_option maxRecDepth 10000
namespace Go.Vc
open Go Go.Proofs Go.MapKept

theorem lastOf_mem {n : Nat} : ∀ {l : List (Nat × ByteArray)} {s : ByteArray}, lastOf l n = some s → ∃ x ∈ l, x.2 = s := by
  intro l
  refine snoc_ind (p := fun l => ∀ {s : ByteArray}, lastOf l n = some s → ∃ x ∈ l, x.2 = s) (fun h => by cases h) (fun l a ih => ?_) l
  intro s h
  rw [lastOf_snoc] at h
  split at h
  · cases h; exact ⟨a, by simp, rfl⟩
  · obtain ⟨x, hx, e⟩ := ih h
    exact ⟨x, by simp [hx], e⟩

theorem look_size {σ : DS} (ok : σ.Ok) {n : Nat} (hn : n < σ.safe.length) : (σ.look n).size = 512 := by
  unfold DS.look
  cases h : lastOf σ.pend n with
  | some s =>
    obtain ⟨x, hx, rfl⟩ := lastOf_mem h
    exact (ok.pend x hx).2
  | none =>
    show (σ.safe.getD n ByteArray.empty).size = 512
    rw [List.getD_eq_getElem?_getD, List.getElem?_eq_getElem hn]
    exact ok.size _ (List.getElem_mem hn)

theorem read_size {σ : DS} (ok : σ.Ok) {n : Int} (h : (σ.read n).2.2 = 0) : (σ.read n).2.1.size = 512 := by
  unfold DS.read at h ⊢
  by_cases ha : σ.asked n = 0
  · obtain ⟨_, h0, h1⟩ := DS.asked_zero ha
    rw [if_pos ha]
    exact look_size ok (by omega)
  · rw [if_neg ha] at h
    exact (ha h).elim

theorem read_pend {σ : DS} {n : Int} : (σ.read n).1.pend = σ.pend := by unfold DS.read; split <;> rfl

theorem and255 {n : Nat} (h : n < 256) : andI .i64 (n : Int) (255 : Int) = (n : Int) := by
  unfold andI
  rw [show IntKind.i64.bits = 64 from rfl, BitVec.ofInt_natCast, show BitVec.ofInt 64 255 = BitVec.ofNat 64 255 from rfl, BitVec.toNat_and, BitVec.toNat_ofNat, BitVec.toNat_ofNat, Nat.mod_eq_of_lt (by omega), Nat.mod_eq_of_lt (by decide)]
  have : n &&& 255 = n % 2 ^ 8 := Nat.and_two_pow_sub_one_eq_mod n 8
  rw [this, Nat.mod_eq_of_lt (by omega)]
  exact wrapI64 (by omega) (by omega)

theorem Halves.same {h h' : Hp} {B : Nat → Prop} (x : Halves h) (y : Same B h h') (hB : ¬ B 2) : Halves h' := by
  have hl : 2 < h.size := by
    have := cellsAt_iff.1 x 0 (by decide)
    exact cellH_lt this
  exact cellsAt_congr (y.old 2 hl hB) x

/-- The mark of what is put over some bytes. -/
def markN (s : ByteArray) : Nat := (((bl s).getD 511 0).toNat + 1) % 256
def putF (σ : DS) (n : Int) (f : Frm) : DS × Int :=
  if f.wrong ≠ 0 then (σ, f.wrong) else if (σ.read n).2.2 ≠ 0 then ((σ.read n).1, (σ.read n).2.2) else (σ.read n).1.write n (tx (sealL f (UInt8.ofNat (markN (σ.read n).2.1))))
def getF (σ : DS) (n : Int) : Frm × Int := if (σ.read n).2.2 ≠ 0 then (Frm.no, (σ.read n).2.2) else ((openF (σ.read n).2.1).1, (openF (σ.read n).2.1).2.2)

section
variable {h : Hp} {B : Nat → Prop} {d : Nat} {σ : DS}

/-- frame.Put -/
theorem put_c (D : DiskAt dI h B d σ) (hh : Halves h) (hB : ¬ B 2) (n : Int) (f : Frm) (ok : f.Ok) (hlen : σ.pend.length ≤ 8796093022208) :
    CallsH Tryd.prog 65 #[vP d, vZ n, .agg (frmV f).toArray] h fun e h' => Same B h h' ∧ DiskAt dI h' (GrowB B h h') d (putF σ n f).1 ∧ e = .returned (vZ (putF σ n f).2) := by
  refine V65 _ _ _ _ _ _ h _ ?_
  intro b h1 hb e1
  have x1 : Ext h h1 := by rw [e1]; exact Ext.push _ _
  have c1 : h1[h.size]? = some (.cells (frmV f).toArray 94) := by rw [e1]; exact push_last
  clear e1
  subst hb
  refine ⟨false, eqv_ptr uPD _, fun hf => (by cases hf), fun _ => ⟨_, _, _, _, cellsAt_all (vs := frmV f) c1, (refused_c f h1).mono ?_⟩⟩
  rintro e h2 ⟨x2, rfl⟩
  have x02 := x1.trans x2
  have grow : ∀ {hq : Hp}, Ext h hq → ∀ {τ : DS}, DiskAt dI hq B d τ → DiskAt dI hq (GrowB B h hq) d τ := fun x _ D' => D'.more (fun b hb => .inl hb) (GrowB.lt D.lt x.size)
  refine ⟨_, rfl, fun hw => ⟨x02.same B, ?_, ?_⟩, fun hw => ?_⟩
  · have hw : f.wrong ≠ 0 := by simpa using hw
    unfold putF
    rw [if_pos hw]
    exact grow x02 (D.ext x02)
  · have hw : f.wrong ≠ 0 := by simpa using hw
    unfold putF
    rw [if_pos hw]
  have hw0 : f.wrong = 0 := by simpa using hw
  refine (read_c (D.ext x02) n).mono ?_
  rintro e h3 ⟨y3, z3, D3, rfl⟩
  have y03 := (x02.same B).trans y3 fun _ h _ => h
  refine ⟨_, _, rfl, fun hc => ?_, fun hc => ?_⟩
  · have hc : (σ.read n).2.2 ≠ 0 := by simpa using hc
    have e1 : putF σ n f = ((σ.read n).1, (σ.read n).2.2) := by unfold putF; rw [if_neg (by simpa using hw0), if_pos hc]
    rw [e1]
    exact ⟨y03, D3.more (fun b hb => .inl hb) (GrowB.lt D.lt y03.size), rfl⟩
  have hc0 : (σ.read n).2.2 = 0 := by simpa using hc
  have hsz := read_size D.ok hc0
  have l1 := (Array.getElem?_eq_some_iff.1 c1).1
  have c3 := (y3.old h.size (Nat.lt_of_lt_of_le l1 x2.size) fun hb => by have := D.lt _ hb; omega).trans ((x2.old h.size l1).trans c1)
  have hb8 : ((bl (σ.read n).2.1).getD 511 0).toNat < 256 := ((bl (σ.read n).2.1).getD 511 0).toNat_lt
  have hmk : markN (σ.read n).2.1 < 256 := Nat.mod_lt _ (by decide)
  refine ⟨_, _, _, _, cellsAt_all (vs := frmV f) c3, by decide, _, byteD (i := 511) (by omega), (markN (σ.read n).2.1 : Int), by unfold markN; rw [wrapU8]; omega, _, wrapI64 (by omega) (by omega), _, and255 hmk, (seal_c f ok _ h3 (hh.same y03 hB)).mono ?_⟩
  rintro e h4 ⟨x4, rfl⟩
  have hse : sealF f (markN (σ.read n).2.1 : Int) = (tx (sealL f (UInt8.ofNat (markN (σ.read n).2.1))), 0) := by
    unfold sealF
    rw [if_neg (by omega), if_neg (by simpa using hw0), Int.toNat_natCast]
  rw [hse]
  refine ⟨_, _, rfl, fun hc => (by simp at hc), fun _ => (write_c (D3.ext x4) n _ (by rw [read_pend]; exact hlen)).mono ?_⟩
  rintro e h5 ⟨y5, D5, rfl⟩
  have e1 : putF σ n f = (σ.read n).1.write n (tx (sealL f (UInt8.ofNat (markN (σ.read n).2.1)))) := by unfold putF; rw [if_neg (by simpa using hw0), if_neg (by simpa using hc0)]
  rw [e1]
  have y05 := (y03.trans (x4.same B) fun _ h _ => h).trans y5 fun _ h _ => h
  have s4 := y03.size
  have s4' := x4.size
  refine ⟨_, rfl, y05, D5.more (fun b hb => ?_) (GrowB.lt D.lt y05.size), rfl⟩
  rcases hb with hb | hb
  · exact .inl hb
  · exact .inr ⟨by omega, hb.2⟩

theorem put_nil (n : Int) (f : Frm) : CallsH Tryd.prog 65 #[.pointer none, vZ n, .agg (frmV f).toArray] h fun e h' => Ext h h' ∧ e = .returned (vZ 1) := by
  refine V65 _ _ _ _ _ _ h _ ?_
  intro b h1 hb e1
  refine ⟨true, eqv_nil uPD, fun _ => ⟨by rw [e1]; exact Ext.push _ _, rfl⟩, fun hf => (by cases hf)⟩

/-- frame.Get -/
theorem get_c (D : DiskAt dI h B d σ) (hh : Halves h) (hB : ¬ B 2) (n : Int) :
    CallsH Tryd.prog 43 #[vP d, vZ n] h fun e h' => Same B h h' ∧ DiskAt dI h' B d (σ.read n).1 ∧ e = .returned (.tuple #[.agg (frmV (getF σ n).1).toArray, vZ (getF σ n).2]) := by
  refine V43 _ _ h _ ?_
  intro b h1 hb e1
  have x1 : Ext h h1 := by rw [e1]; exact Ext.push _ _
  have c1 : h1[h.size]? = some (.cells (frmV Frm.no).toArray 94) := by rw [e1, zerosFrame]; exact push_last
  clear e1
  subst hb
  have l1 := (Array.getElem?_eq_some_iff.1 c1).1
  refine ⟨infoFrame, (read_c (D.ext x1) n).mono ?_⟩
  rintro e h2 ⟨y2, z2, D2, rfl⟩
  have c2 := (y2.old h.size l1 fun hb => by have := D.lt _ hb; omega).trans c1
  have y02 := (x1.same B).trans y2 fun _ h _ => h
  have fin : ∀ (hq : Hp) (hr : Hp) (G : Frm), Ext h2 hq → hr = setsH hq h.size 0 (frmV G) → Same B h hr ∧ DiskAt dI hr B d (σ.read n).1 := by
    intro hq hr G xq er
    have y : Same (fun x => x = h.size) hq hr := by rw [er]; exact setsH_same rfl
    exact ⟨(y02.trans (xq.same B) fun _ h _ => h).trans y fun x hx hl => by omega, (D2.ext xq).other y fun b hb e => by have := D.lt _ hb; omega⟩
  refine ⟨_, _, rfl, fun hc => ?_, fun hc => ?_⟩
  · have hc : (σ.read n).2.2 ≠ 0 := by simpa using hc
    have e1 : getF σ n = (Frm.no, (σ.read n).2.2) := by unfold getF; rw [if_pos hc]
    have fs := frm_set c2 Frm.no
    refine ⟨rfl, fs.2.1, fs.2.2.1, ?_⟩
    intro h3 e3
    obtain ⟨f1, f2⟩ := fin h2 h3 Frm.no (Ext.refl _) e3
    refine ⟨_, _, _, _, cellsAt_all (vs := frmV Frm.no) (by rw [e3]; exact fs.2.2.2), f1, f2, by rw [e1]; rfl⟩
  have hc0 : (σ.read n).2.2 = 0 := by simpa using hc
  have e1 : getF σ n = ((openF (σ.read n).2.1).1, (openF (σ.read n).2.1).2.2) := by unfold getF; rw [if_neg (by simpa using hc0)]
  rw [e1]
  refine (open_c (σ.read n).2.1 h2 (hh.same y02 hB)).mono ?_
  rintro e h3 ⟨x3, rfl⟩
  obtain ⟨G, hG⟩ : ∃ G, G = (openF (σ.read n).2.1).1 := ⟨_, rfl⟩
  unfold openV
  rw [← hG]
  refine ⟨_, _, _, _, _, _, rfl, ?_⟩
  intro b1 h4 hb1 e4
  have x4 : Ext h3 h4 := by rw [e4]; exact Ext.push _ _
  have c4 : h4[b1]? = some (.cells (frmV Frm.no).toArray 94) := by rw [e4, hb1, zerosFrame]; exact push_last
  have hs2 := y02.size
  have hs3 := x3.size
  have l2 := (Array.getElem?_eq_some_iff.1 c2).1
  have cc4 := ((x3.trans x4).old h.size l2).trans c2
  clear e4
  have fs := frm_set c4 G
  refine ⟨infoFrame, rfl, fs.2.1, fs.2.2.1, ?_⟩
  intro h5 e5
  have e5 : h5 = setsH h4 b1 0 (frmV G) := by rw [e5]; rfl
  have c5 : h5[b1]? = some (.cells (frmV G).toArray 94) := by rw [e5]; exact fs.2.2.2
  have cc5 : h5[h.size]? = some (.cells (frmV Frm.no).toArray 94) := by rw [e5]; exact (setsH_ne (by omega)).trans cc4
  have x5 : Ext h2 h5 := by rw [e5]; exact (x3.trans x4).over (setsH_same (B := fun x => x = b1) rfl) fun x hx => by omega
  have fs2 := frm_set cc5 G
  refine ⟨_, _, _, _, cellsAt_all (vs := frmV G) c5, rfl, fs2.2.1, fs2.2.2.1, ?_⟩
  intro h6 e6
  obtain ⟨f1, f2⟩ := fin h5 h6 G x5 e6
  exact ⟨_, _, _, _, cellsAt_all (vs := frmV G) (by rw [e6]; exact fs2.2.2.2), f1, f2, rfl⟩

theorem get_nil (n : Int) : CallsH Tryd.prog 43 #[.pointer none, vZ n] h fun e h' => Ext h h' ∧ e = .returned (.tuple #[.agg (frmV Frm.no).toArray, vZ 1]) := by
  refine V43 _ _ h _ ?_
  intro b h1 hb e1
  have x1 : Ext h h1 := by rw [e1]; exact Ext.push _ _
  have c1 : h1[h.size]? = some (.cells (frmV Frm.no).toArray 94) := by rw [e1, zerosFrame]; exact push_last
  clear e1
  subst hb
  refine ⟨infoFrame, (read_nil n).mono ?_⟩
  rintro e h2 ⟨rfl, rfl⟩
  have fs := frm_set c1 Frm.no
  refine ⟨_, _, rfl, fun _ => ⟨rfl, fs.2.1, fs.2.2.1, ?_⟩, fun hc => (by simp at hc)⟩
  intro h3 e3
  refine ⟨_, _, _, _, cellsAt_all (vs := frmV Frm.no) (by rw [e3]; exact fs.2.2.2), ?_, rfl⟩
  rw [e3]
  exact x1.over (setsH_same (B := fun x => x = h.size) rfl) fun x hx => by omega

end

end Go.Vc
