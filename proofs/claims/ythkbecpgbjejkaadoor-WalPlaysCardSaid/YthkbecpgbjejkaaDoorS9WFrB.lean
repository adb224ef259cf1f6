/- Frames: how one is sealed. -/
import Derived.Test.YthkbecpgbjejkaaDoorS9WFrA
import Derived.Test.YthkbecpgbjejkaaDoorS9WDkD
set_option maxRecDepth 10000
namespace Go.Vc
open Go Go.Proofs

/-- Some bytes laid over others. -/
def layL (L : List UInt8) (o : Nat) (M : List UInt8) : List UInt8 := L.take o ++ M ++ L.drop (o + M.length)

theorem layL_length {L : List UInt8} {o : Nat} {M : List UInt8} (h : o + M.length ≤ L.length) : (layL L o M).length = L.length := by
  unfold layL; rw [List.length_append, List.length_append, List.length_take, List.length_drop]; omega

theorem layL_zero {pre M : List UInt8} {n o : Nat} (h : M.length ≤ n) (ho : o = pre.length) : layL (pre ++ List.replicate n 0) o M = (pre ++ M) ++ List.replicate (n - M.length) 0 := by
  subst ho
  unfold layL
  rw [List.take_left, List.drop_append, List.drop_of_length_le (by omega), List.nil_append, List.drop_replicate]
  congr 2; omega

theorem layL_cons {L M : List UInt8} {p : Nat} {c : UInt8} (h : p + 1 + M.length ≤ L.length) : layL (layL L (p + 1) M) p [c] = layL L p (c :: M) := by
  unfold layL
  have e1 : (L.take (p + 1) ++ M ++ L.drop (p + 1 + M.length)).take p = L.take p := by
    rw [List.append_assoc, List.take_append_of_le_length (by rw [List.length_take]; omega), List.take_take, Nat.min_eq_left (by omega)]
  have e2 : (L.take (p + 1) ++ M ++ L.drop (p + 1 + M.length)).drop (p + 1) = M ++ L.drop (p + 1 + M.length) := by
    rw [List.append_assoc, List.drop_append, List.drop_of_length_le (by rw [List.length_take]; omega), List.nil_append, List.length_take, Nat.min_eq_left (by omega), Nat.sub_self, List.drop_zero]
  rw [show p + [c].length = p + 1 from rfl, e1, e2, List.length_cons, show p + (M.length + 1) = p + 1 + M.length by omega]
  simp

/-- A row of bytes in a block of its own. -/
def ArrAt (h : Hp) (b : Nat) (L : List UInt8) : Prop := h[b]? = some (.cells (byteVs L).toArray 154)

theorem byteVs_length (L : List UInt8) : (byteVs L).length = L.length := by simp [byteVs]
theorem byteVs_one (L : List UInt8) : ∀ v ∈ byteVs L, v.oneCell' = true := by
  intro v hv
  obtain ⟨_, _, rfl⟩ := List.mem_map.1 hv
  rfl

theorem layC_bytes {L M : List UInt8} {o : Nat} (h : o + M.length ≤ L.length) : layC (byteVs L).toArray o (byteVs M) = (byteVs (layL L o M)).toArray := by
  apply Array.ext_getElem?
  intro k
  by_cases hk : k < L.length
  · rw [layC_get (by simpa [byteVs] using hk), byteVs_length]
    have e : byteVs (layL L o M) = (byteVs L).take o ++ byteVs M ++ (byteVs L).drop (o + M.length) := by simp [layL, byteVs, List.map_append, List.map_take, List.map_drop]
    simp only [List.getElem?_toArray]
    rw [e]
    by_cases h1 : k < o
    · rw [if_neg (by omega), List.append_assoc, List.getElem?_append_left (by rw [List.length_take, byteVs_length]; omega), List.getElem?_take_of_lt h1]
    · by_cases h2 : k < o + M.length
      · rw [if_pos ⟨by omega, h2⟩, List.append_assoc, List.getElem?_append_right (by rw [List.length_take, byteVs_length]; omega), List.length_take, byteVs_length, Nat.min_eq_left (by omega), List.getElem?_append_left (by rw [byteVs_length]; omega)]
      · rw [if_neg (by omega), List.getElem?_append_right (by rw [List.length_append, List.length_take, byteVs_length, byteVs_length]; omega), List.getElem?_drop, List.length_append, List.length_take, byteVs_length, byteVs_length, Nat.min_eq_left (by omega)]
        congr 1; omega
  · rw [Array.getElem?_eq_none (by rw [layC_size]; simp [byteVs]; omega), Array.getElem?_eq_none (by simp only [List.size_toArray, byteVs_length]; rw [layL_length h]; omega)]

theorem ArrAt.set {h : Hp} {b : Nat} {L M : List UInt8} (a : ArrAt h b L) {o : Nat} (ho : o + M.length ≤ L.length) : wrAt h b o M.length ∧ ArrAt (setsH h b o (byteVs M)) b (layL L o M) := by
  refine ⟨wrAt_of a (by simpa [byteVs] using ho) (.inl (Nat.zero_le _)), ?_⟩
  unfold ArrAt
  rw [setsH_at a, layC_bytes ho]

theorem ArrAt.put {h : Hp} {b : Nat} {L : List UInt8} (a : ArrAt h b L) {i : Nat} (hi : i < L.length) (c : UInt8) : wrAt h b (0 + Int.toNat (i : Int) * 1) 1 ∧ ArrAt (setsH h b (0 + Int.toNat (i : Int) * 1) [vB c]) b (layL L i [c]) := by
  rw [Int.toNat_natCast, Nat.zero_add, Nat.mul_one]
  exact a.set (M := [c]) hi

theorem ArrAt.seg {h : Hp} {b : Nat} {L : List UInt8} (a : ArrAt h b L) {o n : Nat} (ho : o + n ≤ L.length) : Seg h (some ⟨b, o, none⟩) n (byteVs ((L.drop o).take n)) := by
  refine ⟨by rw [byteVs_length, List.length_take, List.length_drop]; omega, .inr ⟨b, o, rfl, cellsAt_of a fun j hj => ?_⟩⟩
  have hj' : j < n := by rw [byteVs_length, List.length_take] at hj; omega
  rw [List.getElem?_toArray]
  simp only [byteVs, List.getElem?_map, List.getElem_map, List.getElem_take, List.getElem_drop]
  rw [List.getElem?_eq_getElem (by omega)]; rfl

theorem semH_copyText {P : Program} {dT sT ty elem : TypeId} (hu : P.underlying dT = some (.slice elem)) (hz : (P.info? elem).map (·.size) = some 1) {h : Hp} {b o n c : Nat} {s : ByteArray} (hle : s.size ≤ n) (hw : wrAt h b o s.size) {R : Value → Hp → Prop}
    (hR : R (.int .i64 (s.size : Int)) (setsH h b o (byteVs (bl s)))) : SemH P (Builtin.copy_ #[dT, sT] ty #[.slice (some ⟨b, o, none⟩) n c, .string s]) h R := by
  intro w hw'
  subst hw'
  have hl : (byteVs (bl s)).length = s.size := by rw [byteVs_length, bl_length]
  obtain ⟨w', hrun, hrest, hheap⟩ := run_stores (P := P) b (byteVs (bl s)) o 0 w (by rw [hl]; exact hw) (byteVs_one _)
  refine ⟨.int .i64 (s.size : Int), w', ?_, hrest, by rw [hheap]; exact hR⟩
  cases hq : P.info? elem with
  | none => simp [hq] at hz
  | some i =>
    have hmin : Nat.min s.size n = s.size := Nat.min_eq_left hle
    have htk : List.take s.size (List.map (fun b : UInt8 => Value.int IntKind.u8 (b.toNat : Int)) s.data.toList) = byteVs (bl s) := by
      rw [List.take_of_length_le (by simp)]
      rfl
    simp [Builtin.copy_, run_underlying hu, Builtin.lenOf, Builtin.firstCells, sizeOf, typeInfo, hq, hmin]
    rw [htk, hrun]
    simp [Result.andThen, goInt]

theorem wrap8n (n : Nat) : IntKind.u8.wrap (n : Int) = ((UInt8.ofNat n).toNat : Int) := by rw [wrapU8, u8_nat]; omega
theorem wrap8z {n : Int} (h : 0 ≤ n) : IntKind.u8.wrap n = ((UInt8.ofNat n.toNat).toNat : Int) := by rw [← wrap8n]; congr 1; omega
theorem shr64n (n : Nat) : shrI .u64 (n : Int) (8 : Int) = ((n / 256 : Nat) : Int) := by
  unfold shrI
  rw [show (2 : Int) ^ min (8 : Int).toNat IntKind.u64.bits = ((256 : Nat) : Int) from rfl]
  exact (Int.ofNat_fdiv _ _).symm
theorem shr32n (n i : Nat) (hi : i ≤ 4) : shrI .u32 (n : Int) ((8 * i : Nat) : Int) = ((n / 256 ^ i : Nat) : Int) := by
  unfold shrI
  have h8 : (256 : Nat) ^ i = 2 ^ (8 * i) := by rw [show 256 = 2 ^ 8 from rfl, ← Nat.pow_mul]
  rw [Int.toNat_natCast, show IntKind.u32.bits = 32 from rfl, Nat.min_eq_left (by omega), h8, show (2 : Int) ^ (8 * i) = ((2 ^ (8 * i) : Nat) : Int) by simp]
  exact (Int.ofNat_fdiv _ _).symm

theorem beL_cons : ∀ (j n : Nat), beL (j + 1) n = UInt8.ofNat (n / 256 ^ j) :: beL j n
  | 0, n => by simp [beL]
  | j + 1, n => by
    rw [beL, beL_cons j (n / 256), Nat.div_div_eq_div_mul, Nat.pow_succ, Nat.mul_comm 256]
    rfl

/-- frame.lay -/
theorem lay_c {h : Hp} {b : Nat} {L : List UInt8} (a : ArrAt h b L) {o k : Nat} (c n : Nat) (ho : o + k ≤ L.length) (hk : k ≤ 512) :
    CallsH Tryd.prog 94 #[.slice (some ⟨b, o, none⟩) k c, vU n] h fun e h' => Same (fun x => x = b) h h' ∧ h'.size = h.size ∧ ArrAt h' b (layL L o (beL k n)) ∧ e = .returned (.tuple #[]) := by
  refine V94 _ _ _ _ h _ ⟨(k : Int) - 1, wrapI64 (by omega) (by omega), fun l hq => ∃ j : Nat, j ≤ k ∧ l = [vU (n / 256 ^ j), vZ ((k : Int) - j - 1)] ∧ Same (fun x => x = b) h hq ∧ hq.size = h.size ∧ ArrAt hq b (layL L (o + (k - j)) (beL j n)),
    fun l _ => (numAt l 1 + 1).toNat, ⟨0, Nat.zero_le _, by simp, Same.refl _ _, rfl, ?_⟩, ?_⟩
  · have : layL L (o + (k - 0)) (beL 0 n) = L := by simp [layL, beL]
    rw [this]; exact a
  rintro m x hq ⟨j, hj, hl, hs, hsz, ha⟩
  cases hl
  refine ⟨fun hc => ?_, fun hc => ?_⟩
  · have hc : j < k := by simp at hc; omega
    have hlen : (layL L (o + (k - j)) (beL j n)).length = L.length := layL_length (by rw [beL_length]; omega)
    obtain ⟨w, s⟩ := ha.set (o := o + (k - (j + 1))) (M := [UInt8.ofNat (n / 256 ^ j)]) (by rw [hlen, List.length_singleton]; omega)
    have hi : o + Int.toNat ((k : Int) - j - 1) * 1 = o + (k - (j + 1)) := by omega
    refine ⟨_, wrap8n _, b, o, rfl, by omega, by omega, rfl, by rw [hi]; exact w, ?_⟩
    rintro h1 rfl
    rw [hi]
    refine ⟨by omega, _, shr64n _, _, wrapI64 (by omega) (by omega), ⟨j + 1, hc, ?_, hs.trans (setsH_same (B := fun x => x = b) rfl) fun _ h _ => h, by rw [setsH_size]; exact hsz, ?_⟩, ?_⟩
    · rw [Nat.div_div_eq_div_mul, ← Nat.pow_succ, show (k : Int) - j - 1 - 1 = (k : Int) - (j + 1 : Nat) - 1 by omega]
    · have e := layL_cons (L := L) (M := beL j n) (p := o + (k - (j + 1))) (c := UInt8.ofNat (n / 256 ^ j)) (by rw [beL_length]; omega)
      rw [show o + (k - (j + 1)) + 1 = o + (k - j) by omega] at e
      rw [beL_cons, ← e]
      exact s
    · simp only [numAt]; omega
  · have hc : j = k := by simp at hc; omega
    subst hc
    rw [Nat.sub_self, Nat.add_zero] at ha
    exact ⟨hs, hsz, ha, rfl⟩

/-! ## A frame's bytes -/

def midL (f : Frm) : List UInt8 := beL 1 f.kind.toNat ++ (beL 8 f.number ++ (beL 4 f.index.toNat ++ (beL 2 f.body.size ++ (bl f.body ++ List.replicate (491 - f.body.size) 0))))
def leL (x : W32) : List UInt8 := (List.range 4).map fun i => UInt8.ofNat (x.toNat / 256 ^ i)
def sumL (l : List UInt8) : W32 := sumB [tx l]
def sealL (f : Frm) (m : UInt8) : List UInt8 := m :: (midL f ++ (leL (sumL (midL f)) ++ [m]))
def sealF (f : Frm) (mark : Int) : ByteArray × Int :=
  if mark < 0 ∨ 255 < mark then (⟨#[]⟩, 1) else if f.wrong ≠ 0 then (⟨#[]⟩, f.wrong) else (tx (sealL f (UInt8.ofNat mark.toNat)), 0)

theorem leL_length (x : W32) : (leL x).length = 4 := by simp [leL]
theorem midL_length {f : Frm} (h : f.body.size ≤ 491) : (midL f).length = 506 := by
  simp only [midL, List.length_append, beL_length, bl_length, List.length_replicate]; omega

theorem Frm.right_of {f : Frm} (h : f.wrong = 0) : 1 ≤ f.kind ∧ f.kind ≤ 255 ∧ 0 ≤ f.index ∧ f.index ≤ 2147483647 ∧ f.body.size ≤ 491 := by
  unfold Frm.wrong at h
  split at h
  · cases h
  · split at h
    · cases h
    · omega

theorem zerosArr : zeros Tryd.prog 154 = (byteVs (List.replicate 512 0)).toArray := by kernel_rfl
theorem infoArr : ∃ i z, Tryd.prog.info? 154 = some i ∧ i.zero = some z := by
  have : ((Tryd.prog.info? 154).bind (·.zero)).isSome = true := by kernel_rfl
  obtain ⟨z, hz⟩ := Option.isSome_iff_exists.1 this
  obtain ⟨i, hi, hz⟩ := Option.bind_eq_some_iff.1 hz
  exact ⟨i, z, hi, hz⟩
theorem rowSs : RowT Tryd.prog 32 9 1 16 := RowT.of (by kernel_rfl)
theorem szB : (Tryd.prog.info? 5).map (·.size) = some 1 := by kernel_rfl

/-- What is written so far, with noughts behind. -/
structure St (h : Hp) (b : Nat) (c : Obj) (hq : Hp) (pre : List UInt8) : Prop where
  arr : ArrAt hq b (pre ++ List.replicate (512 - pre.length) 0)
  x : Ext h hq
  f : hq[h.size]? = some c
  le : pre.length ≤ 512

theorem St.lay {h : Hp} {b : Nat} {c : Obj} {hq hr : Hp} {pre M : List UInt8} (s : St h b c hq pre) (hb : h.size < b) (hl : pre.length + M.length ≤ 512) (y : Same (fun x => x = b) hq hr)
    (a : ArrAt hr b (layL (pre ++ List.replicate (512 - pre.length) 0) pre.length M)) : St h b c hr (pre ++ M) := by
  have hlt := (Array.getElem?_eq_some_iff.1 s.f).1
  refine ⟨?_, s.x.over y fun x hx => by omega, (y.old h.size hlt (by omega)).trans s.f, by rw [List.length_append]; exact hl⟩
  rw [layL_zero (by omega) rfl] at a
  rw [List.length_append, ← Nat.sub_sub]
  exact a

theorem St.put {h : Hp} {b : Nat} {c : Obj} {hq : Hp} {pre : List UInt8} (s : St h b c hq pre) (hb : h.size < b) (i : Nat) (hi : pre.length = i) (hl : i < 512) (v : UInt8) :
    wrAt hq b (0 + Int.toNat (i : Int) * 1) 1 ∧ St h b c (setsH hq b (0 + Int.toNat (i : Int) * 1) [vB v]) (pre ++ [v]) := by
  subst hi
  obtain ⟨w, a⟩ := s.arr.put (i := pre.length) (by rw [List.length_append, List.length_replicate]; omega) v
  exact ⟨w, s.lay hb (by rw [List.length_singleton]; omega) (setsH_same (B := fun x => x = b) rfl) a⟩

theorem cutP_arr {b l : Nat} (hl : l < 512) : cutP (some ⟨b, 0, none⟩) 512 l 1 = some ⟨b, l, none⟩ := by
  unfold cutP
  by_cases h0 : l = 0
  · subst h0; simp [Addr.add]
  · rw [if_neg (by omega)]
    simp [Addr.add, h0]

theorem tx_bl (s : ByteArray) : tx (bl s) = s := bl_inj (bl_tx _)

set_option maxHeartbeats 1000000 in
/-- frame.Seal -/
theorem seal_c (f : Frm) (_ : f.Ok) (mark : Int) (h : Hp) (hh : Halves h) : CallsH Tryd.prog 83 #[.agg (frmV f).toArray, vZ mark] h fun e h' => Ext h h' ∧ e = .returned (.tuple #[.string (sealF f mark).1, vZ (sealF f mark).2]) := by
  refine V83 _ _ _ _ _ h _ ?_
  intro b h1 hb e1
  have x1 : Ext h h1 := by rw [e1]; exact Ext.push _ _
  have c1 : h1[h.size]? = some (.cells (frmV f).toArray 94) := by rw [e1]; exact push_last
  clear e1
  subst hb
  refine ⟨fun l hq => l = [] ∧ hq = h1 ∧ 0 ≤ mark ∧ mark ≤ 255, ⟨decide (mark < 0 ∨ 255 < mark), ⟨fun hc => ⟨rfl, ?_⟩, fun hc => ⟨rfl, ?_⟩⟩, fun hB => ⟨x1, ?_⟩, fun hB => ?_⟩, ?_⟩
  · have hc : mark < 0 := by simpa using hc
    simp [hc]
  · have hc : ¬ mark < 0 := by simpa using hc
    simp [hc]
  · unfold sealF
    rw [if_pos (of_decide_eq_true hB)]
  · have := of_decide_eq_false hB
    exact ⟨rfl, rfl, by omega, by omega⟩
  rintro h2 ⟨_, rfl, hm0, hm1⟩
  refine ⟨_, _, _, _, cellsAt_all (vs := frmV f) c1, (refused_c f h2).mono ?_⟩
  rintro e h3 ⟨x3, rfl⟩
  have c3 := (x3.old h.size (Array.getElem?_eq_some_iff.1 c1).1).trans c1
  refine ⟨_, rfl, fun hw => ⟨x1.trans x3, ?_⟩, fun hw => ?_⟩
  · unfold sealF
    rw [if_neg (by omega), if_pos (by simpa using hw)]
  have hw0 : f.wrong = 0 := by simpa using hw
  obtain ⟨hk0, hk1, hi0, hi1, hb⟩ := f.right_of hw0
  obtain ⟨m, hm⟩ : ∃ m, m = UInt8.ofNat mark.toNat := ⟨_, rfl⟩
  have hres : sealF f mark = (tx (sealL f m), 0) := by
    unfold sealF
    rw [if_neg (by omega), if_neg (by simpa using hw0), hm]
  rw [hres]
  intro b1 h4 hb1 e4
  have x4 : Ext h3 h4 := by rw [e4]; exact Ext.push _ _
  have a4 : ArrAt h4 b1 (List.replicate 512 0) := by rw [e4, hb1, zerosArr]; exact push_last
  have hlt := (Array.getElem?_eq_some_iff.1 c3).1
  have hbb : h.size < b1 := by rw [hb1]; exact hlt
  clear e4
  have s0 : St h b1 (.cells (frmV f).toArray 94) h4 [] := ⟨by simpa using a4, (x1.trans x3).trans x4, (x4.old h.size hlt).trans c3, by simp⟩
  obtain ⟨w1, s1⟩ := s0.put hbb 0 rfl (by decide) m
  refine ⟨infoArr, _, by rw [wrap8z hm0, ← hm], by decide, by decide, rfl, w1, ?_⟩
  intro h5 e5
  have s1 : St h b1 (.cells (frmV f).toArray 94) h5 ([] ++ [m]) := by rw [e5]; exact s1
  clear e5
  obtain ⟨w2, s2⟩ := s1.put hbb 1 rfl (by decide) (UInt8.ofNat f.kind.toNat)
  refine ⟨f.kind, cellsAt_one (cellH_at s1.f), _, wrap8z (by omega), by decide, by decide, rfl, w2, ?_⟩
  intro h6 e6
  have s2 : St h b1 (.cells (frmV f).toArray 94) h6 ([] ++ [m] ++ [UInt8.ofNat f.kind.toNat]) := by rw [e6]; exact s2
  clear e6
  refine ⟨2, rfl, 10, rfl, by decide, by decide, _, cutP_arr (by decide), _, cellsAt_one (cellH_at s2.f), (lay_c s2.arr (o := 2) (k := 8) _ f.number (by simp) (by decide)).mono ?_⟩
  rintro e h7 ⟨y7, _, a7, rfl⟩
  have s7 := s2.lay (M := beL 8 f.number) hbb (by rw [beL_length]; simp) y7 a7
  have hix : IntKind.u64.wrap f.index = ((f.index.toNat : Nat) : Int) := by
    rw [wrapU64]; omega
  refine ⟨rfl, 10, rfl, 14, rfl, by decide, by decide, _, cutP_arr (by decide), _, cellsAt_one (cellH_at s7.f), _, hix, (lay_c s7.arr (o := 10) (k := 4) _ f.index.toNat (by simp [beL_length]) (by decide)).mono ?_⟩
  rintro e h8 ⟨y8, _, a8, rfl⟩
  have s8 := s7.lay (M := beL 4 f.index.toNat) hbb (by rw [beL_length]; simp [beL_length]) y8 (by simpa [beL_length] using a8)
  refine ⟨rfl, 14, rfl, 16, rfl, by decide, by decide, _, cutP_arr (by decide), f.body, cellsAt_one (cellH_at s8.f), _, wrapU (by omega), (lay_c s8.arr (o := 14) (k := 2) _ f.body.size (by simp [beL_length]) (by decide)).mono ?_⟩
  rintro e h9 ⟨y9, _, a9, rfl⟩
  have s9 := s8.lay (M := beL 2 f.body.size) hbb (by rw [beL_length]; simp [beL_length]) y9 (by simpa [beL_length] using a9)
  have hl9 : ([] ++ [m] ++ [UInt8.ofNat f.kind.toNat] ++ beL 8 f.number ++ beL 4 f.index.toNat ++ beL 2 f.body.size).length = 16 := by simp [beL_length]
  obtain ⟨w10, a10⟩ := s9.arr.set (o := 16) (M := bl f.body) (by rw [List.length_append, List.length_replicate, hl9, bl_length]; omega)
  refine ⟨rfl, 16, rfl, by decide, by decide, _, cutP_arr (by decide), f.body, cellsAt_one (cellH_at s9.f), semH_copyText uBs szB (n := 512 - 16) (by omega) (by rw [bl_length] at w10; exact w10) ⟨_, rfl, ?_⟩⟩
  have s10 := s9.lay (hr := setsH h9 b1 16 (byteVs (bl f.body))) (M := bl f.body) hbb (by rw [hl9, bl_length]; omega) (setsH_same (B := fun x => x = b1) rfl) (by rw [hl9]; exact a10)
  generalize setsH h9 b1 16 (byteVs (bl f.body)) = h10 at s10
  obtain ⟨pre, hpre⟩ : ∃ pre, pre = [] ++ [m] ++ [UInt8.ofNat f.kind.toNat] ++ beL 8 f.number ++ beL 4 f.index.toNat ++ beL 2 f.body.size ++ bl f.body := ⟨_, rfl⟩
  rw [← hpre] at s10
  have hprel : pre.length = 16 + f.body.size := by rw [hpre, List.length_append, hl9, bl_length]
  have hpz : pre ++ List.replicate (491 - f.body.size) 0 = m :: midL f := by
    rw [hpre]
    simp [midL, beL]
  have hall : pre ++ List.replicate (512 - pre.length) 0 = (m :: midL f) ++ List.replicate 5 0 := by
    rw [← hpz, List.append_assoc, List.replicate_append_replicate, hprel]
    congr 2; omega
  have sx : St h b1 (.cells (frmV f).toArray 94) h10 (m :: midL f) := ⟨by have := s10.arr; rw [hall] at this; rw [List.length_cons, midL_length hb]; exact this, s10.x, s10.f, by rw [List.length_cons, midL_length hb]; decide⟩
  clear hall hpz hprel hpre s10 s9 s8 s7 s2 s1 s0 a4 a7 a8 a9 a10 w10 w1 w2
  have hseg1 := sx.arr.seg (o := 1) (n := 506) (by rw [List.length_append, List.length_replicate, List.length_cons, midL_length hb]; decide)
  have hmid : (((m :: midL f) ++ List.replicate (512 - (m :: midL f).length) 0).drop 1).take 506 = midL f := by
    rw [List.cons_append, List.drop_succ_cons, List.drop_zero, List.take_append_of_le_length (by rw [midL_length hb]; exact Nat.le_refl _), List.take_of_length_le (by rw [midL_length hb]; exact Nat.le_refl _)]
  rw [hmid] at hseg1
  refine ⟨1, rfl, 507, rfl, by decide, by decide, _, cutP_arr (by decide), semH_toText uBs uB uStr (t := tx (midL f)) (n := 507 - 1) (by rw [show (tx (midL f)).data.toList = midL f from bl_tx _]; exact hseg1) ⟨_, rfl, ?_⟩⟩
  refine semH_build rowSs (vs := [.string (tx (midL f))]) rfl rfl (by simp) (by simp) (by simp [Value.oneCell']) ⟨_, _, _, rfl, ?_⟩
  have x11 : Ext h10 (h10.push (.cells [Value.string (tx (midL f))].toArray 9)) := Ext.push _ _
  have g11 : Seg (h10.push (.cells [Value.string (tx (midL f))].toArray 9)) (some ⟨h10.size, 0, none⟩) 1 ([tx (midL f)].map Value.string) := ⟨rfl, .inr ⟨_, _, rfl, cellsAt_all push_last⟩⟩
  generalize (h10.push (.cells [Value.string (tx (midL f))].toArray 9)) = h11 at x11 g11
  have hb10 := (Array.getElem?_eq_some_iff.1 (show h10[b1]? = _ from sx.arr)).1
  have s11 : St h b1 (.cells (frmV f).toArray 94) h11 (m :: midL f) := ⟨(x11.old b1 hb10).trans sx.arr, sx.x.trans x11, (x11.old h.size (by omega)).trans sx.f, sx.le⟩
  refine (sum_c [tx (midL f)] (by intro y hy; simp at hy; subst hy; rw [tx_size, midL_length hb]; decide) h11 (hh.ext s11.x) g11 (by decide)).mono ?_
  rintro e h12 ⟨rfl, rfl⟩
  have hml : (m :: midL f).length = 507 := by rw [List.length_cons, midL_length hb]
  refine ⟨_, rfl, fun l hq => ∃ i : Nat, i ≤ 4 ∧ l = [vI i] ∧ St h b1 (.cells (frmV f).toArray 94) hq ((m :: midL f) ++ (leL (sumL (midL f))).take i), fun l _ => (4 - numAt l 0).toNat, ⟨0, by decide, rfl, by simpa using s11⟩, ?_⟩
  rintro x hq ⟨i, hi, hl, sq⟩
  cases hl
  have hlen : ((m :: midL f) ++ (leL (sumL (midL f))).take i).length = 507 + i := by rw [List.length_append, hml, List.length_take, leL_length]; omega
  refine ⟨fun hc => ?_, fun hc => ?_⟩
  · have hc : i < 4 := by simp at hc; omega
    obtain ⟨w, s⟩ := sq.put hbb (507 + i) hlen (by omega) (UInt8.ofNat ((sumL (midL f)).toNat / 256 ^ i))
    refine ⟨((507 + i : Nat) : Int), by rw [wrapI64] <;> omega, ((8 * i : Nat) : Int), by rw [wrapI64] <;> omega, by omega, _, shr32n _ i (by omega), _, wrap8n _, by omega, by omega, rfl, w, ?_⟩
    intro h13 e13
    refine ⟨_, incI (by omega), ⟨i + 1, hc, rfl, ?_⟩, by simp only [numAt]; omega⟩
    have e : (leL (sumL (midL f))).take (i + 1) = (leL (sumL (midL f))).take i ++ [UInt8.ofNat ((sumL (midL f)).toNat / 256 ^ i)] := by
      rw [List.take_add_one, List.getElem?_eq_getElem (by rw [leL_length]; exact hc)]
      simp [leL]
    rw [e, ← List.append_assoc, e13]
    exact s
  · have hc : i = 4 := by simp at hc; omega
    subst hc
    rw [List.take_of_length_le (by rw [leL_length]; exact Nat.le_refl _)] at sq hlen
    obtain ⟨w, s⟩ := sq.put hbb 511 hlen (by decide) m
    refine ⟨_, by rw [wrap8z hm0, ← hm], by decide, by decide, rfl, w, ?_⟩
    intro h14 e14
    have s : St h b1 (.cells (frmV f).toArray 94) h14 ((m :: midL f) ++ leL (sumL (midL f)) ++ [m]) := by rw [e14]; exact s
    have hfin : (m :: midL f) ++ leL (sumL (midL f)) ++ [m] = sealL f m := by simp [sealL]
    have hsl : (sealL f m).length = 512 := by rw [← hfin, List.length_append, hlen]; rfl
    rw [hfin] at s
    have sa := s.arr
    rw [hsl, Nat.sub_self, List.replicate_zero, List.append_nil] at sa
    have hseg := sa.seg (o := 0) (n := 512) (by rw [hsl]; decide)
    rw [List.drop_zero, List.take_of_length_le (by rw [hsl]; exact Nat.le_refl _)] at hseg
    exact ⟨by decide, by decide, _, cutP_arr (by decide), semH_toText uBs uB uStr (t := tx (sealL f m)) (n := 512 - 0) (by rw [show (tx (sealL f m)).data.toList = sealL f m from bl_tx _]; exact hseg) ⟨_, rfl, s.x, rfl⟩⟩

end Go.Vc
