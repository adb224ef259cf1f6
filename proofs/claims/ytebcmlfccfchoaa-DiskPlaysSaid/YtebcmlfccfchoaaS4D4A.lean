/- Contracts of the disk's laws' own functions. -/
import Derived.Test.YtebcmlfccfchoaaS4DkE
set_option maxRecDepth 10000
namespace Go.Vc
open Go Go.Proofs Go.MapKept

theorem tmod_nat (m n : Nat) : Int.tmod (m : Int) (n : Int) = ((m % n : Nat) : Int) := (Int.ofNat_tmod m n).symm

/-- A number counted round. -/
def pickN (c : Int) (n : Nat) : Nat := (if c < 0 then (-(c + 1)).toNat else c.toNat) % n

theorem pickN_lt (c : Int) {n : Nat} (hn : 0 < n) : pickN c n < n := Nat.mod_lt _ hn

theorem pick_c (c : Int) (n : Nat) (hn : 0 < n) (hlo : -9223372036854775808 ≤ c) (hhi : c ≤ 9223372036854775807) (h : Hp) : CallsH Try.prog 12 #[vZ c, vI n] h fun e h' => h' = h ∧ e = .returned (vI (pickN c n)) := by
  have hn0 : (n : Int) ≠ 0 := by omega
  refine V12 _ _ h _ ⟨fun hneg => ?_, fun hpos => ?_⟩
  · have hneg : c < 0 := by simpa using hneg
    obtain ⟨m, hm⟩ : ∃ m : Nat, (m : Int) = -(c + 1) := ⟨(-(c + 1)).toNat, by omega⟩
    refine ⟨c + 1, wrapI64 (by omega) (by omega), (m : Int), by rw [wrapI64] <;> omega, hn0, ((m % n : Nat) : Int), tmod_nat m n, rfl, ?_⟩
    unfold pickN
    rw [if_pos hneg, ← hm, Int.toNat_natCast]
  · have hpos : ¬ c < 0 := by simpa using hpos
    obtain ⟨m, rfl⟩ := Int.eq_ofNat_of_zero_le (show 0 ≤ c by omega)
    refine ⟨hn0, ((m % n : Nat) : Int), tmod_nat m n, rfl, ?_⟩
    unfold pickN
    rw [if_neg hpos, Int.toNat_natCast]

/-- A sector of one byte, with others at its ends. -/
def fullT (b e : UInt8) : ByteArray := ⟨(e :: (List.replicate 510 b ++ [e])).toArray⟩

theorem fullT_size (b e : UInt8) : (fullT b e).size = 512 := by
  show ((e :: (List.replicate 510 b ++ [e])).toArray).size = 512
  rw [List.size_toArray, List.length_cons, List.length_append, List.length_replicate, List.length_singleton]

theorem ends_set (n : Nat) {α : Type} (b e : α) : ((List.replicate (n + 2) b).set 0 e).set (n + 1) e = e :: (List.replicate n b ++ [e]) := by
  rw [List.replicate_succ, List.set_cons_zero, List.set_cons_succ, List.replicate_succ', List.set_append_right _ _ (by simp), List.length_replicate, Nat.sub_self]
  rfl

abbrev vB (b : UInt8) : Value := .int .u8 (b.toNat : Int)

theorem full_c (b e : UInt8) (h : Hp) : CallsH Try.prog 18 #[vB b, vB e] h fun en h' => Ext h h' ∧ en = .returned (.string (fullT b e)) := by
  refine V18 _ _ h _ ?_
  refine semH_make rowB zerosB (l := 512) (c := 512) (Nat.le_refl _) (by omega) (by simp only [maxLen]; omega) ⟨_, _, _, rfl, ?_⟩
  have ho1 : Own (h.push (.cells (Array.replicate 512 (.int .u8 0)) 5)) h.size 5 1 (.slice (some ⟨h.size, 0, none⟩) 512 512) 512 (List.replicate 512 (.int .u8 0)) := own_made (z := .int .u8 0) (l := 512) (Nat.le_refl _) (by simp only [maxLen]; omega) (Nat.le_refl _)
  generalize hh1 : h.push (.cells (Array.replicate 512 (.int .u8 0)) 5) = h1 at ho1
  have hx1 : Ext h h1 := by rw [← hh1]; exact Ext.push _ _
  have over : ∀ {a c : Hp}, Ext h a → Grown a c (Value.slice (some ⟨h.size, 0, none⟩) 512 512).ownBlock → Ext h c := fun x g => x.over (g.same (fun b => h.size ≤ b) fun b hb => by simp [Value.ownBlock] at hb; omega) fun _ h => h
  refine ⟨fun l hq => ∃ i : Nat, i ≤ 512 ∧ l = [vI i] ∧ Ext h hq ∧ Own hq h.size 5 1 (.slice (some ⟨h.size, 0, none⟩) 512 512) 512 (List.replicate i (vB b) ++ List.replicate (512 - i) (.int .u8 0)), fun l _ => (512 - numAt l 0).toNat,
    ⟨0, Nat.zero_le _, rfl, hx1, ho1⟩, ?_⟩
  rintro x hq ⟨i, hi, hl, hx, ho⟩
  cases hl
  refine ⟨fun hc => ?_, fun hc => ?_⟩
  · have hc : i < 512 := by simp at hc; omega
    refine ho.store hc rfl fun h' ho' hg' _ => ⟨_, incI (by omega), ⟨i + 1, hc, rfl, over hx hg', ?_⟩, by simp only [numAt]; omega⟩
    have e1 : (List.replicate i (vB b) ++ List.replicate (512 - i) (Value.int .u8 0)).set i (vB b) = List.replicate (i + 1) (vB b) ++ List.replicate (512 - (i + 1)) (.int .u8 0) := by
      rw [List.set_append_right _ _ (by rw [List.length_replicate]; exact Nat.le_refl _), List.length_replicate, Nat.sub_self, show 512 - i = 512 - (i + 1) + 1 by omega, List.replicate_succ (n := 512 - (i + 1)), List.set_cons_zero, List.replicate_succ' (n := i), List.append_assoc]; rfl
    rw [← e1]; exact ho'
  · have hc : i = 512 := by simp at hc; omega
    subst hc
    rw [Nat.sub_self, List.replicate_zero, List.append_nil] at ho
    refine ho.store (i := 0) (by omega) rfl fun h2 ho2 hg2 _ => ?_
    refine ho2.store (i := 511) (by omega) rfl fun h3 ho3 hg3 _ => ?_
    have e2 := ends_set 510 (vB b) (vB e)
    rw [e2] at ho3
    refine semH_toText uBs uB uStr (t := fullT b e) ?_ ⟨_, rfl, over (over hx hg2) hg3, rfl⟩
    have e3 : byteVs (fullT b e).data.toList = vB e :: (List.replicate 510 (vB b) ++ [vB e]) := by
      show List.map _ (e :: (List.replicate 510 b ++ [e])) = _
      rw [List.map_cons, List.map_append, List.map_replicate]; rfl
    rw [e3]; exact ho3.seg

/-- A sector's part of an image. -/
theorem sector_c (image : ByteArray) (n : Nat) (hn : n ≤ 4096) (hs : 512 * n + 512 ≤ image.size) (h : Hp) : CallsH Try.prog 19 #[.string image, vI n] h fun e h' => h' = h ∧ e = .returned (.string (image.extract (512 * n) (512 * n + 512))) := by
  refine V19 _ _ h _ ⟨((512 * n : Nat) : Int), by rw [wrapI64] <;> omega, ((512 * n + 512 : Nat) : Int), by rw [wrapI64] <;> omega, fun hlt => ?_, fun _ => ?_⟩
  · simp at hlt; omega
  · exact ⟨((512 * n : Nat) : Int), by rw [wrapI64] <;> omega, ((512 * n : Nat) : Int), by rw [wrapI64] <;> omega, ((512 * n + 512 : Nat) : Int), by rw [wrapI64] <;> omega, 512 * n, rfl, 512 * n + 512, rfl, by omega, hs, _, rfl, rfl, rfl⟩

theorem bl_inj {a b : ByteArray} (h : a.data.toList = b.data.toList) : a = b := by
  apply ByteArray.ext; exact Array.toList_inj.1 h

theorem flat_at {l : List ByteArray} (h : ∀ s ∈ l, s.size = 512) {i : Nat} (hi : i < l.length) : ((flatB l).drop (512 * i)).take 512 = l[i].data.toList := by
  induction l generalizing i with
  | nil => cases hi
  | cons x r ih =>
    have hx : x.data.toList.length = 512 := by have := h x (by simp); simpa using this
    show ((x.data.toList ++ flatB r).drop (512 * i)).take 512 = _
    cases i with
    | zero => rw [Nat.mul_zero, List.drop_zero, List.take_append_of_le_length (by omega), List.take_of_length_le (by omega)]; rfl
    | succ i =>
      rw [List.drop_append, hx, List.drop_of_length_le (by omega), List.nil_append, show 512 * (i + 1) - 512 = 512 * i by omega]
      exact ih (fun s hs => h s (by simp [hs])) (by simpa using hi)

theorem image_size {σ : DS} (ok : σ.Ok) : σ.image.size = 512 * σ.safe.length := by
  show Array.size _ = _
  rw [List.size_toArray]
  have := flatB_length ok.size
  unfold flatB at this
  omega

theorem image_at {σ : DS} (ok : σ.Ok) {i : Nat} (hi : i < σ.safe.length) : σ.image.extract (512 * i) (512 * i + 512) = σ.safe[i] := by
  apply bl_inj
  rw [Lib.extract_data]
  have := flat_at ok.size hi
  rw [show 512 * i + 512 - 512 * i = 512 by omega]
  exact this

/-- Images are alike just where the sectors are. -/
theorem image_eq {σ τ : DS} (h : σ.safe = τ.safe) : σ.image = τ.image := by unfold DS.image; rw [h]

/-! ## New disks go on -/

section
variable {h a c : Hp} {d : Nat} {σ σ' : DS}

theorem Fresh.step (F : Fresh h a d σ) {B : Nat → Prop} (hB : B = fun b => h.size ≤ b ∧ b < a.size) (x : Same B a c) (D : DiskAt dI c (GrowB B a c) d σ') : Fresh h c d σ' := by
  subst hB
  exact ⟨F.1.over x fun b hb => hb.1, D.more (fun b hb => by rcases hb with hb | hb; exact ⟨hb.1, by have := x.size; omega⟩; exact ⟨by have := F.1.size; omega, hb.2⟩) fun b hb => hb.2⟩

theorem Fresh.go (F : Fresh h a d σ) {B : Nat → Prop} (hB : B = fun b => h.size ≤ b ∧ b < a.size) (x : Same B a c) (D : DiskAt dI c B d σ') : Fresh h c d σ' := by
  subst hB
  exact ⟨F.1.over x fun b hb => hb.1, D.more (fun b hb => ⟨hb.1, by have := x.size; omega⟩) fun b hb => hb.2⟩

theorem Fresh.ext (F : Fresh h a d σ) (x : Ext a c) : Fresh h c d σ :=
  ⟨F.1.trans x, (F.2.ext x).more (fun b hb => ⟨hb.1, by have := x.size; omega⟩) fun b hb => hb.2⟩

end

/-! ## A disk over which writes went -/

structure Put where
  N : Int
  fill : UInt8
  ends : UInt8

def putV (p : Put) : List Value := [vZ p.N, vB p.fill, vB p.ends]
def PutOk (p : Put) : Prop := -9223372036854775808 ≤ p.N ∧ p.N ≤ 9223372036854775807
def putW (n : Nat) (p : Put) : Nat × ByteArray := (pickN p.N n, fullT p.fill p.ends)

/-- The disk behind some writes, a flush, and others. -/
def writtenS (n : Nat) (first behind : List Put) : DS :=
  { safe := layAll (List.replicate n zero512) (first.map (putW n)), pend := behind.map (putW n), gone := false, plan := 0, reads := 0, writes := (first.length : Int) + (behind.length : Int), flushes := 1 }

theorem write_ok {σ : DS} {n : Nat} {s : ByteArray} (hg : σ.gone = false) (hp : σ.plan = 0) (hn : n < σ.safe.length) (hs : s.size = 512) : σ.write (n : Int) s = ({ σ with pend := σ.pend ++ [(n, s)], writes := inc64 σ.writes }, 0) := by
  have ha : σ.asked (n : Int) = 0 := by
    unfold DS.asked
    rw [if_neg (by simp [hg]), if_neg (by omega)]
  have hst : σ.stepped = σ := by unfold DS.stepped; rw [if_pos hp]
  unfold DS.write
  rw [if_pos ha, if_pos hs, hst, if_neg (by simp [hg]), Int.toNat_natCast]

theorem flush_ok {σ : DS} (hg : σ.gone = false) (hp : σ.plan = 0) : σ.flush = ({ σ with safe := layAll σ.safe σ.pend, pend := [], flushes := inc64 σ.flushes }, 0) := by
  have hst : σ.stepped = σ := by unfold DS.stepped; rw [if_pos hp]
  unfold DS.flush
  rw [if_neg (by simp [hg]), hst, if_neg (by simp [hg])]

theorem inc64_nat (n : Nat) (h : n < 9223372036854775807) : inc64 (n : Int) = ((n + 1 : Nat) : Int) := incI h

theorem written_c (n : Nat) (h1 : 1 ≤ n) (h2 : n ≤ 4096) (first behind : List Put) (hfo : ∀ x ∈ first, PutOk x) (hbo : ∀ x ∈ behind, PutOk x) (hfl : first.length ≤ 8796093022208) (hbl : behind.length ≤ 8796093022208) (h : Hp)
    {p q : Option Addr} {k m c c' : Nat} (hf : SegS h p k 3 (first.map putV)) (hb : SegS h q m 3 (behind.map putV)) :
    CallsH Try.prog 13 #[vI n, .slice p k c, .slice q m c'] h fun e h' => ∃ d, Fresh h h' d (writtenS n first behind) ∧ e = .returned (vP d) := by
  have hkf : first.length = k := by have := hf.1; simpa using this
  have hkb : behind.length = m := by have := hb.1; simpa using this
  refine V13 _ _ _ _ _ _ _ h _ ((new_c (n : Int)).mono ?_)
  rintro e h1' (⟨hbad, rfl, rfl⟩ | ⟨_, _, d, F1, rfl⟩)
  · omega
  rw [Int.toNat_natCast] at F1
  refine ⟨_, _, rfl, fun l hq => l = [] ∧ hq = h1', ⟨false, ⟨fun hf => (by simp at hf), fun _ => ⟨false, eqv_ptr uPD _, rfl, rfl⟩⟩, fun hB => (by cases hB), fun _ => ⟨rfl, rfl⟩⟩, ?_⟩
  rintro h2' ⟨_, rfl⟩
  have hnl : (DS.new n).safe.length = n := by simp [DS.new, DS.fresh]
  -- the first writes
  refine ⟨fun l hq => ∃ i : Nat, i ≤ first.length ∧ l = [vI i] ∧ Fresh h hq d { DS.new n with pend := (first.take i).map (putW n), writes := (i : Int) }, fun l _ => (first.length - numAt l 0).toNat, ⟨0, Nat.zero_le _, rfl, F1⟩, ?_⟩
  rintro x hq ⟨i, hi, hl, F⟩
  cases hl
  refine ⟨fun hc => ?_, fun hc => ?_⟩
  · have hc : i < first.length := by simp at hc; omega
    have hpo := hfo _ (List.getElem_mem hc)
    obtain ⟨b, o, hp, hi0, hin, hget⟩ := (hf.ext F.1).get (i := i) (by simpa using hc)
    have hget' : ∀ {h'}, Ext h h' → ∀ j v, ((first.map putV)[i]'(by simpa using hc))[j]? = some v → cellsAt h' b ((o + Int.toNat (i : Int) * 3) + j) [v] := fun {h'} x j v hj => by
      obtain ⟨b', o', hp', _, _, hg'⟩ := (hf.ext x).get (i := i) (by simpa using hc)
      rw [hp] at hp'; cases hp'
      exact hg' j v hj
    rw [List.getElem_map] at hget hget'
    refine ⟨fun h' => Ext h h', F.1, b, o, hp, hi0, hin, _, hget 0 _ rfl, (pick_c first[i].N n (by omega) hpo.1 hpo.2 hq).mono ?_⟩
    rintro e h3 ⟨rfl, rfl⟩
    refine ⟨_, rfl, F.1, b, o, hp, hi0, hin, _, fun h' x => hget' x 1 _ rfl, b, o, hp, hi0, hin, _, fun h' x => hget' x 2 _ rfl, (full_c first[i].fill first[i].ends h3).mono ?_⟩
    rintro e h4 ⟨hx4, rfl⟩
    have F4 := F.ext hx4
    refine ⟨_, rfl, F4.1, (write_c F4.2 _ _ (by show ((first.take i).map (putW n)).length ≤ _; simp; omega)).mono ?_⟩
    rintro e h5 ⟨hs5, D5, rfl⟩
    have hlt := pickN_lt first[i].N (show 0 < n by omega)
    rw [write_ok rfl rfl (by show _ < (DS.new n).safe.length; omega) (fullT_size _ _)] at D5 ⊢
    refine ⟨_, rfl, F4.1.over hs5 fun b hb => hb.1, fun hf => (by simp at hf), fun _ => ⟨_, incI (by omega), ⟨i + 1, hc, rfl, F4.step rfl hs5 ?_⟩, by simp only [numAt]; omega⟩⟩
    have e1 : (first.take (i + 1)).map (putW n) = (first.take i).map (putW n) ++ [(pickN first[i].N n, fullT first[i].fill first[i].ends)] := by
      have : first.take (i + 1) = first.take i ++ [first[i]] := by rw [List.take_add_one, List.getElem?_eq_getElem hc]; rfl
      rw [this, List.map_append]; rfl
    rw [e1, ← inc64_nat i (by omega)]
    exact D5
  have hc : i = first.length := by simp at hc; omega
  subst hc
  rw [List.take_length] at F
  refine (flush_c F.2).mono ?_
  rintro e h3 ⟨hs3, _, D3, rfl⟩
  rw [flush_ok rfl rfl] at D3 ⊢
  have F3 := F.go rfl hs3 D3
  refine ⟨_, rfl, fun hf => (by simp at hf), fun _ => ?_⟩
  refine ⟨fun l hq => ∃ i : Nat, i ≤ behind.length ∧ l = [vI i] ∧ Fresh h hq d (writtenS n first (behind.take i)), fun l _ => (behind.length - numAt l 0).toNat, ⟨0, Nat.zero_le _, rfl, ?_⟩, ?_⟩
  · have e1 : writtenS n first (behind.take 0) = { DS.new n with safe := layAll (DS.new n).safe (first.map (putW n)), pend := [], writes := (first.length : Int), flushes := inc64 (DS.new n).flushes } := by
      simp [writtenS, DS.new, DS.fresh]; decide
    rw [e1]; exact F3
  clear F3 D3 hs3 F hi
  rintro x hq ⟨i, hi, hl, F⟩
  cases hl
  refine ⟨fun hc => ?_, fun hc => ?_⟩
  · have hc : i < behind.length := by simp at hc; omega
    have hpo := hbo _ (List.getElem_mem hc)
    obtain ⟨b, o, hp, hi0, hin, hget⟩ := (hb.ext F.1).get (i := i) (by simpa using hc)
    have hget' : ∀ {h'}, Ext h h' → ∀ j v, ((behind.map putV)[i]'(by simpa using hc))[j]? = some v → cellsAt h' b ((o + Int.toNat (i : Int) * 3) + j) [v] := fun {h'} x j v hj => by
      obtain ⟨b', o', hp', _, _, hg'⟩ := (hb.ext x).get (i := i) (by simpa using hc)
      rw [hp] at hp'; cases hp'
      exact hg' j v hj
    rw [List.getElem_map] at hget hget'
    refine ⟨fun h' => Ext h h', F.1, b, o, hp, hi0, hin, _, hget 0 _ rfl, (pick_c behind[i].N n (by omega) hpo.1 hpo.2 hq).mono ?_⟩
    rintro e h3 ⟨rfl, rfl⟩
    refine ⟨_, rfl, F.1, b, o, hp, hi0, hin, _, fun h' x => hget' x 1 _ rfl, b, o, hp, hi0, hin, _, fun h' x => hget' x 2 _ rfl, (full_c behind[i].fill behind[i].ends h3).mono ?_⟩
    rintro e h4 ⟨hx4, rfl⟩
    have F4 := F.ext hx4
    have hlen : (writtenS n first (behind.take i)).safe.length = n := by
      show (layAll _ _).length = n
      rw [(layAll_ok _ _ (fun s hs => by rw [List.eq_of_mem_replicate hs]; exact zero512_size) (fun x hx => by obtain ⟨y, _, rfl⟩ := List.mem_map.1 hx; exact fullT_size _ _)).2, List.length_replicate]
    refine ⟨_, rfl, F4.1, (write_c F4.2 _ _ (by show ((behind.take i).map (putW n)).length ≤ _; simp; omega)).mono ?_⟩
    rintro e h5 ⟨hs5, D5, rfl⟩
    have hlt := pickN_lt behind[i].N (show 0 < n by omega)
    rw [write_ok rfl rfl (by rw [hlen]; exact hlt) (fullT_size _ _)] at D5 ⊢
    refine ⟨_, rfl, F4.1.over hs5 fun b hb => hb.1, fun hf => (by simp at hf), fun _ => ⟨_, incI (by omega), ⟨i + 1, hc, rfl, F4.step rfl hs5 ?_⟩, by simp only [numAt]; omega⟩⟩
    have e1 : writtenS n first (behind.take (i + 1)) = { writtenS n first (behind.take i) with pend := (writtenS n first (behind.take i)).pend ++ [(pickN behind[i].N n, fullT behind[i].fill behind[i].ends)], writes := inc64 (writtenS n first (behind.take i)).writes } := by
      have h1 : behind.take (i + 1) = behind.take i ++ [behind[i]] := by rw [List.take_add_one, List.getElem?_eq_getElem hc]; rfl
      have h2 : (behind.take i).length = i := by simp; omega
      have h3 := inc64_nat (first.length + i) (by omega)
      rw [Int.natCast_add] at h3
      have h4 : inc64 ((first.length : Int) + ((behind.take i).length : Int)) = (first.length : Int) + ((behind.take (i + 1)).length : Int) := by
        rw [h1, h2, h3, List.length_append, h2]
        simp; omega
      simp only [writtenS, h4]
      rw [h1, List.map_append]; rfl
    rw [e1]
    exact D5
  · have hc : i = behind.length := by simp at hc; omega
    subst hc
    rw [List.take_length] at F
    exact ⟨d, F, rfl⟩

theorem layT_all {x s : ByteArray} (hs : s.size = 512) (hx : x.size = 512) : layT x s 512 = s := by
  apply bl_inj
  unfold layT
  have e : ∀ a b : ByteArray, (a ++ b).data.toList = a.data.toList ++ b.data.toList := fun a b => by rw [ByteArray.data_append, Array.toList_append]
  have h1 : s.data.toList.length = 512 := by simpa using hs
  have h2 : x.data.toList.length = 512 := by simpa using hx
  rw [e, Lib.extract_data, Lib.extract_data, List.drop_zero, List.take_of_length_le (by omega), List.drop_of_length_le (by omega)]
  simp

theorem infoFate : ∃ i y, Try.prog.info? 30 = some i ∧ i.zero = some y ∧ i.size = 2 ∧ y.cells.size = 2 := by
  have : (match Try.prog.info? 30 with | some i => (match i.zero with | some y => Nat.beq i.size 2 && Nat.beq y.cells.size 2 | none => false) | none => false) = true := by kernel_rfl
  split at this
  · rename_i i hi
    split at this
    · rename_i y hy
      simp only [Bool.and_eq_true, Nat.beq_eq] at this
      exact ⟨i, y, hi, hy, this.1, this.2⟩
    · cases this
  · cases this

/-- turnoutlaw04.awake -/
theorem awake_c (h : Hp) : CallsH Try.prog 11 #[] h fun e h' => Ext h h' ∧ e = .returned (.bool true) := by
  refine V11 h _ ((new_c (2 : Int)).mono ?_)
  rintro e h1 (⟨hbad, rfl, rfl⟩ | ⟨_, _, d, F1, rfl⟩)
  · omega
  refine ⟨_, _, rfl, fun l hq => l = [] ∧ hq = h1, ⟨false, ⟨false, eqv_ptr uPD _, fun hf => (by cases hf), fun _ => ⟨rfl, rfl⟩⟩, fun hB => (by cases hB), fun _ => ⟨rfl, rfl⟩⟩, ?_⟩
  rintro h2 ⟨_, rfl⟩
  refine (full_c 97 97 h2).mono ?_
  rintro e h3 ⟨hx3, rfl⟩
  refine ⟨_, rfl, (full_c 98 98 h3).mono ?_⟩
  rintro e h4 ⟨hx4, rfl⟩
  have F4 := (F1.ext hx3).ext hx4
  refine ⟨_, rfl, (write_c F4.2 ((0 : Nat) : Int) _ (by show (0 : Nat) ≤ _; omega)).mono ?_⟩
  rintro e h5 ⟨hs5, D5, rfl⟩
  rw [write_ok rfl rfl (by decide) (fullT_size _ _)] at D5 ⊢
  have F5 := F4.step rfl hs5 D5
  refine ⟨_, rfl, (write_c F5.2 ((0 : Nat) : Int) _ (by show (1 : Nat) ≤ _; omega)).mono ?_⟩
  rintro e h6 ⟨hs6, D6, rfl⟩
  rw [write_ok rfl rfl (by decide) (fullT_size _ _)] at D6 ⊢
  have F6 := F5.step rfl hs6 D6
  refine ⟨_, rfl, semH_buildS (t := 28) (e := 30) (by kernel_rfl) (z := 2) (by decide) infoFate (rows := [(1, 0), (2, 3)].map fateV) (by simp [fateV]) rfl rfl (by simp) (by simp) ⟨_, _, _, rfl, ?_⟩⟩
  have hx7 : Ext h6 (h6.push (.cells ([((1 : Int), (0 : Int)), (2, 3)].map fateV).flatten.toArray 30)) := Ext.push _ _
  have hseg : SegS (h6.push (.cells ([((1 : Int), (0 : Int)), (2, 3)].map fateV).flatten.toArray 30)) (some ⟨h6.size, 0, none⟩) 2 2 ([((1 : Int), (0 : Int)), (2, 3)].map fateV) :=
    ⟨rfl, by simp [fateV], .inr ⟨_, _, rfl, cellsAt_all push_last⟩⟩
  generalize (h6.push (.cells ([((1 : Int), (0 : Int)), (2, 3)].map fateV).flatten.toArray 30)) = h7 at hx7 hseg
  have D7 := F6.2.ext hx7
  refine (crash_c D7 [(1, 0), (2, 3)] hseg (by intro b o hp _ hb; cases hp; omega)).mono ?_
  rintro e h8 ⟨hs8, D8, rfl⟩
  have hx8 : Ext h h8 := (F6.1.trans hx7).over hs8 fun b hb => hb.1
  refine ⟨rfl, (read_c D8 ((0 : Nat) : Int)).mono ?_⟩
  rintro e h9 ⟨hs9, _, D9, rfl⟩
  have hx9 : Ext h h9 := hx8.over hs9 fun b hb => hb.1
  have ha : ∀ {σ : DS}, σ.gone = false → 0 < σ.safe.length → σ.read ((0 : Nat) : Int) = ({ σ with reads := inc64 σ.reads }, σ.look 0, 0) := fun {σ} hg hl => by
    unfold DS.read
    rw [if_pos]
    · rfl
    · unfold DS.asked
      rw [if_neg (by simp [hg]), if_neg (by omega)]
  rw [ha rfl D8.ok.pos]
  refine ⟨_, _, rfl, true, ⟨fun _ => ⟨fun _ => ⟨fun _ => ⟨3, rfl, by rw [fullT_size]; omega, Nat.le_refl _, _, rfl, by rw [ByteArray.size_extract, fullT_size]; decide, _, rfl, rfl, ?_⟩, fun hf => (by simp at hf)⟩, fun hf => (by simp at hf)⟩, fun hf => (by simp at hf)⟩, hx9, rfl⟩
  symm
  rw [decide_eq_true_eq]
  have e1 : (DS.crash { DS.new (Int.toNat 2) with pend := [(0, fullT 97 97)] ++ [(0, fullT 98 98)], writes := inc64 (inc64 0) } [(1, 0), (2, 3)]).look 0 = layT (layT zero512 (fullT 97 97) 512) (fullT 98 98) 3 := rfl
  refine e1.trans ?_
  have e2 : layT zero512 (fullT 97 97) 512 = fullT 97 97 := layT_all (fullT_size _ _) zero512_size
  rw [e2]
  unfold layT
  congr 1

end Go.Vc
