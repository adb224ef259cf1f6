/- DiskKept, DiskApart, DiskNil: the walks. -/
import Derived.Test.YtebcmlfccfchoaaS4D4A
set_option maxRecDepth 10000
namespace Go.Vc
open Go Go.Proofs Go.MapKept

theorem rowF : RowT Try.prog 28 30 2 16 := RowT.of (by kernel_rfl)

theorem layT_none (x s : ByteArray) : layT x s 0 = x := by
  apply bl_inj
  unfold layT
  have e : ∀ a b : ByteArray, (a ++ b).data.toList = a.data.toList ++ b.data.toList := fun a b => by rw [ByteArray.data_append, Array.toList_append]
  rw [e, Lib.extract_data, Lib.extract_data, Nat.sub_zero, Nat.sub_zero, List.take_zero, List.nil_append, List.drop_zero, List.take_of_length_le (by simp)]

theorem layD_none (safe : List ByteArray) (w : Nat × ByteArray) : layD safe w 0 = safe := by
  unfold layD
  apply List.ext_getElem (by simp)
  intro i h1 h2
  rw [List.getElem_modify]
  split
  · exact layT_none _ _
  · rfl

theorem layFates_all : ∀ {l : List (Nat × ByteArray)} {fates : List (Int × Int)} {safe : List ByteArray}, (∀ f ∈ fates, keptN f = 512) → l.length ≤ fates.length → layFates safe l fates = layAll safe l := by
  intro l
  induction l with
  | nil => intros; rfl
  | cons w r ih =>
    intro fates safe hf hl
    cases fates with
    | nil => simp at hl
    | cons f fs =>
      show layFates (layD safe w (keptN f)) r fs = layAll (layD safe w 512) r
      rw [hf f (by simp)]
      exact ih (fun g hg => hf g (by simp [hg])) (by simpa using hl)

theorem layFates_none : ∀ {l : List (Nat × ByteArray)} {fates : List (Int × Int)} {safe : List ByteArray}, (∀ f ∈ fates, keptN f = 0) → layFates safe l fates = safe := by
  intro l
  induction l with
  | nil => intros; rfl
  | cons w r ih =>
    intro fates safe hf
    cases fates with
    | nil => rfl
    | cons f fs =>
      show layFates (layD safe w (keptN f)) r fs = safe
      rw [hf f (by simp), layD_none]
      exact ih (fun g hg => hf g (by simp [hg]))

theorem Own.other {h h' : Hp} {base : Nat} {e : TypeId} {size : Nat} {v : Value} {n : Nat} {xs : List Value} (o : Own h base e size v n xs) {C : Nat → Prop} (x : Same C h h') (hC : ∀ b, base ≤ b → ¬ C b) : Own h' base e size v n xs :=
  o.keep fun b hb => x.old b (o.lt hb).2 (hC b (o.lt hb).1)

theorem fate_flat (i : Nat) (f : Int × Int) : ((List.replicate (i + 1) f).map fateV).flatten = ((List.replicate i f).map fateV).flatten ++ fateV f := by
  rw [List.replicate_succ', List.map_append, List.flatten_append]; simp

/-- turnoutlaw04.DiskKept -/
theorem kept_law (sectors more : Int) (first behind : List Put) (hs0 : -9223372036854775808 ≤ sectors) (hs1 : sectors ≤ 9223372036854775807) (hm0 : -9223372036854775808 ≤ more) (hm1 : more ≤ 9223372036854775807)
    (hfo : ∀ x ∈ first, PutOk x) (hbo : ∀ x ∈ behind, PutOk x) (hfl : first.length ≤ 8796093022208) (hbl : behind.length ≤ 8796093022208) (h : Hp)
    {p q : Option Addr} {k m c c' : Nat} (hf : SegS h p k 3 (first.map putV)) (hb : SegS h q m 3 (behind.map putV)) :
    CallsH Try.prog 3 #[vZ sectors, .slice p k c, .slice q m c', vZ more] h (RetX (.bool true) h) := by
  have hkb : behind.length = m := by have := hb.1; simpa using this
  refine V3 _ _ _ _ _ _ _ _ h _ ((awake_c h).mono ?_)
  rintro e h0 ⟨x0, rfl⟩
  refine ⟨_, rfl, (pick_c sectors 6 (by decide) hs0 hs1 h0).mono ?_⟩
  rintro e h0' ⟨rfl, rfl⟩
  have hp6 := pickN_lt sectors (show 0 < 6 by decide)
  obtain ⟨n, hn⟩ : ∃ n, n = 1 + pickN sectors 6 := ⟨_, rfl⟩
  have hn1 : 1 ≤ n := by omega
  have hn2 : n ≤ 4096 := by omega
  refine ⟨_, rfl, (n : Int), by rw [wrapI64] <;> omega, (written_c n hn1 hn2 first behind hfo hbo hfl hbl h0' (hf.ext x0) (hb.ext x0)).mono ?_⟩
  rintro e h1 ⟨da, Fa, rfl⟩
  have x1 := x0.trans Fa.1
  refine ⟨_, rfl, (written_c n hn1 hn2 first behind hfo hbo hfl hbl h1 (hf.ext x1) (hb.ext x1)).mono ?_⟩
  rintro e h2 ⟨db, Fb, rfl⟩
  have x2 := x1.trans Fb.1
  refine ⟨_, rfl, (written_c n hn1 hn2 first behind hfo hbo hfl hbl h2 (hf.ext x2) (hb.ext x2)).mono ?_⟩
  rintro e h3 ⟨dc, Fc, rfl⟩
  have x3 := x2.trans Fc.1
  refine ⟨_, rfl, (written_c n hn1 hn2 first behind hfo hbo hfl hbl h3 (hf.ext x3) (hb.ext x3)).mono ?_⟩
  rintro e h4 ⟨dd, Fd, rfl⟩
  have x4 := x3.trans Fd.1
  refine ⟨_, rfl, (written_c n hn1 hn2 first [] hfo (by simp) hfl (by simp) h4 (hf.ext x4) (SegS.nil _ _)).mono ?_⟩
  rintro e h5 ⟨dx, Fx, rfl⟩
  have x5 := x4.trans Fx.1
  refine ⟨_, rfl, fun l hq => l = [] ∧ hq = h5, ⟨false, ⟨fun hf => (by cases hf), fun _ => ⟨false, eqv_ptr uPD _, fun hf => (by cases hf), fun _ => ⟨false, eqv_ptr uPD _, fun hf => (by cases hf), fun _ => ⟨false, eqv_ptr uPD _, fun hf => (by cases hf), fun _ => ⟨false, eqv_ptr uPD _, fun hf => (by cases hf), fun _ => ⟨false, eqv_ptr uPD _, rfl, rfl⟩⟩⟩⟩⟩⟩, fun hB => (by cases hB), fun _ => ⟨rfl, rfl⟩⟩, ?_⟩
  rintro h5' ⟨_, rfl⟩
  refine (image_c Fx.2).mono ?_
  rintro e h6 ⟨x6, rfl⟩
  have s0 := x0.size
  have s1 := Fa.1.size
  have s2 := Fb.1.size
  have s3 := Fc.1.size
  have s4 := Fd.1.size
  have s5 := Fx.1.size
  have s6 := x6.size
  have Da := ((((Fa.2.ext Fb.1).ext Fc.1).ext Fd.1).ext Fx.1).ext x6
  have Db := (((Fb.2.ext Fc.1).ext Fd.1).ext Fx.1).ext x6
  have Dc := ((Fc.2.ext Fd.1).ext Fx.1).ext x6
  have Dd := (Fd.2.ext Fx.1).ext x6
  have hx6 := x5.trans x6
  clear Fa Fb Fc Fd Fx x0 x1 x2 x3 x4 x5 x6
  have hp3 := pickN_lt more (show 0 < 3 by decide)
  have hp9 := pickN_lt more (show 0 < 9 by decide)
  obtain ⟨t, ht⟩ : ∃ t, t = pickN more 9 := ⟨_, rfl⟩
  obtain ⟨N, hN⟩ : ∃ N, N = m + pickN more 3 := ⟨_, rfl⟩
  refine ⟨_, rfl, fun l hq => ∃ (i : Nat) (p1 p2 p3 : Option Addr) (c1 c2 c3 : Nat), i ≤ N ∧ l = [.slice p1 i c1, .slice p2 i c2, .slice p3 i c3, vI i] ∧ Ext h6 hq ∧
      Own hq h6.size 30 2 (.slice p1 i c1) i ((List.replicate i ((1 : Int), more)).map fateV).flatten ∧ Own hq h6.size 30 2 (.slice p2 i c2) i ((List.replicate i ((2 : Int), ((512 + t : Nat) : Int))).map fateV).flatten ∧
      Own hq h6.size 30 2 (.slice p3 i c3) i ((List.replicate i ((2 : Int), -(t : Int))).map fateV).flatten ∧ (∀ b, (Value.slice p1 i c1).ownBlock = some b → (Value.slice p2 i c2).ownBlock ≠ some b ∧ (Value.slice p3 i c3).ownBlock ≠ some b) ∧
      (∀ b, (Value.slice p2 i c2).ownBlock = some b → (Value.slice p3 i c3).ownBlock ≠ some b),
    fun l _ => (N - numAt l 3).toNat, ⟨0, none, none, none, 0, 0, 0, Nat.zero_le _, rfl, Ext.refl _, Own.nil _ _ _ _, Own.nil _ _ _ _, Own.nil _ _ _ _, by simp [Value.ownBlock], by simp [Value.ownBlock]⟩, ?_⟩
  rintro p1 n1 c1 p2 n2 c2 p3 n3 c3 x hq ⟨i, _, _, _, _, _, _, hi, hl, hx, o1, o2, o3, hd1, hd2⟩
  cases hl
  refine (pick_c more 3 (by decide) hm0 hm1 hq).mono ?_
  rintro e hq' ⟨rfl, rfl⟩
  refine ⟨_, rfl, (N : Int), by rw [wrapI64] <;> omega, fun hc => ?_, fun hc => ?_⟩
  · have hc : n1 < N := by simp at hc; omega
    refine semH_pushS rowF (by decide) o1 (r := fateV (1, more)) rfl rfl (by decide) (by simp [fateV, Value.oneCell']) (by omega) (by simp only [maxLen]; omega) hx.size fun p1' c1' h7 o1' g1 _ b1 => ?_
    have o2' := o2.keep (h' := h7) fun b hb => g1.block b (o2.lt hb).2 fun e => (hd1 b e.symm).1 hb
    have o3' := o3.keep (h' := h7) fun b hb => g1.block b (o3.lt hb).2 fun e => (hd1 b e.symm).2 hb
    have hx7 := hx.own o1 (Nat.le_refl _) g1
    refine (pick_c more 9 (by decide) hm0 hm1 h7).mono ?_
    rintro e h8 ⟨rfl, rfl⟩
    refine ⟨_, rfl, ((512 + t : Nat) : Int), by rw [wrapI64] <;> omega, ?_⟩
    refine semH_pushS rowF (by decide) o2' (r := fateV (2, ((512 + t : Nat) : Int))) rfl rfl (by decide) (by simp [fateV, Value.oneCell']) (by omega) (by simp only [maxLen]; omega) hx7.size fun p2' c2' h9 o2'' g2 _ b2 => ?_
    have d12 : ∀ b, (Value.slice p1' (n1 + 1) c1').ownBlock = some b → (Value.slice p2 n1 c2).ownBlock ≠ some b ∧ (Value.slice p3 n1 c3).ownBlock ≠ some b := by
      intro b hb
      rcases b1 with e | ⟨b', e, hge⟩
      · exact hd1 b (e ▸ hb)
      · rw [e] at hb; cases hb
        exact ⟨fun e => by have := (o2.lt e).2; omega, fun e => by have := (o3.lt e).2; omega⟩
    have o1'' := o1'.keep (h' := h9) fun b hb => g2.block b (o1'.lt hb).2 fun e => (d12 b hb).1 e.symm
    have o3'' := o3'.keep (h' := h9) fun b hb => g2.block b (o3'.lt hb).2 fun e => hd2 b e.symm hb
    have hx9 := hx7.own o2' (Nat.le_refl _) g2
    refine (pick_c more 9 (by decide) hm0 hm1 h9).mono ?_
    rintro e h10 ⟨rfl, rfl⟩
    refine ⟨_, rfl, -(t : Int), by rw [wrapI64] <;> omega, ?_⟩
    refine semH_pushS rowF (by decide) o3'' (r := fateV (2, -(t : Int))) rfl rfl (by decide) (by simp [fateV, Value.oneCell']) (by omega) (by simp only [maxLen]; omega) hx9.size fun p3' c3' h11 o3x g3 _ b3 => ?_
    have d13 : ∀ b, (Value.slice p1' (n1 + 1) c1').ownBlock = some b → (Value.slice p2' (n1 + 1) c2').ownBlock ≠ some b ∧ (Value.slice p3 n1 c3).ownBlock ≠ some b := by
      intro b hb
      refine ⟨fun hb2 => ?_, (d12 b hb).2⟩
      rcases b2 with e | ⟨b', e, hge⟩
      · exact (d12 b hb).1 (e ▸ hb2)
      · rw [e] at hb2; cases hb2
        have := (o1'.lt hb).2; omega
    have d23 : ∀ b, (Value.slice p2' (n1 + 1) c2').ownBlock = some b → (Value.slice p3 n1 c3).ownBlock ≠ some b := by
      intro b hb
      rcases b2 with e | ⟨b', e, hge⟩
      · exact hd2 b (e ▸ hb)
      · rw [e] at hb; cases hb
        exact fun e => by have := (o3'.lt e).2; omega
    have o1x := o1''.keep (h' := h11) fun b hb => g3.block b (o1''.lt hb).2 fun e => (d13 b hb).2 e.symm
    have o2x := o2''.keep (h' := h11) fun b hb => g3.block b (o2''.lt hb).2 fun e => d23 b hb e.symm
    refine ⟨_, incI (by omega), ⟨n1 + 1, p1', p2', p3', c1', c2', c3', hc, rfl, hx9.own o3'' (Nat.le_refl _) g3, ?_, ?_, ?_, ?_, ?_⟩, by simp only [numAt]; omega⟩
    · rw [fate_flat]; exact o1x
    · rw [fate_flat]; exact o2x
    · rw [fate_flat]; exact o3x
    · intro b hb
      refine ⟨(d13 b hb).1, fun hb3 => ?_⟩
      rcases b3 with e | ⟨b', e, hge⟩
      · exact (d13 b hb).2 (e ▸ hb3)
      · rw [e] at hb3; cases hb3
        have := (o1''.lt hb).2; omega
    · intro b hb hb3
      rcases b3 with e | ⟨b', e, hge⟩
      · exact d23 b hb (e ▸ hb3)
      · rw [e] at hb3; cases hb3
        have := (o2''.lt hb).2; omega
  have hc : n1 = N := by simp at hc; omega
  subst hc
  have len2 : ∀ f : Int × Int, ∀ r ∈ (List.replicate n1 f).map fateV, r.length = 2 := fun f r hr => by
    obtain ⟨x, _, rfl⟩ := List.mem_map.1 hr; rfl
  have noB : ∀ {a b : Nat}, b ≤ h6.size → ∀ x, h6.size ≤ x → ¬ (a ≤ x ∧ x < b) := fun hb x hx h => by omega
  have Da' := Da.ext hx
  refine (flush_c Da').mono ?_
  rintro e h7 ⟨y7, z7, Ea, rfl⟩
  have Db' := (Db.ext hx).other y7 fun b hb hb' => by omega
  have Dc' := (Dc.ext hx).other y7 fun b hb hb' => by omega
  have Dd' := (Dd.ext hx).other y7 fun b hb hb' => by omega
  have q1 := o1.other y7 (noB (by omega))
  have q2 := o2.other y7 (noB (by omega))
  have q3 := o3.other y7 (noB (by omega))
  have hx7 := (hx6.trans hx).over y7 fun b hb => by omega
  refine ⟨_, rfl, (crash_c Db' (List.replicate n1 (1, more)) (q1.segS (len2 _) (by simp)) (fun b o hp hne hb => by have := (q1.lt (k := b) (by rw [hp]; rfl)).1; omega)).mono ?_⟩
  rintro e h8 ⟨y8, Eb, rfl⟩
  have Ea8 := Ea.other y8 fun b hb hb' => by omega
  have Dc8 := Dc'.other y8 fun b hb hb' => by omega
  have Dd8 := Dd'.other y8 fun b hb hb' => by omega
  have r2 := q2.other y8 (noB (by omega))
  have r3 := q3.other y8 (noB (by omega))
  have hx8 := hx7.over y8 fun b hb => by omega
  refine ⟨rfl, (crash_c Dc8 (List.replicate n1 (2, ((512 + t : Nat) : Int))) (r2.segS (len2 _) (by simp)) (fun b o hp hne hb => by have := (r2.lt (k := b) (by rw [hp]; rfl)).1; omega)).mono ?_⟩
  rintro e h9 ⟨y9, Ec, rfl⟩
  have Ea9 := Ea8.other y9 fun b hb hb' => by omega
  have Eb9 := Eb.other y9 fun b hb hb' => by omega
  have Dd9 := Dd8.other y9 fun b hb hb' => by omega
  have t3 := r3.other y9 (noB (by omega))
  have hx9 := hx8.over y9 fun b hb => by omega
  refine ⟨rfl, (crash_c Dd9 (List.replicate n1 (2, -(t : Int))) (t3.segS (len2 _) (by simp)) (fun b o hp hne hb => by have := (t3.lt (k := b) (by rw [hp]; rfl)).1; omega)).mono ?_⟩
  rintro e h10 ⟨y10, Ed, rfl⟩
  have Ea10 := Ea9.other y10 fun b hb hb' => by omega
  have Eb10 := Eb9.other y10 fun b hb hb' => by omega
  have Ec10 := Ec.other y10 fun b hb hb' => by omega
  have hx10 := hx9.over y10 fun b hb => by omega
  -- what is safe
  rw [flush_ok rfl rfl] at Ea10 ⊢
  have hpl : (writtenS n first behind).pend.length ≤ n1 := by simp [writtenS]; omega
  have k1 : keptN (1, more) = 512 := by simp [keptN]
  have k2 : keptN (2, ((512 + t : Nat) : Int)) = 512 := by simp [keptN]; omega
  have k3 : keptN (2, -(t : Int)) = 0 := by simp [keptN]; omega
  have sb : ((writtenS n first behind).crash (List.replicate n1 (1, more))).safe = layAll (writtenS n first behind).safe (writtenS n first behind).pend :=
    layFates_all (fun f hf => by rw [List.eq_of_mem_replicate hf]; exact k1) (by simpa using hpl)
  have sc : ((writtenS n first behind).crash (List.replicate n1 (2, ((512 + t : Nat) : Int)))).safe = layAll (writtenS n first behind).safe (writtenS n first behind).pend :=
    layFates_all (fun f hf => by rw [List.eq_of_mem_replicate hf]; exact k2) (by simpa using hpl)
  have sd : ((writtenS n first behind).crash (List.replicate n1 (2, -(t : Int)))).safe = (writtenS n first []).safe :=
    layFates_none (fun f hf => by rw [List.eq_of_mem_replicate hf]; exact k3)
  refine ⟨rfl, fun _ => ?_, fun hf => (by simp at hf)⟩
  refine (image_c Eb10).mono ?_
  rintro e h11 ⟨x11, rfl⟩
  refine ⟨_, rfl, (image_c (Ea10.ext x11)).mono ?_⟩
  rintro e h12 ⟨x12, rfl⟩
  refine ⟨_, rfl, fun _ => ?_, fun hf => ?_⟩
  · refine (image_c ((Ec10.ext x11).ext x12)).mono ?_
    rintro e h13 ⟨x13, rfl⟩
    refine ⟨_, rfl, (image_c (((Ea10.ext x11).ext x12).ext x13)).mono ?_⟩
    rintro e h14 ⟨x14, rfl⟩
    refine ⟨_, rfl, fun _ => ?_, fun hf => ?_⟩
    · refine (image_c ((((Ed.ext x11).ext x12).ext x13).ext x14)).mono ?_
      rintro e h15 ⟨x15, rfl⟩
      refine ⟨_, rfl, ?_, ((((hx10.trans x11).trans x12).trans x13).trans x14).trans x15⟩
      rw [image_eq sd]; simp
    · rw [decide_eq_false_iff_not] at hf
      exact (hf (image_eq sc)).elim
  · rw [decide_eq_false_iff_not] at hf
    exact (hf (image_eq sb)).elim

end Go.Vc
