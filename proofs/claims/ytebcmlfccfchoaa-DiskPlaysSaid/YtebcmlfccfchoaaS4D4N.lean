/- DiskApart, DiskNil: the walks. -/
import Derived.Test.YtebcmlfccfchoaaS4D4K
set_option maxRecDepth 10000
namespace Go.Vc
open Go Go.Proofs Go.MapKept

theorem statsInts : intStruct Try.prog 48 3 = true := by kernel_rfl

/-- turnoutlaw04.DiskNil -/
theorem nil_law (n : Int) (s : ByteArray) (h : Hp) {p : Option Addr} {k c : Nat} : CallsH Try.prog 9 #[vZ n, .string s, .slice p k c] h (RetX (.bool true) h) := by
  refine V9 _ _ _ _ _ h _ ((awake_c h).mono ?_)
  rintro e h0 ⟨x0, rfl⟩
  refine ⟨_, rfl, (read_nil n).mono ?_⟩
  rintro e h1 ⟨rfl, rfl⟩
  refine ⟨_, _, rfl, (write_nil n s).mono ?_⟩
  rintro e h2 ⟨x2, rfl⟩
  refine ⟨_, rfl, flush_nil.mono ?_⟩
  rintro e h3 ⟨rfl, rfl⟩
  refine ⟨_, rfl, (cut_nil n).mono ?_⟩
  rintro e h4 ⟨rfl, rfl⟩
  refine ⟨rfl, (crash_nil rfl).mono ?_⟩
  rintro e h5 ⟨rfl, rfl⟩
  refine ⟨rfl, fun _ => ⟨fun _ => ⟨fun _ => ⟨fun _ => ⟨fun _ => size_nil.mono ?_, fun hf => (by simp at hf)⟩, fun hf => (by simp at hf)⟩, fun hf => (by simp at hf)⟩, fun hf => (by simp at hf)⟩, fun hf => (by cases hf)⟩
  rintro e h6 ⟨rfl, rfl⟩
  refine ⟨_, rfl, fun _ => off_nil.mono ?_, fun hf => (by simp at hf)⟩
  rintro e h7 ⟨rfl, rfl⟩
  refine ⟨_, rfl, fun _ => pending_nil.mono ?_, fun hf => (by simp at hf)⟩
  rintro e h8 ⟨rfl, rfl⟩
  refine ⟨_, _, _, rfl, fun _ => image_nil.mono ?_, fun hf => (by simp at hf)⟩
  rintro e h9 ⟨rfl, rfl⟩
  refine ⟨_, rfl, fun _ => stats_nil.mono ?_, fun hf => (by simp at hf)⟩
  rintro e h10 ⟨x10, rfl⟩
  exact ⟨_, _, _, rfl, _, eqv_ints statsInts [0, 0, 0] [0, 0, 0] rfl rfl, rfl, (x0.trans x2).trans x10⟩

/-- A new disk is written. -/
theorem write_on {h : Hp} {B : Nat → Prop} {d : Nat} {σ : DS} (D : DiskAt dI h B d σ) (n : Int) (s : ByteArray) (hlen : σ.pend.length ≤ 8796093022208) {Q : Nat → Prop} (hQ : ∀ b, B b → Q b) (hN : ∀ b, h.size ≤ b → Q b) :
    CallsH Try.prog 17 #[vP d, vZ n, .string s] h fun e h' => Same B h h' ∧ (∃ B', DiskAt dI h' B' d (σ.write n s).1 ∧ ∀ b, B' b → Q b) ∧ e = .returned (vZ (σ.write n s).2) := by
  refine (write_c D n s hlen).mono ?_
  rintro e h' ⟨h1, h2, h3⟩
  exact ⟨h1, ⟨_, h2, fun b hb => by rcases hb with hb | hb; exact hQ b hb; exact hN b hb.1⟩, h3⟩

theorem DS.pend_write (σ : DS) (n : Int) (s : ByteArray) : (σ.write n s).1.pend.length ≤ σ.pend.length + 1 := by
  unfold DS.write
  split
  · split
    · split
      · rw [σ.stepped_safe.2.1]; omega
      · simp
    · exact Nat.le_succ _
  · exact Nat.le_succ _

theorem DS.pend_flush (σ : DS) : σ.flush.1.pend.length ≤ σ.pend.length := by
  unfold DS.flush
  split
  · exact Nat.le_refl _
  · split
    · rw [σ.stepped_safe.2.1]; exact Nat.le_refl _
    · exact Nat.zero_le _

theorem DS.pend_cut (σ : DS) (n : Int) : (σ.cut n).pend = σ.pend := by unfold DS.cut; split <;> rfl

/-- turnoutlaw04.DiskApart -/
theorem apart_law (sectors steps : Int) (first behind : List Put) (hs0 : -9223372036854775808 ≤ sectors) (hs1 : sectors ≤ 9223372036854775807) (ht0 : -9223372036854775808 ≤ steps) (ht1 : steps ≤ 9223372036854775807)
    (hfo : ∀ x ∈ first, PutOk x) (hbo : ∀ x ∈ behind, PutOk x) (hfl : first.length ≤ 8796093022207) (hbl : behind.length ≤ 8796093022207) (h : Hp)
    {p q : Option Addr} {k m c c' : Nat} (hf : SegS h p k 3 (first.map putV)) (hb : SegS h q m 3 (behind.map putV)) :
    CallsH Try.prog 7 #[vZ sectors, .slice p k c, .slice q m c', vZ steps] h (RetX (.bool true) h) := by
  refine V7 _ _ _ _ _ _ _ _ h _ ((awake_c h).mono ?_)
  rintro e h0 ⟨x0, rfl⟩
  refine ⟨_, rfl, (pick_c sectors 5 (by decide) hs0 hs1 h0).mono ?_⟩
  rintro e h0' ⟨rfl, rfl⟩
  have hp5 := pickN_lt sectors (show 0 < 5 by decide)
  obtain ⟨n, hn⟩ : ∃ n, n = 1 + pickN sectors 5 := ⟨_, rfl⟩
  have hn1 : 1 ≤ n := by omega
  have hn2 : n ≤ 4096 := by omega
  refine ⟨_, rfl, (n : Int), by rw [wrapI64] <;> omega, (written_c n hn1 hn2 first behind hfo hbo (by omega) (by omega) h0' (hf.ext x0) (hb.ext x0)).mono ?_⟩
  rintro e h1 ⟨da, Fa, rfl⟩
  have x1 := x0.trans Fa.1
  refine ⟨_, rfl, (written_c n hn1 hn2 first behind hfo hbo (by omega) (by omega) h1 (hf.ext x1) (hb.ext x1)).mono ?_⟩
  rintro e h2 ⟨db, Fb, rfl⟩
  have x2 := x1.trans Fb.1
  refine ⟨_, rfl, fun l hq => l = [] ∧ hq = h2, ⟨false, ⟨fun hf => (by cases hf), fun _ => ⟨false, eqv_ptr uPD _, fun hf => (by cases hf), fun _ => ⟨false, eqv_ptr uPD _, rfl, rfl⟩⟩⟩, fun hB => (by cases hB), fun _ => ⟨rfl, rfl⟩⟩, ?_⟩
  rintro h3 ⟨_, rfl⟩
  have Da := Fa.2.ext Fb.1
  have hpl : (writtenS n first behind).pend.length = behind.length := by simp [writtenS]
  refine (image_c Da).mono ?_
  rintro e h4 ⟨x4, rfl⟩
  refine ⟨_, rfl, (pending_c (Da.ext x4) (by omega)).mono ?_⟩
  rintro e h5 ⟨x5, pp, pc, rfl, _⟩
  refine ⟨_, _, _, rfl, (stats_c ((Da.ext x4).ext x5)).mono ?_⟩
  rintro e h6 ⟨x6, rfl⟩
  refine ⟨_, _, _, rfl, ?_⟩
  rintro bb h7 rfl rfl
  rw [zerosStats]
  have x7 : Ext h6 (h6.push (.cells #[vI 0, vI 0, vI 0] 48)) := Ext.push _ _
  have c7 : (h6.push (.cells #[vI 0, vI 0, vI 0] 48))[h6.size]? = some (.cells #[vI 0, vI 0, vI 0] 48) := push_last
  generalize (h6.push (.cells #[vI 0, vI 0, vI 0] 48)) = h7 at x7 c7
  refine ⟨infoStats, rfl, by simp [Value.oneCell'], wrAt_of c7 (by decide) (.inl (Nat.zero_le _)), ?_⟩
  rintro h8 hh8
  have c8 := setsH_at (vs := [vZ (writtenS n first behind).reads, vZ (writtenS n first behind).writes, vZ (writtenS n first behind).flushes]) (o := 0) c7
  rw [← hh8] at c8
  have hs4 := x4.size
  have hs5 := x5.size
  have hs6 := x6.size
  have hs7 := x7.size
  have hbb : h6.size < h7.size := (Array.getElem?_eq_some_iff.1 c7).1
  have s8 : h8.size = h7.size := by rw [hh8]; exact setsH_size
  have x8 : Ext h3 h8 := by
    have : Ext h6 h8 := by
      refine x7.over ?_ (fun x hx => hx) (B := fun b => h6.size ≤ b)
      rw [hh8]; exact setsH_same (Nat.le_refl _)
    exact (x4.trans x5).trans (x6.trans this)
  have hs3 := Fb.1.size
  have Da8 := Da.ext x8
  have Db8 := Fb.2.ext x8
  have hx8 := x2.trans x8
  clear hh8 x4 x5 x6 x7 Da Fb x2
  have hp3 := pickN_lt steps (show 0 < 3 by decide)
  refine (pick_c steps 3 (by decide) ht0 ht1 h8).mono ?_
  rintro e h8' ⟨rfl, rfl⟩
  refine ⟨_, rfl, ((1 + pickN steps 3 : Nat) : Int), by rw [wrapI64] <;> omega, (cut_c Db8 _ (by omega)).mono ?_⟩
  rintro e h9 ⟨y9, z9, Db9, rfl⟩
  -- what holds of the other one's blocks
  have Q0 : ∀ b, (h1.size ≤ b ∧ b < h3.size) → h1.size ≤ b ∧ b ≠ h6.size := fun b hb => by omega
  have Da9 := Da8.other y9 fun b hb hb' => by omega
  have c9 := (y9.old h6.size (by omega) fun hb => by omega).trans c8
  have hx9 := hx8.over y9 fun b hb => by have := x1.size; omega
  have hs1' := x1.size
  refine ⟨rfl, (full_c 1 2 h9).mono ?_⟩
  rintro e h10 ⟨y10, rfl⟩
  have Da10 := Da9.ext y10
  have c10 := (y10.old h6.size (by omega)).trans c9
  have hx10 := hx9.trans y10
  have l10 := y10.size
  refine ⟨_, rfl, (write_on (Db9.ext y10) 0 _ (by rw [DS.pend_cut]; omega) Q0 (fun b hb => by omega)).mono ?_⟩
  rintro e h11 ⟨y11, ⟨B11, Db11, Q11⟩, rfl⟩
  have Da11 := Da10.other y11 fun b hb hb' => by omega
  have c11 := (y11.old h6.size (by omega) fun hb => by omega).trans c10
  have hx11 := hx10.over y11 fun b hb => by omega
  have l11 := y11.size
  refine ⟨_, rfl, (flush_c Db11).mono ?_⟩
  rintro e h12 ⟨y12, z12, Db12, rfl⟩
  have Da12 := Da11.other y12 fun b hb hb' => by have := Q11 b hb'; omega
  have c12 := (y12.old h6.size (by omega) fun hb => (Q11 _ hb).2 rfl).trans c11
  have hx12 := hx11.over y12 fun b hb => by have := Q11 b hb; omega
  refine ⟨_, rfl, (full_c 3 4 h12).mono ?_⟩
  rintro e h13 ⟨y13, rfl⟩
  have Da13 := Da12.ext y13
  have c13 := (y13.old h6.size (by omega)).trans c12
  have hx13 := hx12.trans y13
  have l13 := y13.size
  have hpl2 : (((writtenS n first behind).cut ((1 + pickN steps 3 : Nat) : Int)).write 0 (fullT 1 2)).1.flush.1.pend.length ≤ behind.length + 1 := by
    refine Nat.le_trans (DS.pend_flush _) (Nat.le_trans (DS.pend_write _ _ _) ?_)
    rw [DS.pend_cut]; omega
  refine ⟨_, rfl, (write_on (Db12.ext y13) 0 _ (by omega) Q11 (fun b hb => by omega)).mono ?_⟩
  rintro e h14 ⟨y14, ⟨B14, Db14, Q14⟩, rfl⟩
  have Da14 := Da13.other y14 fun b hb hb' => by have := Q11 b hb'; omega
  have c14 := (y14.old h6.size (by omega) fun hb => (Q11 _ hb).2 rfl).trans c13
  have hx14 := hx13.over y14 fun b hb => by have := Q11 b hb; omega
  have l14 := y14.size
  refine ⟨_, rfl, semH_buildS (t := 28) (e := 30) (by kernel_rfl) (z := 2) (by decide) infoFate (rows := [(1, 0)].map fateV) (by simp [fateV]) rfl rfl (by simp) (by simp) ⟨_, _, _, rfl, ?_⟩⟩
  have y15 : Ext h14 (h14.push (.cells ([((1 : Int), (0 : Int))].map fateV).flatten.toArray 30)) := Ext.push _ _
  have hseg : SegS (h14.push (.cells ([((1 : Int), (0 : Int))].map fateV).flatten.toArray 30)) (some ⟨h14.size, 0, none⟩) 1 2 ([((1 : Int), (0 : Int))].map fateV) :=
    ⟨rfl, by simp [fateV], .inr ⟨_, _, rfl, cellsAt_all push_last⟩⟩
  generalize (h14.push (.cells ([((1 : Int), (0 : Int))].map fateV).flatten.toArray 30)) = h15 at y15 hseg
  have Da15 := Da14.ext y15
  have c15 := (y15.old h6.size (by omega)).trans c14
  have hx15 := hx14.trans y15
  have l15 := y15.size
  have hlt := Db14.lt
  refine (crash_c (Db14.ext y15) [(1, 0)] hseg (by intro b o hp _ hb; cases hp; have := hlt _ hb; omega)).mono ?_
  rintro e h16 ⟨y16, _, rfl⟩
  have Da16 := Da15.other y16 fun b hb hb' => by have := Q14 b hb'; omega
  have c16 := (y16.old h6.size (by omega) fun hb => (Q14 _ hb).2 rfl).trans c15
  have hx16 := hx15.over y16 fun b hb => by have := Q14 b hb; omega
  refine ⟨rfl, fun h' => Ext h16 h', Ext.refl _, (image_c Da16).mono ?_⟩
  rintro e h17 ⟨x17, rfl⟩
  refine ⟨_, rfl, x17, fun _ => (pending_c (Da16.ext x17) (by omega)).mono ?_, fun hf => (by simp at hf)⟩
  rintro e h18 ⟨x18, pp2, pc2, rfl, _⟩
  have y18 := x17.trans x18
  refine ⟨_, _, _, rfl, y18, fun _ => (stats_c (Da16.ext y18)).mono ?_, fun hf => (by simp at hf)⟩
  rintro e h19 ⟨x19, rfl⟩
  have y19 := y18.trans x19
  refine ⟨_, _, _, rfl, y19, (writtenS n first behind).reads, (writtenS n first behind).writes, (writtenS n first behind).flushes, fun h' x => cellsAt_all (vs := [vZ (writtenS n first behind).reads, vZ (writtenS n first behind).writes, vZ (writtenS n first behind).flushes]) ((x.old h6.size (Array.getElem?_eq_some_iff.1 c16).1).trans c16), _,
    eqv_ints statsInts [(writtenS n first behind).reads, (writtenS n first behind).writes, (writtenS n first behind).flushes] [(writtenS n first behind).reads, (writtenS n first behind).writes, (writtenS n first behind).flushes] rfl rfl, fun _ => (off_c (Da16.ext y19)).mono ?_, fun hf => (by simp at hf)⟩
  rintro e h20 ⟨rfl, rfl⟩
  exact ⟨_, rfl, y19, rfl, hx16.trans y19⟩

end Go.Vc
