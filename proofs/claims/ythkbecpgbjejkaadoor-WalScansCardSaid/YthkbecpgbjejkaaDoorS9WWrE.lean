/- The log's laws: Scan and Last of any bytes. -/
import Derived.Test.YthkbecpgbjejkaaDoorS9WWrD
import Derived.Test.YthkbecpgbjejkaaDoorS9WWlX
set_option maxRecDepth 10000
namespace Go.Vc
open Go Go.Proofs Go.MapKept

section
variable {h : Hp} {a0 a1 : Addr}

set_option maxHeartbeats 1000000 in
/-- turnoutlaw19.WalScans -/
theorem scans_law (image : ByteArray) (himg : image.size ≤ 9223372036854775807) (first count : Int) (f1 : first ≤ 9223372036854775807) (e : Nat) (hh : Halves h) (G : Errs h a0 a1) :
    CallsH Tryd.prog 6 #[.string image, vZ first, vZ count, vU e] h (RetX (.bool true) h) := by
  refine V6 _ _ _ _ h _ ((awake_c hh G).mono ?_)
  rintro _ h1 ⟨rfl, x1⟩
  refine ⟨_, rfl, (load_c image himg).mono ?_⟩
  rintro _ h2 (⟨hn, rfl, rfl⟩ | ⟨ho, d, ⟨x2, X2⟩, rfl⟩)
  · refine ⟨_, _, rfl, (rLoad_c image himg).mono ?_⟩
    rintro _ h3 (⟨_, rfl, rfl⟩ | ⟨ho, _⟩)
    rotate_left
    · exact (hn ho).elim
    exact ⟨_, _, rfl, fun _ hq => hq = h3, ⟨false, ⟨fun hf => (by cases hf), fun _ => ⟨fun hf => (by simp at hf), fun _ => ⟨true, eqv_nil uPD, true, eqv_nil uPRd, true, eqv_bool uBool _ _, rfl, rfl⟩⟩⟩, fun hf => (by cases hf), fun _ => rfl⟩,
      fun hq e => ⟨fun _ _ => False, ⟨true, ⟨true, eqv_nil uPD, fun _ => ⟨rfl, rfl⟩, fun hf => (by cases hf)⟩, fun _ => ⟨rfl, by rw [e]; exact x1⟩, fun hf => (by cases hf)⟩, fun _ hf => hf.elim⟩⟩
  refine ⟨_, _, rfl, (rLoad_c image himg).mono ?_⟩
  rintro _ h3 (⟨hn, _⟩ | ⟨_, q, ⟨x3, Y3⟩, rfl⟩)
  · exact (hn ho).elim
  refine ⟨_, _, rfl, fun _ hq => hq = h3, ⟨false, ⟨fun hf => (by cases hf), fun _ => ⟨fun hf => (by simp at hf), fun _ => ⟨false, eqv_ptr uPD _, false, eqv_ptr uPRd _, true, eqv_bool uBool _ _, rfl, rfl⟩⟩⟩, fun hf => (by cases hf), fun _ => rfl⟩, ?_⟩
  rintro h3' rfl
  refine ⟨fun _ hq => hq = h3', ⟨false, ⟨false, eqv_ptr uPD _, fun hf => (by cases hf), fun _ => ⟨false, eqv_ptr uPRd _, rfl, rfl⟩⟩, fun hf => (by cases hf), fun _ => rfl⟩, ?_⟩
  rintro h3' rfl
  intro s h4 hs e4
  have x4 : Ext h3' h4 := by rw [e4]; exact Ext.push _ _
  have cs : h4[s]? = some (.cells #[vP d, vP q, .pointer none, .pointer none] 64) := by rw [e4, hs]; exact push_last
  clear e4
  have s1 := x1.size
  have s2 := x2.size
  have s3 := x3.size
  have xAll := ((x1.trans x2).trans x3).trans x4
  have X4 := X2.ext (x3.trans x4)
  have Y4 := Y3.ext x4
  obtain ⟨B1, hB1⟩ : ∃ B : Nat → Prop, B = fun b => h1.size ≤ b ∧ b < h2.size := ⟨_, rfl⟩
  obtain ⟨B2, hB2⟩ : ∃ B : Nat → Prop, B = fun b => h2.size ≤ b ∧ b < h3'.size := ⟨_, rfl⟩
  rw [← hB1] at X4
  rw [← hB2] at Y4
  have dis : ∀ b, B1 b → ¬ B2 b := fun b h1 h2 => by rw [hB1] at h1; rw [hB2] at h2; omega
  have hor : ∀ b, Or2 B1 B2 b → h.size ≤ b ∧ b < h3'.size := fun b hb => by
    rcases hb with hb | hb
    · rw [hB1] at hb; omega
    · rw [hB2] at hb; omega
  have g4 : Gl (Or2 B1 B2) h4 a0 a1 := Gl.fresh hh G (fun b hb => (hor b hb).1) xAll
  have ns : ¬ Or2 B1 B2 s := fun hb => by have := (hor s hb).2; omega
  refine (scans_c X4 Y4 (Rds.refl _) dis g4 cs ns first count f1 e).mono ?_
  rintro _ h5 ⟨σ5, τ5, y5, X5, Y5, r5, t5, rfl⟩
  have g5 := g4.kp (Kp.same y5)
  have cs5 := (y5.old s (Array.getElem?_eq_some_iff.1 cs).1 ns).trans cs
  refine ⟨_, rfl, (lasts_c X5 Y5 (r5.symm.trans t5) dis g5 cs5 ns first count f1).mono ?_⟩
  rintro _ h6 ⟨σ6, τ6, y6, X6, Y6, r6, t6, rfl⟩
  have r06 := r5.trans r6
  refine ⟨_, rfl, (stats_c X6).mono ?_⟩
  rintro _ h7 ⟨x7, rfl⟩
  refine ⟨_, _, _, rfl, ?_⟩
  intro b h8 hb e8
  rw [zerosStats] at e8
  refine ⟨infoStats, rfl, by simp [Value.oneCell'], wr_new (zs := [_, _, _]) hb e8 rfl, ?_⟩
  intro h9 e9
  obtain ⟨x9, c9, _⟩ := new_set (zs := [_, _, _]) hb e8 (by rfl) e9
  have hw : σ6.writes = 0 ∧ σ6.flushes = 0 := by obtain ⟨_, rfl⟩ := r06; exact ⟨rfl, rfl⟩
  rw [hw.1, hw.2] at c9
  have y49 : Same (Or2 B1 B2) h4 h9 := ((y5.trans y6 fun _ h _ => h).trans (x7.same _) fun _ h _ => h).trans (x9.same _) fun _ h _ => h
  refine ⟨true, ⟨fun _ => ⟨fun _ => ⟨_, cellsAt_one (cellH_at c9), fun _ => ⟨_, cellsAt_one (cellH_at c9), rfl, by simp⟩, fun hf => (by simp at hf)⟩, fun hf => (by cases hf)⟩, fun hf => (by cases hf)⟩, rfl, xAll.over y49 fun b hb => (hor b hb).1⟩

end
end Go.Vc
