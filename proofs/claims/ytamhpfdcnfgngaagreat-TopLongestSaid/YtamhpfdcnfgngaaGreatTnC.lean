/- TopLongest: a row goes: the plain law and the list in memory. -/
import Derived.Test.YtamhpfdcnfgngaaGreatTnB
set_option maxRecDepth 10000
namespace Go.Vc
open Go Go.Proofs Go.MapKept

theorem srt_iff {l : List Gp} : Srt l 0 l.length ↔ (l.map (·.gr)).Pairwise (fun a b => b ≤ a) := by
  rw [List.pairwise_iff_getElem]
  constructor
  · intro h i j hi hj hij
    simp only [List.length_map] at hi hj
    have := h i j (Nat.zero_le _) hij hj
    rw [ga_eq hi, ga_eq hj] at this
    simpa using this
  · intro h x y _ hxy hy
    have := h x y (by simp; omega) (by simpa using hy) hxy
    rw [ga_eq hy, ga_eq (Nat.lt_trans hxy hy)]
    simpa using this

theorem split_erase {α : Type} {l : List α} {i : Nat} {x : α} (h : l[i]? = some x) : ∃ A B, l = A ++ x :: B ∧ A.length = i ∧ l.eraseIdx i = A ++ B := by
  obtain ⟨A, B, h1, h2, _⟩ := split_at h
  refine ⟨A, B, h1, h2, ?_⟩
  rw [h1, ← h2, List.eraseIdx_append_of_length_le (Nat.le_refl _)]
  simp

section
variable {k : Bool} {gs : List Gp} {N : Nat}

theorem drop_good {i j n : Nat} {g : Gp} {v : B128} {r : Rw} (G0 : Good k gs N) (S0 : Srt gs 0 gs.length) (hi : gs[i]? = some g) (hn : g.n = n) (hj : g.rows[j]? = some (v, r)) (nd : (g.rows.map (·.1)).Nodup) {gs4 : List Gp}
    (h4 : (g.m - 1 ≠ 0 ∧ gs4 = gs.set i { g with rows := g.rows.eraseIdx j, m := g.m - 1 }) ∨ (g.m - 1 = 0 ∧ gs4 = gs.eraseIdx i)) :
    Good k gs4 (N - 1) ∧ Srt gs4 0 gs4.length ∧ ∀ n' v' y', Ent gs4 n' v' y' ↔ Ent gs n' v' y' ∧ ¬ (n' = n ∧ v' = v) := by
  subst hn
  obtain ⟨A, B, hAB, hA, hset⟩ := split_at hi
  have herase : gs.eraseIdx i = A ++ B := by
    rw [hAB, ← hA, List.eraseIdx_append_of_length_le (Nat.le_refl _)]; simp
  obtain ⟨C, D, hCD, hC, hers⟩ := split_erase hj
  have hgm := G0.ok g (List.mem_of_getElem? hi)
  have hoth : ∀ x, x ∈ A ∨ x ∈ B → x ∈ gs := fun x hx => by rw [hAB]; simp only [List.mem_append, List.mem_cons]; exact hx.imp id .inr
  have hon : ∀ x, x ∈ A ∨ x ∈ B → x.n ≠ g.n := fun x hx e => by
    have h1 := G0.nd
    rw [hAB] at h1
    simp only [List.map_append, List.map_cons] at h1
    rw [List.perm_middle.nodup_iff, List.nodup_cons, ← List.map_append] at h1
    exact h1.1 (List.mem_map.2 ⟨x, List.mem_append.2 hx, e⟩)
  have hrow : ∀ p, p ∈ C ∨ p ∈ D → p.1 ≠ v := fun p hp e => by
    rw [hCD] at nd
    simp only [List.map_append, List.map_cons] at nd
    rw [List.perm_middle.nodup_iff, List.nodup_cons, ← List.map_append] at nd
    exact nd.1 (List.mem_map.2 ⟨p, List.mem_append.2 hp, e⟩)
  have hs := srt_iff.1 S0
  have hlen : g.rows.length = C.length + D.length + 1 := by rw [hCD]; simp; omega
  rcases h4 with ⟨h1, rfl⟩ | ⟨h1, rfl⟩
  · rw [hset, hers]
    have egr : (A ++ ({ g with rows := C ++ D, m := g.m - 1 } : Gp) :: B).map (·.gr) = gs.map (·.gr) := by rw [hAB]; simp
    have en : (A ++ ({ g with rows := C ++ D, m := g.m - 1 } : Gp) :: B).map (·.n) = gs.map (·.n) := by rw [hAB]; simp
    refine ⟨⟨by rw [en]; exact G0.nd, fun x hx => ?_, ?_⟩, srt_iff.2 (by rw [egr]; exact hs), fun n' v' y' => ?_⟩
    · simp only [List.mem_append, List.mem_cons] at hx
      rcases hx with hx | rfl | hx
      · exact G0.ok x (hoth x (.inl hx))
      · refine ⟨fun e => ?_, ?_, hgm.2.2⟩
        · have e : C ++ D = [] := e
          have := congrArg List.length e
          rw [List.length_append, List.length_nil] at this
          have := hgm.2.1
          omega
        · show g.m - 1 = (C ++ D).length
          rw [hgm.2.1, hlen]; simp
      · exact G0.ok x (hoth x (.inr hx))
    · rw [G0.sum, hAB]; simp [hCD]; omega
    · unfold Ent
      rw [hAB]
      simp only [List.mem_append, List.mem_cons]
      constructor
      · rintro ⟨x, (hx | rfl | hx), hn, p, hp, rfl, rfl⟩
        · exact ⟨⟨x, .inl hx, hn, p, hp, rfl, rfl⟩, fun e => hon x (.inl hx) (hn.trans e.1)⟩
        · have hp : p ∈ C ++ D := hp
          exact ⟨⟨g, .inr (.inl rfl), hn, p, by rw [hCD]; simp only [List.mem_append, List.mem_cons]; exact (List.mem_append.1 hp).imp id .inr, rfl, rfl⟩, fun e => hrow p (List.mem_append.1 hp) e.2⟩
        · exact ⟨⟨x, .inr (.inr hx), hn, p, hp, rfl, rfl⟩, fun e => hon x (.inr hx) (hn.trans e.1)⟩
      · rintro ⟨⟨x, (hx | rfl | hx), hn, p, hp, rfl, rfl⟩, hne⟩
        · exact ⟨x, .inl hx, hn, p, hp, rfl, rfl⟩
        · refine ⟨_, .inr (.inl rfl), hn, p, ?_, rfl, rfl⟩
          rw [hCD] at hp
          simp only [List.mem_append, List.mem_cons] at hp ⊢
          rcases hp with hp | rfl | hp
          · exact .inl hp
          · exact (hne ⟨hn.symm, rfl⟩).elim
          · exact .inr hp
        · exact ⟨x, .inr (.inr hx), hn, p, hp, rfl, rfl⟩
  · rw [herase]
    have h0 : C = [] ∧ D = [] := by
      rw [hgm.2.1, hlen] at h1
      exact ⟨List.length_eq_zero_iff.1 (by omega), List.length_eq_zero_iff.1 (by omega)⟩
    have hsub : List.Sublist (A ++ B) gs := by rw [hAB]; exact (List.Sublist.refl A).append (List.sublist_cons_self g B)
    refine ⟨⟨(hsub.map _).nodup G0.nd, fun x hx => G0.ok x (hoth x (List.mem_append.1 hx)), ?_⟩, srt_iff.2 (hs.sublist (hsub.map _)), fun n' v' y' => ?_⟩
    · rw [G0.sum, hAB]; simp [hCD, h0.1, h0.2]; omega
    · unfold Ent
      rw [hAB]
      simp only [List.mem_append, List.mem_cons]
      constructor
      · rintro ⟨x, hx, hn, p, hp, rfl, rfl⟩
        exact ⟨⟨x, hx.imp id .inr, hn, p, hp, rfl, rfl⟩, fun e => hon x hx (hn.trans e.1)⟩
      · rintro ⟨⟨x, (hx | rfl | hx), hn, p, hp, rfl, rfl⟩, hne⟩
        · exact ⟨x, .inl hx, hn, p, hp, rfl, rfl⟩
        · rw [hCD, h0.1, h0.2] at hp
          simp only [List.nil_append, List.mem_singleton] at hp
          subst hp
          exact (hne ⟨hn.symm, rfl⟩).elim
        · exact ⟨x, .inr hx, hn, p, hp, rfl, rfl⟩
end

section
variable {h h' : Hp} {k : Bool} {w bl N : Nat} {L : LB} {gv : Value} {gs : List Gp}

theorem rowsB_set {gs : List Gp} {i j : Nat} {g : Gp} {v : B128} {r : Rw} (hi : gs[i]? = some g) (hj : g.rows[j]? = some (v, r)) : (rowsB gs).Perm (r.b :: rowsB (gs.set i { g with rows := g.rows.eraseIdx j })) := by
  obtain ⟨A, B, hAB, hA, hset⟩ := split_at hi
  obtain ⟨C, D, hCD, hC, hers⟩ := split_erase hj
  rw [hset, hers, hAB]
  simp only [rowsB, List.flatMap_append, List.flatMap_cons, hCD, List.map_append, List.map_cons, List.append_assoc, List.cons_append]
  refine List.Perm.trans (List.Perm.append_left _ List.perm_middle) List.perm_middle

theorem LSt.dropRow (T : LSt h k w bl L N gv gs) {i j : Nat} {g : Gp} {v : B128} {r : Rw} (hi : gs[i]? = some g) (hj : g.rows[j]? = some (v, r)) (kk : ∀ q, q ≠ g.br → q ≠ r.b → h'[q]? = h[q]?) (hm : MapAt h' g.br ((g.rows.eraseIdx j).map fun p => (idV p.1, sl p.2.b 1 p.2.c))) :
    LSt h' k w bl L N gv (gs.set i { g with rows := g.rows.eraseIdx j }) := by
  have hg := List.mem_of_getElem? hi
  have G := T.gp g hg
  have R := (G.row _ (List.mem_of_getElem? hj)).2
  have hp := rowsB_set hi hj
  have hnd : r.b ∉ rowsB (gs.set i { g with rows := g.rows.eraseIdx j }) ∧ (rowsB (gs.set i { g with rows := g.rows.eraseIdx j })).Nodup := List.nodup_cons.1 (hp.nodup_iff.1 T.nd3)
  have K : KeepsSI h h' := fun q hq => kk q (fun e => G.isM.noSI (e ▸ hq)) (fun e => R.noSI (e ▸ hq))
  obtain ⟨A, B, hAB, hA, hset⟩ := split_at hi
  have him : i < gs.length := (List.getElem?_eq_some_iff.1 hi).1
  have hrb : ∀ x ∈ gs.set i { g with rows := g.rows.eraseIdx j }, ∀ p ∈ x.rows, p.2.b ≠ r.b := fun x hx p hp e => hnd.1 (by rw [← e]; exact List.mem_flatMap.2 ⟨x, hx, List.mem_map.2 ⟨p, hp, rfl⟩⟩)
  refine ⟨(kk _ (T.tagL.neM G.isM) (T.tagL.ne R.tag (by decide))).trans T.blk, K.lok T.ok, ?_, fun q hq => ?_, fun x hx => ?_, ?_, ?_, hnd.2⟩
  · have e : (gs.set i { g with rows := g.rows.eraseIdx j }).map (fun g => vP g.bg) = gs.map fun g => vP g.bg := by rw [hset, hAB]; simp
    rw [e, List.length_set]
    exact T.arr.keep fun q hq => kk q ((T.tagA hq).neM G.isM) ((T.tagA hq).ne R.tag (by decide))
  · obtain ⟨p, hp⟩ := T.ptr q hq
    exact ⟨p, (cellsAt_congr (vs := [.pointer p]) (kk q ((T.tagA hq).neM G.isM) ((T.tagA hq).ne R.tag (by decide))) (cellsAt_one hp)).1⟩
  · have hrx := hrb x hx
    obtain ⟨l, hl⟩ := List.getElem?_of_mem hx
    rw [List.getElem?_set] at hl
    by_cases hij : i = l
    · subst hij
      rw [if_pos rfl, if_pos him] at hl
      cases hl
      refine ⟨(kk _ (G.tag.neM G.isM) (G.tag.ne R.tag (by decide))).trans G.blk, K.cells G.shp rfl, G.nw, hm, fun p hp => ?_, ?_⟩
      · have hp' : p ∈ g.rows := (List.eraseIdx_sublist _ _).subset hp
        have R' := (G.row p hp').2
        exact ⟨(G.row p hp').1, R'.keep K (kk _ (R'.tag.neM G.isM) (hrx p hp))⟩
      · exact ((List.eraseIdx_sublist _ _).map _).nodup G.nd
    · rw [if_neg hij] at hl
      have X := T.gp x (List.mem_of_getElem? hl)
      exact X.keep K (kk _ (X.tag.neM G.isM) (X.tag.ne R.tag (by decide))) (kk _ (fun e => hij (nodup_at T.nd2 hi hl e.symm)) (fun e => R.tag.neM X.isM e.symm)) fun p hp => kk _ ((X.row p hp).2.tag.neM G.isM) (hrx p hp)
  · have e : (gs.set i { g with rows := g.rows.eraseIdx j }).map (·.bg) = gs.map (·.bg) := by rw [hset, hAB]; simp
    rw [e]; exact T.nd1
  · have e : (gs.set i { g with rows := g.rows.eraseIdx j }).map (·.br) = gs.map (·.br) := by rw [hset, hAB]; simp
    rw [e]; exact T.nd2
end
end Go.Vc
