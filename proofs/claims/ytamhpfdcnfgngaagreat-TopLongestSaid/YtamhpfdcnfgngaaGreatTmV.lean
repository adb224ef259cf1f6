/- TopLongest: a list's rows turn; what its entries are. -/
import Derived.Test.YtamhpfdcnfgngaaGreatTmU
set_option maxRecDepth 10000
namespace Go.Vc
open Go Go.Proofs Go.MapKept

theorem split_at {α : Type} {l : List α} {i : Nat} {x : α} (h : l[i]? = some x) : ∃ A B, l = A ++ x :: B ∧ A.length = i ∧ ∀ y, l.set i y = A ++ y :: B := by
  obtain ⟨h1, rfl⟩ := List.getElem?_eq_some_iff.1 h
  refine ⟨l.take i, l.drop (i + 1), ?_, by simp; omega, fun y => ?_⟩
  · rw [List.getElem_cons_drop, List.take_append_drop]
  · rw [List.set_eq_take_append_cons_drop, if_pos h1]

abbrev rowsB (gs : List Gp) : List Nat := gs.flatMap fun g => g.rows.map fun p => p.2.b

section
variable {h h' : Hp} {k : Bool} {w bl N : Nat} {L : LB} {gv : Value} {gs : List Gp}

theorem LSt.setRows (T : LSt h k w bl L N gv gs) {i : Nat} {g : Gp} (hi : gs[i]? = some g) {rows' : List (B128 × Rw)} (kk : ∀ q, q ≠ g.br → h'[q]? = h[q]?) (hm : MapAt h' g.br (rows'.map fun p => (idV p.1, sl p.2.b 1 p.2.c)))
    (hrow : ∀ p ∈ rows', p ∈ g.rows ∨ (p.1 &&& msk w g.n = p.1 ∧ RowAt h k w g.n p.1 p.2)) (nd : (rows'.map (·.1)).Nodup) (nd3 : (rowsB (gs.set i { g with rows := rows' })).Nodup) : LSt h' k w bl L N gv (gs.set i { g with rows := rows' }) := by
  have hg := List.mem_of_getElem? hi
  have G := T.gp g hg
  have K : KeepsSI h h' := fun q hq => kk q (fun e => G.isM.noSI (e ▸ hq))
  obtain ⟨A, B, hAB, hA, hset⟩ := split_at hi
  have him : i < gs.length := (List.getElem?_eq_some_iff.1 hi).1
  refine ⟨(kk _ (T.tagL.neM G.isM)).trans T.blk, K.lok T.ok, ?_, fun q hq => ?_, fun x hx => ?_, ?_, ?_, nd3⟩
  · have e : (gs.set i { g with rows := rows' }).map (fun g => vP g.bg) = gs.map fun g => vP g.bg := by rw [hset, hAB]; simp
    rw [e, List.length_set]
    exact T.arr.keep fun q hq => kk q ((T.tagA hq).neM G.isM)
  · obtain ⟨p, hp⟩ := T.ptr q hq
    exact ⟨p, (cellsAt_congr (vs := [.pointer p]) (kk q ((T.tagA hq).neM G.isM)) (cellsAt_one hp)).1⟩
  · obtain ⟨j, hj⟩ := List.getElem?_of_mem hx
    rw [List.getElem?_set] at hj
    by_cases hij : i = j
    · subst hij
      rw [if_pos rfl, if_pos him] at hj
      cases hj
      refine ⟨(kk _ (G.tag.neM G.isM)).trans G.blk, K.cells G.shp rfl, G.nw, hm, fun p hp => ?_, nd⟩
      rcases hrow p hp with h1 | ⟨h1, R⟩
      · have R := (G.row p h1).2
        exact ⟨(G.row p h1).1, R.keep K (kk _ (R.tag.neM G.isM))⟩
      · exact ⟨h1, R.keep K (kk _ (R.tag.neM G.isM))⟩
    · rw [if_neg hij] at hj
      have X := T.gp x (List.mem_of_getElem? hj)
      exact X.keep K (kk _ (X.tag.neM G.isM)) (kk _ (fun e => hij (nodup_at T.nd2 hi hj e.symm))) fun p hp => kk _ ((X.row p hp).2.tag.neM G.isM)
  · have e : (gs.set i { g with rows := rows' }).map (·.bg) = gs.map (·.bg) := by rw [hset, hAB]; simp
    rw [e]; exact T.nd1
  · have e : (gs.set i { g with rows := rows' }).map (·.br) = gs.map (·.br) := by rw [hset, hAB]; simp
    rw [e]; exact T.nd2
end

/-! ## What the entries are -/

def Ent (gs : List Gp) (n : Nat) (v : B128) (y : BitVec 64) : Prop := ∃ g ∈ gs, g.n = n ∧ ∃ p ∈ g.rows, p.1 = v ∧ p.2.y = y
structure Good (k : Bool) (gs : List Gp) (N : Nat) : Prop where
  nd : (gs.map (·.n)).Nodup
  ok : ∀ g ∈ gs, g.rows ≠ [] ∧ g.m = g.rows.length ∧ g.gr = ((cond k (g.n + 1) 0 : Nat) : Int)
  sum : N = (gs.map fun g => g.rows.length).sum
theorem le_sum : ∀ {l : List Nat} {x : Nat}, x ∈ l → x ≤ l.sum
  | _ :: _, _, .head _ => by simp
  | _ :: _, _, .tail _ h => by have := le_sum h; simp; omega
theorem len_sum : ∀ {l : List Nat}, (∀ x ∈ l, 1 ≤ x) → l.length ≤ l.sum
  | [], _ => by simp
  | x :: l, h => by have h1 := h x (by simp); have := len_sum (l := l) fun y hy => h y (by simp [hy]); simp; omega
theorem Good.len {k : Bool} {gs : List Gp} {N : Nat} (G : Good k gs N) : gs.length ≤ N := by
  rw [G.sum]
  have := len_sum (l := gs.map fun g => g.rows.length) fun x hx => by
    obtain ⟨g, hg, rfl⟩ := List.mem_map.1 hx
    exact List.length_pos_iff.2 (G.ok g hg).1
  simpa using this
theorem Good.rows {k : Bool} {gs : List Gp} {N : Nat} (G : Good k gs N) {g : Gp} (hg : g ∈ gs) : g.rows.length ≤ N := by
  rw [G.sum]; exact le_sum (List.mem_map.2 ⟨g, hg, rfl⟩)

theorem findG_some {gs : List Gp} {n : Nat} {g : Gp} (h : findG gs n = some g) : g ∈ gs ∧ g.n = n := by
  have h1 := List.mem_of_find?_eq_some h
  have h2 := List.find?_some h
  exact ⟨h1, by simpa using h2⟩
theorem findG_mem {gs : List Gp} {n : Nat} (nd : (gs.map (·.n)).Nodup) {g : Gp} (hg : g ∈ gs) (hn : g.n = n) : findG gs n = some g := by
  cases hf : findG gs n with
  | none =>
    have := List.find?_eq_none.1 hf g hg
    simp [hn] at this
  | some g' =>
    obtain ⟨h1, h2⟩ := findG_some hf
    obtain ⟨i, hi⟩ := List.getElem?_of_mem hg
    obtain ⟨j, hj⟩ := List.getElem?_of_mem h1
    have := nodup_at nd hi hj (hn.trans h2.symm)
    subst this
    rw [hi] at hj; cases hj; rfl
theorem has_ent {gs : List Gp} {n : Nat} {v : B128} (nd : (gs.map (·.n)).Nodup) : hasV (findG gs n) v = true ↔ ∃ y, Ent gs n v y := by
  constructor
  · intro h
    cases hf : findG gs n with
    | none => rw [hf] at h; cases h
    | some g =>
      rw [hf] at h
      simp only [hasV, List.any_eq_true, decide_eq_true_eq] at h
      obtain ⟨p, hp, rfl⟩ := h
      obtain ⟨h1, h2⟩ := findG_some hf
      exact ⟨p.2.y, g, h1, h2, p, hp, rfl, rfl⟩
  · rintro ⟨y, g, hg, hn, p, hp, rfl, rfl⟩
    rw [findG_mem nd hg hn]
    simp only [hasV, List.any_eq_true, decide_eq_true_eq]
    exact ⟨p, hp, rfl⟩
theorem Ent.perm {gs gs' : List Gp} (hp : gs'.Perm gs) {n : Nat} {v : B128} {y : BitVec 64} : Ent gs' n v y ↔ Ent gs n v y := by
  simp only [Ent, hp.mem_iff]

theorem sum_perm {l l' : List Nat} (h : l.Perm l') : l.sum = l'.sum := h.sum_nat

theorem ent_add {gs : List Gp} {i : Nat} {g : Gp} (hi : gs[i]? = some g) {v : B128} {r : Rw} {m : Nat} {gr : Int} {n' : Nat} {v' : B128} {y' : BitVec 64} :
    Ent (gs.set i { g with rows := g.rows ++ [(v, r)], m := m, gr := gr }) n' v' y' ↔ Ent gs n' v' y' ∨ (n' = g.n ∧ v' = v ∧ y' = r.y) := by
  obtain ⟨A, B, hAB, hA, hset⟩ := split_at hi
  rw [hset, hAB]
  unfold Ent
  simp only [List.mem_append, List.mem_cons]
  constructor
  · rintro ⟨x, (hx | rfl | hx), hn, p, hp, rfl, rfl⟩
    · exact .inl ⟨x, .inl hx, hn, p, hp, rfl, rfl⟩
    · simp only [List.mem_append, List.mem_singleton] at hp
      rcases hp with hp | rfl
      · exact .inl ⟨g, .inr (.inl rfl), hn, p, hp, rfl, rfl⟩
      · exact .inr ⟨hn.symm, rfl, rfl⟩
    · exact .inl ⟨x, .inr (.inr hx), hn, p, hp, rfl, rfl⟩
  · rintro (⟨x, (hx | rfl | hx), hn, p, hp, rfl, rfl⟩ | ⟨rfl, rfl, rfl⟩)
    · exact ⟨x, .inl hx, hn, p, hp, rfl, rfl⟩
    · exact ⟨_, .inr (.inl rfl), hn, p, by simp [hp], rfl, rfl⟩
    · exact ⟨x, .inr (.inr hx), hn, p, hp, rfl, rfl⟩
    · exact ⟨_, .inr (.inl rfl), rfl, (v', r), by simp, rfl, rfl⟩
theorem nd3_add {gs : List Gp} {i : Nat} {g : Gp} (hi : gs[i]? = some g) {v : B128} {r : Rw} (nd : (rowsB gs).Nodup) (hr : r.b ∉ rowsB gs) : (rowsB (gs.set i { g with rows := g.rows ++ [(v, r)] })).Nodup := by
  obtain ⟨A, B, hAB, hA, hset⟩ := split_at hi
  have e : (rowsB (gs.set i { g with rows := g.rows ++ [(v, r)] })).Perm (r.b :: rowsB gs) := by
    rw [hset, hAB]
    simp only [rowsB, List.flatMap_append, List.flatMap_cons, List.map_append, List.map_cons, List.map_nil, List.append_assoc]
    refine List.Perm.trans ?_ (List.perm_middle (a := r.b) (l₁ := A.flatMap fun g => g.rows.map fun p => p.2.b) (l₂ := g.rows.map (fun p => p.2.b) ++ B.flatMap fun g => g.rows.map fun p => p.2.b))
    refine List.Perm.append_left _ ?_
    exact List.perm_middle
  rw [e.nodup_iff]
  exact List.nodup_cons.2 ⟨hr, nd⟩
end Go.Vc
