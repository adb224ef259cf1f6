/- TopLongest: List.Put. -/
import Derived.Test.YtamhpfdcnfgngaaGreatTmV
set_option maxRecDepth 10000
namespace Go.Vc
open Go Go.Proofs Go.MapKept Go.WideMaps

theorem row176 : RowT Tryz.prog 176 53 4 72 := RowT.of (by kernel_rfl)
theorem row142 : RowT Tryz.prog 142 239 1 8 := RowT.of (by kernel_rfl)
theorem buildS_hi {P : Program} {t e : TypeId} {z b : Nat} (T : RowT P t e z b) : ∃ i y, P.info? e = some i ∧ i.zero = some y ∧ i.size = z ∧ y.cells.size = z :=
  let ⟨i, y, h1, h2, h3, _, h5⟩ := T.hi; ⟨i, y, h1, h2, h3, h5⟩

section
variable {h : Hp} {w : Nat} {k : Bool} {L : LB} {bl N : Nat} {gv : Value} {gs : List Gp}

theorem ins_c {vb vc : Nat} {vs : List Value} (hc : cellsAt h vb 0 vs) (hl : vs.length = 4) (h1 : ∀ v ∈ vs, v.oneCell' = true) :
    CallsH Tryz.prog 166 #[nilS, vI 0, sl vb 1 vc] h fun e h' => ∃ b c, e = .returned (sl b 1 c) ∧ Ext h h' ∧ Own h' h.size 53 4 (sl b 1 c) 1 vs := by
  refine V166 _ _ _ _ _ _ _ h _ ⟨0, rfl, by decide, by decide, _, rfl, fun hf => absurd hf (by decide), fun _ => ⟨fun _ => ?_, fun hf => absurd hf (by decide)⟩⟩
  refine semH_append row176 (by decide) (Own.nil h h.size 53 4) (a := ⟨vb, 0, none⟩) (m := 1) (news := vs) hl ?_ h1 (by decide) (by decide) (Nat.le_refl _) fun v' h' ho hg _ _ => ?_
  · intro j u hj
    rw [addr_add]
    have := cellsAt_iff.1 hc j (List.getElem?_eq_some_iff.1 hj).1
    rw [(List.getElem?_eq_some_iff.1 hj).2] at this
    exact this
  · rw [Nat.zero_add, List.nil_append] at ho
    have x : Ext h h' := ⟨hg.size, fun q hq => hg.block q hq (by simp [Value.ownBlock])⟩
    rcases ho.2 with ⟨_, hh⟩ | ⟨g, cap, cur, hv, _⟩
    · omega
    · subst hv
      exact ⟨_, _, _, rfl, g, cap, rfl, x, ho⟩

theorem run_lookW_no {r : Nat} {l : List (Value × Value)} {u : World} {v : B128} (m : MapAt u.heap r l) (hks : ∀ x ∈ l, KeyIs Tryz.prog 241 x.1) (hno : ∀ x ∈ l, x.1 ≠ idV v) :
    (Instr.lookup 244 (.map (some r)) (idV v) false).run Tryz.prog u = .ok nilS u := by
  obtain ⟨es, c, hb, rfl⟩ := m
  obtain ⟨i, hi, hz⟩ := Option.bind_eq_some_iff.1 mapG.hz
  obtain ⟨lk, hlk⟩ := key_id v
  have hks' : ∀ x ∈ es.toList, ∃ l, keyOf Tryz.prog 241 x.key = some l := fun x hx => hks (x.key, x.val) (List.mem_map.2 ⟨x, hx, rfl⟩)
  rcases mapG.K.find u hlk es.toList hks' with ⟨hf, _⟩ | ⟨j, e, hf, hj, hek⟩
  · simp [Instr.lookup, run_underlying mapG.ht, MapKept.run_getObj_map hb, mapG.K.check u _ hlk, hf, zeroValue, typeInfo, hi, hz]
  · exact (hno (e.key, e.val) (List.mem_map.2 ⟨e, List.mem_of_getElem? hj, rfl⟩) hek).elim

theorem Gp.keys {g : Gp} : ∀ x ∈ g.ents, KeyIs Tryz.prog 241 x.1 := fun x hx => by
  obtain ⟨p, _, rfl⟩ := List.mem_map.1 hx
  exact key_id _
theorem Gp.absent {g : Gp} {v : B128} (hno : hasV (some g) v = false) : ∀ x ∈ g.ents, x.1 ≠ idV v := fun x hx e => by
  obtain ⟨p, hp, rfl⟩ := List.mem_map.1 hx
  have := idV_inj e
  simp only [hasV, List.any_eq_false, decide_eq_true_eq] at hno
  exact hno p hp this

structure Fr (F : Nat → Prop) (h h' : Hp) : Prop where
  size : h.size ≤ h'.size
  old : ∀ q, q < h.size → ¬ F q → h'[q]? = h[q]?
theorem Fr.of_ext {F : Nat → Prop} {h h' : Hp} (x : Ext h h') : Fr F h h' := ⟨x.size, fun q hq _ => x.old q hq⟩
theorem Fr.trans {F F' : Nat → Prop} {h h1 h2 : Hp} (a : Fr F h h1) (b : Fr F' h1 h2) (hF : ∀ q, F' q → F q ∨ h.size ≤ q) : Fr F h h2 :=
  ⟨Nat.le_trans a.size b.size, fun q hq hn => (b.old q (Nat.lt_of_lt_of_le hq a.size) (fun hf => (hF q hf).elim hn (fun h3 => by omega))).trans (a.old q hq hn)⟩
theorem Fr.one {F : Nat → Prop} {h h' : Hp} {b : Nat} (hs : h'.size = h.size) (kk : ∀ q, q ≠ b → h'[q]? = h[q]?) (hb : F b) : Fr F h h' := ⟨by rw [hs]; exact Nat.le_refl _, fun q _ hn => kk q (fun e => hn (e ▸ hb))⟩

structure PutAt (h q : Hp) (k : Bool) (w bl : Nat) (L : LB) (N : Nat) (gv : Value) (gs : List Gp) (n : Nat) (v : B128) (gv' : Value) (gs' : List Gp) (i : Nat) (g : Gp) : Prop where
  st : LSt q k w bl L N gv' gs'
  at_ : gs'[i]? = some g
  gn : g.n = n
  no : hasV (some g) v = false
  fr : Fr (Foot bl gv gs) h q
  own : ∀ b, gv'.ownBlock = some b → gv.ownBlock = some b ∨ h.size ≤ b
  dis : (gs' = gs) ∨ (gs' = gs ++ [g] ∧ g.rows = [] ∧ g.m = 0 ∧ g.gr = 0 ∧ findG gs n = none ∧ h.size ≤ g.bg ∧ h.size ≤ g.br)

theorem PutAt.foot {q : Hp} {n : Nat} {v : B128} {gv' : Value} {gs' : List Gp} {i : Nat} {g : Gp} (P : PutAt h q k w bl L N gv gs n v gv' gs' i g) {b : Nat} (hb : Foot bl gv' gs' b) : Foot bl gv gs b ∨ h.size ≤ b := by
  rcases hb with rfl | hb | ⟨x, hx, hb⟩
  · exact .inl (.inl rfl)
  · exact (P.own b hb).imp (fun e => .inr (.inl e)) id
  · rcases P.dis with rfl | ⟨rfl, hr, _, _, _, h1, h2⟩
    · exact .inl (.inr (.inr ⟨x, hx, hb⟩))
    · rcases List.mem_append.1 hx with hx | hx
      · exact .inl (.inr (.inr ⟨x, hx, hb⟩))
      · obtain rfl := List.mem_singleton.1 hx
        rw [hr] at hb
        rcases hb with rfl | rfl | ⟨p, hp, _⟩
        · exact .inr h1
        · exact .inr h2
        · cases hp

theorem put_good {n : Nat} {v : B128} {r : Rw} {gv' : Value} {gs' : List Gp} {i : Nat} {g : Gp} {q : Hp} (G0 : Good k gs N) (P : PutAt h q k w bl L N gv gs n v gv' gs' i g) {gs4 : List Gp}
    (hp : gs4.Perm (gs'.set i { g with rows := g.rows ++ [(v, r)], m := g.m + 1, gr := max g.gr ((cond k (n + 1) 0 : Nat) : Int) }))   :
    Good k gs4 (N + 1) ∧ ∀ n' v' y', Ent gs4 n' v' y' ↔ Ent gs n' v' y' ∨ (n' = n ∧ v' = v ∧ y' = r.y) := by
  obtain ⟨A, B, hAB, hA, hset⟩ := split_at P.at_
  rw [hset] at hp
  have hnd : (gs'.map (·.n)).Nodup := by
    rcases P.dis with e | ⟨e, _, _, _, hf, _⟩
    · rw [e]; exact G0.nd
    · rw [e, List.map_append, List.map_cons, List.map_nil, P.gn]
      have : n ∉ gs.map (·.n) := by
        intro hm
        obtain ⟨x, hx, hxn⟩ := List.mem_map.1 hm
        have := List.find?_eq_none.1 hf x hx
        simp [hxn] at this
      exact List.nodup_append.2 ⟨G0.nd, by simp, fun a ha b hb => by
        rw [List.mem_singleton] at hb; subst hb; rintro rfl; exact this ha⟩
  have hok : ∀ x ∈ gs', x ≠ g ∨ x ∈ gs → x ∈ gs ∨ x = g := fun x hx _ => by
    rcases P.dis with e | ⟨e, _⟩
    · rw [e] at hx; exact .inl hx
    · rw [e] at hx
      rcases List.mem_append.1 hx with h1 | h1
      · exact .inl h1
      · exact .inr (List.mem_singleton.1 h1)
  have hsum : N = (gs'.map fun g => g.rows.length).sum := by
    rcases P.dis with e | ⟨e, hr, _⟩
    · rw [e]; exact G0.sum
    · rw [e, G0.sum]; simp [hr]
  have hmg : g.m = g.rows.length ∧ max g.gr ((cond k (n + 1) 0 : Nat) : Int) = ((cond k (n + 1) 0 : Nat) : Int) := by
    rcases P.dis with e | ⟨_, hr, hm, hg, _⟩
    · have hg : g ∈ gs := by rw [← e]; exact List.mem_of_getElem? P.at_
      obtain ⟨_, h2, h3⟩ := G0.ok g hg
      rw [P.gn] at h3
      exact ⟨h2, by rw [h3, Int.max_self]⟩
    · rw [hr, hm, hg]; exact ⟨rfl, by omega⟩
  have hoth : ∀ x ∈ A ++ B, x.rows ≠ [] ∧ x.m = x.rows.length ∧ x.gr = ((cond k (x.n + 1) 0 : Nat) : Int) := by
    intro x hx
    have hx' : x ∈ gs' := by rw [hAB]; simp only [List.mem_append, List.mem_cons] at hx ⊢; exact hx.imp id .inr
    rcases P.dis with e | ⟨e, hr, _⟩
    · rw [e] at hx'; exact G0.ok x hx'
    · rw [e] at hx'
      rcases List.mem_append.1 hx' with h1 | h1
      · exact G0.ok x h1
      · obtain rfl := List.mem_singleton.1 h1
        exfalso
        rw [hAB] at hnd
        simp only [List.map_append, List.map_cons] at hnd
        rw [List.perm_middle.nodup_iff, List.nodup_cons] at hnd
        exact hnd.1 (by rw [← List.map_append]; exact List.mem_map.2 ⟨x, hx, rfl⟩)
  refine ⟨⟨?_, ?_, ?_⟩, fun n' v' y' => ?_⟩
  · rw [(hp.map _).nodup_iff]
    rw [hAB] at hnd
    simpa using hnd
  · intro x hx
    rw [hp.mem_iff] at hx
    simp only [List.mem_append, List.mem_cons] at hx
    rcases hx with hx | rfl | hx
    · exact hoth x (by simp [hx])
    · refine ⟨by simp, by simp [hmg.1], ?_⟩
      show max g.gr _ = _
      rw [hmg.2, P.gn]
    · exact hoth x (by simp [hx])
  · rw [sum_perm (hp.map _), hsum, hAB]
    simp
    omega
  · rw [Ent.perm hp, ← hset, ent_add P.at_, P.gn]
    rcases P.dis with e | ⟨e, hr, _⟩
    · rw [e]
    · have : Ent gs' n' v' y' ↔ Ent gs n' v' y' := by
        rw [e]; unfold Ent
        constructor
        · rintro ⟨x, hx, hn, p, hp2, hrest⟩
          rcases List.mem_append.1 hx with h1 | h1
          · exact ⟨x, h1, hn, p, hp2, hrest⟩
          · obtain rfl := List.mem_singleton.1 h1
            rw [hr] at hp2; cases hp2
        · rintro ⟨x, hx, hrest⟩
          exact ⟨x, List.mem_append_left _ hx, hrest⟩
      rw [this]
end
end Go.Vc
