/- TopLongest: List.Drop, walked. -/
import Derived.Test.YtamhpfdcnfgngaaGreatTnC
set_option maxRecDepth 10000
namespace Go.Vc
open Go Go.Proofs Go.MapKept Go.WideMaps

theorem info239 : ∃ i z, Tryz.prog.info? 239 = some i ∧ i.zero = some z := by
  have h : (Tryz.prog.info? 239).bind (·.zero) = some (.pointer none) := by kernel_rfl
  obtain ⟨i, h1, h2⟩ := Option.bind_eq_some_iff.1 h
  exact ⟨i, _, h1, h2⟩
theorem z239_size : (zeros Tryz.prog 239).size = 1 := by kernel_rfl

theorem erase_set {α : Type} {l : List α} {j : Nat} {x y : α} (h : l[j]? = some y) : (l.set j x).eraseIdx j = l.eraseIdx j := by
  obtain ⟨A, B, h1, h2, h3⟩ := split_at h
  rw [h3, h1, ← h2, List.eraseIdx_append_of_length_le (Nat.le_refl _), List.eraseIdx_append_of_length_le (Nat.le_refl _)]
  simp

section
variable {h : Hp} {w : Nat} {k : Bool} {L : LB} {bl N : Nat} {gv : Value} {gs : List Gp}

theorem ents_at {g : Gp} {j : Nat} {v : B128} {u : Value} (h : g.ents[j]? = some (idV v, u)) : ∃ r, g.rows[j]? = some (v, r) ∧ u = sl r.b 1 r.c := by
  rw [Gp.ents, List.getElem?_map] at h
  cases hp : g.rows[j]? with
  | none => rw [hp] at h; cases h
  | some p =>
    rw [hp] at h
    simp only [Option.map_some, Option.some.injEq, Prod.mk.injEq] at h
    obtain ⟨e1, rfl⟩ := h
    obtain rfl := idV_inj e1
    exact ⟨p.2, rfl, rfl⟩
theorem row_uniq {g : Gp} (nd : (g.rows.map (·.1)).Nodup) {j : Nat} {v : B128} {r r' : Rw} (h : g.rows[j]? = some (v, r)) (h' : (v, r') ∈ g.rows) : r' = r := by
  obtain ⟨i, hi⟩ := List.getElem?_of_mem h'
  have := nodup_at nd hi h rfl
  subst this
  rw [h] at hi; cases hi; rfl

theorem Foot.set {g g' : Gp} {i : Nat} (hi : gs[i]? = some g) (h1 : g'.bg = g.bg) (h2 : g'.br = g.br) (h3 : ∀ p ∈ g'.rows, p ∈ g.rows) {q : Nat} (hq : Foot bl gv (gs.set i g') q) : Foot bl gv gs q := by
  rcases hq with hq | hq | ⟨x, hx, hq⟩
  · exact .inl hq
  · exact .inr (.inl hq)
  · rcases List.mem_or_eq_of_mem_set hx with hx | rfl
    · exact .inr (.inr ⟨x, hx, hq⟩)
    · refine .inr (.inr ⟨g, List.mem_of_getElem? hi, ?_⟩)
      rw [h1, h2] at hq
      exact hq.imp id (Or.imp id fun ⟨p, hp, e⟩ => ⟨p, h3 p hp, e⟩)

theorem rowsB_erase {l l' : List Gp} {i : Nat} {g : Gp} (h : l[i]? = some g) (e : l.eraseIdx i = l') : (rowsB l').Sublist (rowsB l) := by
  obtain ⟨A, B, h1, _, h2⟩ := split_erase h
  rw [← e, h2, h1]
  simp only [rowsB, List.flatMap_append, List.flatMap_cons]
  exact (List.Sublist.refl _).append (List.sublist_append_right _ _)

def DropTo (h h' : Hp) (k : Bool) (w bl : Nat) (L : LB) (N : Nat) (gv : Value) (gs : List Gp) (n : Nat) (v : B128) : Prop :=
  ∃ gv' gs', LSt h' k w bl L (N - 1) gv' gs' ∧ Good k gs' (N - 1) ∧ Srt gs' 0 gs'.length ∧ (∀ n' v' y', Ent gs' n' v' y' ↔ Ent gs n' v' y' ∧ ¬ (n' = n ∧ v' = v)) ∧
    Fr (Foot bl gv gs) h h' ∧ ∀ q, Foot bl gv' gs' q → Foot bl gv gs q

theorem Drop_c (T : LSt h k w bl L N gv gs) (G0 : Good k gs N) (S0 : Srt gs 0 gs.length) (hN : N ≤ 200) {mp mc n : Nat} {v : B128} {act : ByteArray} {ap : Option Addr} {an ac : Nat} (hm : cellsAt h mp 0 (mcells k w n v)) (hn : n ≤ w) (hv : v &&& msk w n = v) :
    CallsH Tryz.prog 149 #[vP bl, .agg #[sl mp 1 mc, vI (cond k (n + 1) 0), .string act, .slice ap an ac]] h fun e h' =>
      (hasV (findG gs n) v = false → e = .returned (.tuple #[zEnt, .bool false]) ∧ Ext h h') ∧
      (hasV (findG gs n) v = true → (∃ p1 n1 c1 i1 s1 p2 n2 c2, e = .returned (.tuple #[.agg #[.slice p1 n1 c1, .int .i64 i1, .string s1, .slice p2 n2 c2], .bool true])) ∧ DropTo h h' k w bl L N gv gs n v) := by
  refine V149 _ _ _ _ _ _ _ _ _ h _ ?_
  rintro b0 h0 rfl rfl b1 h1 hb1 hh1
  refine ⟨info53, ?_⟩
  have x1 : Ext h h1 := by rw [hh1]; exact (Ext.push _ _).box _
  have c0 : h1[h.size]? = some (.cells #[sl mp 1 mc, vI (cond k (n + 1) 0), .string act, .slice ap an ac] 53) := by rw [hh1]; exact (Ext.push _ _).at push_last
  have c1 : h1[b1]? = some (.cells #[nilS, vI 0, .string ⟨#[]⟩, nilS] 53) := by rw [hh1, hb1, ← z53]; exact push_last
  have n1 : b1 = h.size + 1 := by rw [hb1]; simp
  clear hh1 hb1
  have T1 := T.ext x1
  refine ⟨false, eqv_ptr (e := 144) (by kernel_rfl) _, (fun hf => by cases hf), fun _ => ⟨_, _, _, _, _, _, _, _, cellsAt_all c0, (place_c T1 (x1.cells hm) hn hv).mono ?_⟩⟩
  rintro en h2 ⟨rfl, x2⟩
  obtain ⟨pa, hpa⟩ : ∃ pa, gpP (findG gs n) = .pointer pa := by
    cases findG gs n with
    | none => exact ⟨_, rfl⟩
    | some g => exact ⟨_, rfl⟩
  rw [hpa]
  refine ⟨pa, _, _, _, _, _, _, _, _, _, _, _, _, _, _, _, _, _, _, rfl, ?_⟩
  rintro b2 h3 rfl rfl
  refine ⟨info239, ?_⟩
  rintro b3 h4 hb3 hh4
  refine ⟨info241, ?_⟩
  have x4 : Ext h2 h4 := by rw [hh4]; exact (Ext.push _ _).box _
  have d2 : h4[h2.size]? = some (.cells (zeros Tryz.prog 239) 239) := by rw [hh4]; exact (Ext.push _ _).at push_last
  have d3 : h4[b3]? = some (.cells (zeros Tryz.prog 241) 241) := by rw [hh4, hb3]; exact push_last
  have n3 : b3 = h2.size + 1 := by rw [hb3]; simp
  clear hh4 hb3
  refine sto1 x4 (Nat.le_refl _) d2 z239_size rfl fun h5 x5 z5 c5 k5 => ?_
  refine stoT (n := 16) x5 (by omega) ((k5 b3 (by omega)).trans d3) rfl rfl (by simp [Value.oneCell']) fun h6 x6 z6 c6 k6 => ?_
  have c62 : h6[h2.size]? = some (.cells #[.pointer pa] 239) := (k6 _ (by omega)).trans c5
  have x06 := (x1.trans x2).trans x6
  have c61 := (x2.trans x6).at c1
  have z2 := x2.size
  have hb1 := (Array.getElem?_eq_some_iff.1 c1).1
  refine ⟨fun hd => ?_, fun hd => ?_⟩
  · rw [Bool.not_eq_true'] at hd
    refine stoT (n := 4) x06 (by omega) c61 rfl rfl (by simp [Value.oneCell']) fun q xq zq cq kq => ⟨_, _, _, _, _, _, _, _, cellsAt_all cq, fun _ => ⟨rfl, xq⟩, fun ht => by rw [hd] at ht; cases ht⟩
  rw [Bool.not_eq_false'] at hd
  obtain ⟨g, hfg⟩ : ∃ g, findG gs n = some g := by
    cases hf : findG gs n with
    | none => rw [hf] at hd; cases hd
    | some g => exact ⟨g, rfl⟩
  rw [hfg] at hpa
  cases hpa
  obtain ⟨hg, hgn⟩ := findG_some hfg
  obtain ⟨i, hi⟩ := List.getElem?_of_mem hg
  have hin := (List.getElem?_eq_some_iff.1 hi).1
  obtain ⟨j, r, hj⟩ : ∃ j r, g.rows[j]? = some (v, r) := by
    rw [hfg] at hd
    simp only [hasV, List.any_eq_true, decide_eq_true_eq] at hd
    obtain ⟨p, hp, rfl⟩ := hd
    obtain ⟨j, hj⟩ := List.getElem?_of_mem hp
    exact ⟨j, p.2, hj⟩
  have hrm := List.mem_of_getElem? hj
  have hno : ¬ hasV (some g) v = false := by rw [← hfg, hd]; decide
  have T6 := T.ext x06
  have G6 := T6.gp g hg
  have R6 := (G6.row _ hrm).2
  have hrb : r.b < h.size := T.foot_lt (.inr (.inr ⟨g, hg, .inr (.inr ⟨_, hrm, rfl⟩)⟩))
  have hgb : g.bg < h.size := T.foot_lt (.inr (.inr ⟨g, hg, .inl rfl⟩))
  have hbr : g.br < h.size := T.foot_lt (.inr (.inr ⟨g, hg, .inr (.inl rfl)⟩))
  have hbl : bl < h.size := T.foot_lt (.inl rfl)
  have hz1 := x1.size
  refine ⟨fun vs q => ∃ xb, vs = [vP xb] ∧ Ext h6 q ∧ h6.size ≤ xb ∧ q[xb]? = some (.cells (entL k g.n r).toArray 53), ⟨?_, ?_⟩, ?_⟩
  · refine ⟨fun q => Ext h6 q, Ext.refl _, _, fun q xq => cellsAt_all (vs := [vP g.bg]) (xq.at c62), g.bg, 0, rfl, _, fun q xq => cellsAt_one (cellH_at (xq.at G6.blk)), _, _, _, _, _, _, _, _, _, _, _, _, _, _, _, _, fun q xq => cellsAt_all (xq.at c6), G6.look v (fun hf => absurd hf hno) fun r' hr' _ => ?_⟩
    obtain rfl := row_uniq G6.nd hj hr'
    refine ⟨_, _, _, rfl, Ext.refl _, r'.b, 0, rfl, by decide, by decide, _, _, _, _, _, _, _, _, fun q xq => xq.cells R6.own.cellsA, ?_⟩
    rintro b6 h9 rfl rfl
    have x9 := Ext.push h6 (.cells (zeros Tryz.prog 53) 53)
    refine ⟨info53, x9, stoT (n := 4) x9 (Nat.le_refl _) push_last rfl z53_size (by simp [Value.oneCell']) fun q xq zq cq kq => ⟨xq, h6.size, rfl, xq, Nat.le_refl _, cq⟩⟩
  · refine ⟨fun q => Ext h6 q, Ext.refl _, _, fun q xq => cellsAt_all (vs := [vP g.bg]) (xq.at c62), g.bg, 0, rfl, _, fun q xq => cellsAt_one (cellH_at (xq.at G6.blk)), _, _, _, _, _, _, _, _, _, _, _, _, _, _, _, _, fun q xq => cellsAt_all (xq.at c6), ?_⟩
    rintro b6 h9 rfl rfl
    have x9 := Ext.push h6 (.cells (zeros Tryz.prog 53) 53)
    refine ⟨info53, x9, (G6.ext x9).look v (fun hf => absurd hf hno) fun r' hr' _ => ?_⟩
    obtain rfl := row_uniq G6.nd hj hr'
    refine ⟨_, _, _, rfl, x9, r'.b, 0, rfl, by decide, by decide, _, _, _, _, _, _, _, _, fun q xq => xq.cells R6.own.cellsA, stoT (n := 4) x9 (Nat.le_refl _) push_last rfl z53_size (by simp [Value.oneCell']) fun q xq zq cq kq => ⟨xq, h6.size, rfl, xq, Nat.le_refl _, cq⟩⟩
  rintro x_ h14 ⟨xb, hvs, x14, hxb, cxb⟩
  cases hvs
  have x014 := x06.trans x14
  have T14 := T.ext x014
  have G14 := T14.gp g hg
  have R14 := (G14.row _ hrm).2
  have e2 := x14.at c62
  have e3 := x14.at c6
  have e1 := x14.at c61
  have hz6 := x06.size
  have hb2 : h2.size < h6.size := (Array.getElem?_eq_some_iff.1 c62).1
  have hb3 : b3 < h6.size := (Array.getElem?_eq_some_iff.1 c6).1
  have tx : Tag h14 xb 53 := ⟨_, cxb⟩
  refine ⟨fun q => ∀ b, b ≠ r.b → q[b]? = h14[b]?, fun _ _ => rfl, _, fun q hq => cellsAt_all (vs := [vP g.bg]) ((hq _ (by omega)).trans e2), g.bg, 0, rfl, _, fun q hq => cellsAt_one (cellH_at ((hq _ (G14.tag.ne R14.tag (by decide))).trans G14.blk)), _, _, _, _, _, _, _, _, _, _, _, _, _, _, _, _, fun q hq => cellsAt_all ((hq _ (by omega)).trans e3),
    _, cellsAt_all (vs := [vP g.bg]) e2, g.bg, 0, rfl, _, cellsAt_one (cellH_at G14.blk), _, _, _, _, _, _, _, _, _, _, _, _, _, _, _, _, cellsAt_all e3, G14.look v (fun hf => absurd hf hno) fun r' hr' _ => ?_⟩
  obtain rfl := row_uniq G14.nd hj hr'
  refine ⟨_, _, _, rfl, fun _ _ => rfl, 1, by decide, (del_c R14.own).mono ?_⟩
  rintro en h16 ⟨rfl, z16, k16⟩
  have hbrb : g.br ≠ r'.b := fun e => R14.tag.neM G14.isM e.symm
  refine ⟨_, _, _, rfl, k16, semH_mapPutW mapG (G14.map.congr (k16 _ hbrb)) Gp.keys (key_id v) (fun hf => absurd rfl (hf (idV v, _) (List.mem_map.2 ⟨_, hrm, rfl⟩))) fun u j' hj' h17 m17 z17 k17 => ?_⟩
  obtain ⟨r2, hr2, rfl⟩ := ents_at hj'
  have hjj := nodup_at G14.nd hr2 hj rfl
  subst hjj
  rw [hj] at hr2
  cases hr2
  have keys' : ∀ x ∈ g.ents.set j' (idV v, sl r'.b 0 r'.c), KeyIs Tryz.prog 241 x.1 := fun x hx => by
    rcases List.mem_or_eq_of_mem_set hx with hx | rfl
    · exact Gp.keys x hx
    · exact key_id v
  have hjl : j' < g.ents.length := (List.getElem?_eq_some_iff.1 hj').1
  have at' : ∀ (u : Value) (l : Nat), (g.ents.set j' (idV v, sl r'.b 0 r'.c))[l]? = some (idV v, u) → l = j' ∧ u = sl r'.b 0 r'.c := fun u l hl => by
    rw [List.getElem?_set] at hl
    by_cases e : j' = l
    · subst e
      rw [if_pos rfl, if_pos hjl] at hl
      cases hl
      exact ⟨rfl, rfl⟩
    · rw [if_neg e] at hl
      obtain ⟨r3, hr3, _⟩ := ents_at hl
      exact (e (nodup_at G14.nd hj hr3 rfl)).elim
  have k17' : ∀ q, q ≠ g.br → q ≠ r'.b → h17[q]? = h14[q]? := fun q h1 h2 => (k17 q h1).trans (k16 q h2)
  have z17' : h17.size = h14.size := z17.trans z16
  have e172 := (k17' h2.size (by omega) (by omega)).trans e2
  have e173 := (k17' b3 (by omega) (by omega)).trans e3
  have b17 := (k17' g.bg (G14.tag.neM G14.isM) (G14.tag.ne R14.tag (by decide))).trans G14.blk
  refine ⟨fun _ q => MapAt q g.br ((g.rows.eraseIdx j').map fun p => (idV p.1, sl p.2.b 1 p.2.c)) ∧ q.size = h17.size ∧ ∀ b, b ≠ g.br → q[b]? = h17[b]?, ⟨_, cellsAt_all (vs := [vP g.bg]) e172, g.bg, 0, rfl, _, cellsAt_one (cellH_at b17), _, _, _, _, _, _, _, _, _, _, _, _, _, _, _, _, cellsAt_all e173, ?_⟩, ?_⟩
  · refine semH_lookupW mapG m17 keys' (key_id v) (fun hf => absurd rfl (hf (idV v, sl r'.b 0 r'.c) (List.mem_set hjl _))) fun u l hl => ?_
    obtain ⟨rfl, rfl⟩ := at' u l hl
    refine ⟨_, _, _, rfl, fun _ => ⟨_, cellsAt_all (vs := [vP g.bg]) e172, g.bg, 0, rfl, _, cellsAt_one (cellH_at b17), _, _, _, _, _, _, _, _, _, _, _, _, _, _, _, _, cellsAt_all e173, semH_mapDropW mapG m17 keys' (key_id v) ⟨_, List.mem_set hjl _⟩ fun u l2 hl2 h19 m19 z19 k19 => ⟨rfl, ?_, z19, k19⟩⟩, fun hf => absurd hf (by decide)⟩
    obtain ⟨rfl, rfl⟩ := at' u l2 hl2
    rw [erase_set hj', Gp.ents] at m19
    rw [map_erase1]; exact m19
  rintro h20 ⟨m20, z20, k20⟩
  have k20' : ∀ q, q ≠ g.br → q ≠ r'.b → h20[q]? = h14[q]? := fun q h1 h2 => (k20 q h1).trans (k17' q h1 h2)
  have T20 := T14.dropRow hi hj k20' m20
  have b20 := (k20' g.bg (G14.tag.neM G14.isM) (G14.tag.ne R14.tag (by decide))).trans G14.blk
  have e202 := (k20' h2.size (by omega) (by omega)).trans e2
  have hgm : g.m = g.rows.length := (G0.ok g hg).2.1
  have hgm1 : 1 ≤ g.m := by rw [hgm]; exact List.length_pos_iff.2 (G0.ok g hg).1
  have hgN := G0.rows hg
  have a20 : (gs.set i { g with rows := g.rows.eraseIdx j' })[i]? = some { g with rows := g.rows.eraseIdx j' } := by rw [List.getElem?_set, if_pos rfl, if_pos hin]
  refine ⟨_, cellsAt_all (vs := [vP g.bg]) e202, g.bg, 0, rfl, _, cellsAt_one (cellH_at b20), ((g.m - 1 : Nat) : Int), sub1E hgm1 (by omega), g.bg, 0, rfl, rfl, wrAt_of b20 (by simp) (.inl (Nat.zero_le _)), ?_⟩
  intro h21 hh21
  have k21 : ∀ q, q ≠ g.bg → h21[q]? = h20[q]? := fun q hq => by rw [hh21]; exact setsH_ne hq
  have b21 : h21[g.bg]? = some (.cells #[sl g.bs 1 g.cs, .map (some g.br), vI (g.m - 1), vZ g.gr] 246) := by rw [hh21]; exact setsH_at b20
  have s21 : h21.size = h20.size := by rw [hh21]; exact setsH_size
  clear hh21
  have T21 := T20.setGroup a20 (m' := g.m - 1) (gr' := g.gr) k21 b21
  rw [List.set_set] at T21
  refine ⟨bl, 0, rfl, _, cellsAt_one (cellH_at T21.blk), ((N - 1 : Nat) : Int), sub1E (by omega) (by omega), bl, 0, rfl, rfl, wrAt_of T21.blk (by simp) (.inl (Nat.zero_le _)), ?_⟩
  intro h22 hh22
  have k22 : ∀ q, q ≠ bl → h22[q]? = h21[q]? := fun q hq => by rw [hh22]; exact setsH_ne hq
  have b22l : h22[bl]? = some (.cells (L.cells k (N - 1) gv) 144) := by rw [hh22]; exact setsH_at T21.blk
  have s22 : h22.size = h21.size := by rw [hh22]; exact setsH_size
  clear hh22
  have T22 := T21.setList (gs' := _) (fun q _ h2 _ => k22 q h2) b22l (T21.arr.keep fun q hq => k22 q ((T21.tagA hq).ne T21.tagL (by decide)))
    (fun q hq => by obtain ⟨p, hp⟩ := T21.ptr q hq; exact ⟨p, (cellsAt_congr (vs := [.pointer p]) (k22 q ((T21.tagA hq).ne T21.tagL (by decide))) (cellsAt_one hp)).1⟩) (fun g hg => .inl hg) T21.nd1 T21.nd2 T21.nd3
  have k22' : ∀ q, q ≠ bl → q ≠ g.bg → q ≠ g.br → q ≠ r'.b → h22[q]? = h14[q]? := fun q h1 h2 h3 h4 => (k22 q h1).trans ((k21 q h2).trans (k20' q h3 h4))
  have b22 : h22[g.bg]? = some (.cells #[sl g.bs 1 g.cs, .map (some g.br), vI (g.m - 1), vZ g.gr] 246) := (k22 _ (G14.tag.ne T14.tagL (by decide))).trans b21
  have e222 := (k22' h2.size (by omega) (by omega) (by omega) (by omega)).trans e2
  have e22x := (k22' xb (by omega) (by omega) (by omega) (by omega)).trans cxb
  have e221 := (k22' b1 (by omega) (by omega) (by omega) (by omega)).trans e1
  have s22' : h22.size = h14.size := by omega
  have F22 : Fr (Foot bl gv gs) h h22 := ⟨by have := x014.size; omega, fun q h1 h2 => (k22' q (fun e => h2 (.inl e)) (fun e => h2 (.inr (.inr ⟨g, hg, .inl e⟩))) (fun e => h2 (.inr (.inr ⟨g, hg, .inr (.inl e)⟩))) (fun e => h2 (.inr (.inr ⟨g, hg, .inr (.inr ⟨_, hrm, e⟩)⟩)))).trans (x014.old q h1)⟩
  have foot22 : ∀ q, Foot bl gv (gs.set i { g with rows := g.rows.eraseIdx j', m := g.m - 1 }) q → Foot bl gv gs q := fun q hq => Foot.set (g' := { g with rows := g.rows.eraseIdx j', m := g.m - 1 }) hi rfl rfl (fun p hp => (List.eraseIdx_sublist _ _).subset hp) hq
  have fin : ∀ q gv' gs4, LSt q k w bl L (N - 1) gv' gs4 → ((g.m - 1 ≠ 0 ∧ gs4 = gs.set i { g with rows := g.rows.eraseIdx j', m := g.m - 1 }) ∨ (g.m - 1 = 0 ∧ gs4 = gs.eraseIdx i)) → q[xb]? = some (.cells (entL k g.n r').toArray 53) → q[b1]? = some (.cells #[nilS, vI 0, .string ⟨#[]⟩, nilS] 53) → Fr (Foot bl gv gs) h q → (∀ b, Foot bl gv' gs4 b → Foot bl gv gs b) →
      ∃ b_22 o_16, (some ⟨xb, 0, none⟩ : Option Addr) = some ⟨b_22, o_16, none⟩ ∧
          ∃ (x90f0p_1 : Option Addr) (x90f0n_1 x90f0c_1 : Nat), ∃ x90f1_1 : Int, ∃ x90f2_1 : ByteArray, ∃ (x90f3p_1 : Option Addr) (x90f3n_1 x90f3c_1 : Nat), cellsAt q b_22 o_16 [(Value.slice x90f0p_1 x90f0n_1 x90f0c_1), (Value.int .i64 x90f1_1), (Value.string x90f2_1), (Value.slice x90f3p_1 x90f3n_1 x90f3c_1)] ∧
          List.length [(Value.slice x90f0p_1 x90f0n_1 x90f0c_1), (Value.int .i64 x90f1_1), (Value.string x90f2_1), (Value.slice x90f3p_1 x90f3n_1 x90f3c_1)] = 4 ∧ (∀ c ∈ [(Value.slice x90f0p_1 x90f0n_1 x90f0c_1), (Value.int .i64 x90f1_1), (Value.string x90f2_1), (Value.slice x90f3p_1 x90f3n_1 x90f3c_1)], c.oneCell' = true) ∧ wrAt q b1 0 4 ∧ ∀ hp_26, hp_26 = setsH q b1 0 [(Value.slice x90f0p_1 x90f0n_1 x90f0c_1), (Value.int .i64 x90f1_1), (Value.string x90f2_1), (Value.slice x90f3p_1 x90f3n_1 x90f3c_1)] →
          ∃ (resf0p_2 : Option Addr) (resf0n_2 resf0c_2 : Nat), ∃ resf1_2 : Int, ∃ resf2_2 : ByteArray, ∃ (resf3p_2 : Option Addr) (resf3n_2 resf3c_2 : Nat), cellsAt hp_26 b1 0 [(Value.slice resf0p_2 resf0n_2 resf0c_2), (Value.int .i64 resf1_2), (Value.string resf2_2), (Value.slice resf3p_2 resf3n_2 resf3c_2)] ∧
          ((hasV (findG gs n) v = false → Ending.returned (Value.tuple #[(Value.agg #[(Value.slice resf0p_2 resf0n_2 resf0c_2), (Value.int .i64 resf1_2), (Value.string resf2_2), (Value.slice resf3p_2 resf3n_2 resf3c_2)]), (Value.bool true)]) = .returned (.tuple #[zEnt, .bool false]) ∧ Ext h hp_26) ∧
           (hasV (findG gs n) v = true → (∃ p1 n1 c1 i1 s1 p2 n2 c2, Ending.returned (Value.tuple #[(Value.agg #[(Value.slice resf0p_2 resf0n_2 resf0c_2), (Value.int .i64 resf1_2), (Value.string resf2_2), (Value.slice resf3p_2 resf3n_2 resf3c_2)]), (Value.bool true)]) = .returned (.tuple #[.agg #[.slice p1 n1 c1, .int .i64 i1, .string s1, .slice p2 n2 c2], .bool true])) ∧ DropTo h hp_26 k w bl L N gv gs n v)) := by
    intro q gv' gs4 Tq h4 ex eb Fq footq
    refine ⟨xb, 0, rfl, _, _, _, _, _, _, _, _, cellsAt_all ex, rfl, (by simp [Value.oneCell']), wrAt_of eb (by simp) (.inl (Nat.zero_le _)), ?_⟩
    intro q2 hq2
    have kq : ∀ b, b ≠ b1 → q2[b]? = q[b]? := fun b hb => by rw [hq2]; exact setsH_ne hb
    have cq : q2[b1]? = some (.cells (entL k g.n r').toArray 53) := by rw [hq2, setsH_at eb]; rfl
    have sq : q2.size = q.size := by rw [hq2]; exact setsH_size
    clear hq2
    obtain ⟨g1, g2, g3⟩ := drop_good G0 S0 hi hgn hj G14.nd h4
    refine ⟨_, _, _, _, _, _, _, _, cellsAt_all cq, fun hf => by rw [hd] at hf; (cases hf), fun _ => ⟨⟨_, _, _, _, _, _, _, _, rfl⟩, gv', gs4, Tq.frame (fun b hb => kq b fun e => noSI_blk eb rfl rfl (e ▸ hb)) (fun b hb => kq b (by have := T.foot_lt (footq b hb); omega)), g1, g2, g3, ⟨by rw [sq]; exact Fq.size, fun b h1 h2 => (kq b (by omega)).trans (Fq.old b h1 h2)⟩, footq⟩⟩
  refine ⟨_, cellsAt_all (vs := [vP g.bg]) e222, g.bg, 0, rfl, _, cellsAt_one (cellH_at b22), fun hz => ?_, fun hnz => fin h22 gv _ T22 (.inl ⟨by have := of_decide_eq_false hnz; omega, rfl⟩) e22x e221 F22 foot22⟩
  have hz := of_decide_eq_true hz
  have hlen3 : (gs.set i { g with rows := g.rows.eraseIdx j', m := g.m - 1 }).length = gs.length := List.length_set
  obtain ⟨gb, gc, hgv⟩ : ∃ gb gc, gv = sl gb gs.length gc := by
    rcases T.arr.2 with ⟨_, e⟩ | ⟨gb, cap, cur, e, _⟩
    · omega
    · exact ⟨gb, cap, e⟩
  have hgbl : gb < h.size := T.foot_lt (.inr (.inl (by rw [hgv]; rfl)))
  have hgvc : cellsAt h22 bl (0 + 11) [sl gb gs.length gc] := by rw [← hgv]; exact cellsAt_one (cellH_at b22l)
  have o22 : Own h22 0 239 1 (sl gb gs.length gc) gs.length ((gs.set i { g with rows := g.rows.eraseIdx j', m := g.m - 1 }).map fun g => vP g.bg) := by rw [← hgv]; have := T22.arr; rw [hlen3] at this; exact this
  have tA : Tag h22 gb 239 := T22.tagA (by rw [hgv]; rfl)
  have a22 : (gs.set i { g with rows := g.rows.eraseIdx j', m := g.m - 1 })[i]? = some { g with rows := g.rows.eraseIdx j', m := g.m - 1 } := by rw [List.getElem?_set, if_pos rfl, if_pos hin]
  refine ⟨bl, 0, rfl, _, _, _, hgvc, (delG_c o22 (fun x hx => (T22.gp x hx).tag) T22.nd1 a22 (vb := h2.size) (cellsAt_all (vs := [vP g.bg]) e222) (by omega)).mono ?_⟩
  rintro en h23 ⟨rfl, o23, ⟨pp, hpp⟩, z23, k23⟩
  have b23 := (k23 bl (T22.tagL.ne tA (by decide))).trans b22l
  refine ⟨_, _, _, rfl, bl, 0, rfl, rfl, wrAt_of b23 (by simp) (.inl (Nat.zero_le _)), ?_⟩
  intro h24 hh24
  have k24 : ∀ q, q ≠ bl → h24[q]? = h23[q]? := fun q hq => by rw [hh24]; exact setsH_ne hq
  have b24 : h24[bl]? = some (.cells (L.cells k (N - 1) (sl gb (gs.length - 1) gc)) 144) := by rw [hh24]; exact setsH_at b23
  have s24 : h24.size = h23.size := by rw [hh24]; exact setsH_size
  clear hh24
  have hblgb : gb ≠ bl := fun e => (T22.tagL.ne tA (by decide)) e.symm
  have herase : (gs.set i { g with rows := g.rows.eraseIdx j', m := g.m - 1 }).eraseIdx i = gs.eraseIdx i := erase_set hi
  rw [herase] at o23
  have hsub : List.Sublist (gs.eraseIdx i) (gs.set i { g with rows := g.rows.eraseIdx j', m := g.m - 1 }) := by rw [← herase]; exact List.eraseIdx_sublist _ _
  have hlenE : (gs.eraseIdx i).length = gs.length - 1 := by rw [List.length_eraseIdx, if_pos hin]
  have T24 : LSt h24 k w bl L (N - 1) (sl gb (gs.length - 1) gc) (gs.eraseIdx i) := by
    refine T22.setList (fun q _ h2 h3 => (k24 q h2).trans (k23 q fun e => h3 (by rw [hgv, e]; rfl))) b24 ?_ (fun q hq => ?_) (fun x hx => .inl (hsub.subset hx)) ((hsub.map _).nodup T22.nd1) ((hsub.map _).nodup T22.nd2) ((rowsB_erase a22 herase).nodup T22.nd3)
    · rw [hlenE]; exact o23.keep1 (k24 gb hblgb)
    · cases hq
      exact ⟨pp, (cellsAt_congr (vs := [.pointer pp]) (k24 gb hblgb) (cellsAt_one hpp)).1⟩
  have k24' : ∀ q, q ≠ bl → q ≠ gb → h24[q]? = h22[q]? := fun q h1 h2 => (k24 q h1).trans (k23 q h2)
  refine fin h24 _ _ T24 (.inr ⟨by omega, rfl⟩) ((k24' xb (by omega) (by omega)).trans e22x) ((k24' b1 (by omega) (by omega)).trans e221) ⟨by have := F22.size; omega, fun q h1 h2 => (k24' q (fun e => h2 (.inl e)) (fun e => h2 (.inr (.inl (by rw [hgv, e]; rfl))))).trans (F22.old q h1 h2)⟩ ?_
  rintro q (hq | hq | ⟨x, hx, hq⟩)
  · exact .inl hq
  · exact .inr (.inl (by rw [hgv]; exact hq))
  · exact foot22 q (.inr (.inr ⟨x, hsub.subset hx, hq⟩))
end
end Go.Vc
