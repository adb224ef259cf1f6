/- TopLongest: List.Put, walked. -/
import Derived.Test.YtamhpfdcnfgngaaGreatTmX
set_option maxRecDepth 10000
namespace Go.Vc
open Go Go.Proofs Go.MapKept

section
variable {h : Hp} {w : Nat} {k : Bool} {L : LB} {bl N : Nat} {gv : Value} {gs : List Gp}

theorem LSt.gv_form (T : LSt h k w bl L N gv gs) : ∃ gp gc, gv = .slice gp gs.length gc := by
  rcases T.arr.2 with ⟨e1, e2⟩ | ⟨gb, cap, cur, e1, _⟩
  · exact ⟨none, 0, by rw [e1, ← e2]⟩
  · exact ⟨_, _, e1⟩
theorem LSt.fr_si (T : LSt h k w bl L N gv gs) {h' : Hp} (F : Fr (Foot bl gv gs) h h') : KeepsSI h h' := fun q hq => by
  obtain ⟨v, hv, _⟩ := hq
  exact F.old q (cellH_lt hv) (fun hf => T.noSI hf ⟨v, hv, by assumption⟩)
theorem fresh_rows (T : LSt h k w bl L N gv gs) {b : Nat} (hb : h.size ≤ b) : b ∉ rowsB gs := by
  intro hm
  obtain ⟨g, hg, hm⟩ := List.mem_flatMap.1 hm
  obtain ⟨p, hp, rfl⟩ := List.mem_map.1 hm
  have := T.foot_lt (.inr (.inr ⟨g, hg, .inr (.inr ⟨p, hp, rfl⟩)⟩))
  omega

theorem put_group (T : LSt h k w bl L N gv gs) {h4 h5 h9 h10 : Hp} {n bs cs : Nat} {v : B128} {p' : Option Addr} {c' : Nat} (x4 : Ext h h4) (x5 : Ext h4 h5) (hf : findG gs n = none) (hn : n ≤ w) (hs : cellsAt h5 bs 0 (mcells k w n 0)) (hlen : gs.length ≤ 1000)
    (h7 : Hp) (e7 : h7 = (h5.push (.map #[] 0)).push (.cells #[sl bs 1 cs, .map (some h5.size), vI 0, vI 0] 246))
    (o9 : Own h9 0 239 1 (.slice p' (gs.length + 1) c') (gs.length + 1) ((gs.map fun g => vP g.bg) ++ [vP (h5.size + 1)])) (g9 : Grown h7 h9 gv.ownBlock)
    (hnew : (Value.slice p' (gs.length + 1) c').ownBlock = gv.ownBlock ∨ ∃ b, (Value.slice p' (gs.length + 1) c').ownBlock = some b ∧ h7.size ≤ b)
    (e10 : h10 = setsH h9 bl (0 + 11) [.slice p' (gs.length + 1) c']) :
    PutAt h h10 k w bl L N gv gs n v (.slice p' (gs.length + 1) c') (gs ++ [⟨h5.size + 1, bs, cs, h5.size, n, [], 0, 0⟩]) gs.length ⟨h5.size + 1, bs, cs, h5.size, n, [], 0, 0⟩ := by
  have x57 : Ext h5 h7 := by rw [e7]; exact (Ext.push _ _).box _
  have x7 : Ext h h7 := (x4.trans x5).trans x57
  have T7 := T.ext x7
  have z7 : h7.size = h5.size + 2 := by rw [e7]; simp
  have b7 : h7[h5.size + 1]? = some (.cells #[sl bs 1 cs, .map (some h5.size), vI 0, vI 0] 246) := by
    rw [e7]; have := push_last (h := h5.push (.map #[] 0)) (o := .cells #[sl bs 1 cs, .map (some h5.size), vI 0, vI 0] 246)
    rwa [Array.size_push] at this
  have m7 : MapAt h7 h5.size [] := by rw [e7]; exact (MapAt.new h5).ext (Ext.push _ _)
  have s7 := x57.cells hs
  have b9 : h9[bl]? = some (.cells (L.cells k N gv) 144) := (g9.block bl (T7.foot_lt (.inl rfl)) (fun e => (T7.tagL.ne (T7.tagA e.symm) (by decide)) rfl)).trans T7.blk
  have t9 : Tag h9 bl 144 := ⟨_, b9⟩
  have c10 : h10[bl]? = some (.cells (L.cells k N (.slice p' (gs.length + 1) c')) 144) := by rw [e10]; exact setsH_at b9
  have k10 : ∀ q, q ≠ bl → h10[q]? = h9[q]? := fun q hq => by rw [e10]; exact setsH_ne hq
  have kk : ∀ q, q < h7.size → q ≠ bl → gv.ownBlock ≠ some q → h10[q]? = h7[q]? := fun q h1 h2 h3 => (k10 q h2).trans (g9.block q h1 (fun e => h3 e.symm))
  have kn : ∀ q, h.size ≤ q → q < h7.size → h10[q]? = h7[q]? := fun q h1 h2 => kk q h2 (fun e => by have := T.foot_lt (.inl rfl : Foot bl gv gs bl); omega) (fun e => by have := T.foot_lt (.inr (.inl e) : Foot bl gv gs q); omega)
  have z5 := (x4.trans x5).size
  have s10 : h10.size = h9.size := by rw [e10]; exact setsH_size
  have o10 : Own h10 0 239 1 (.slice p' (gs.length + 1) c') (gs.length + 1) ((gs.map fun g => vP g.bg) ++ [vP (h5.size + 1)]) := o9.keep fun q hq => k10 q ((show Tag h9 q 239 from o9.blk hq).ne t9 (by decide))
  have KS : cellsAt h10 bs 0 (mcells k w n 0) := by
    refine cellsAt_congr ?_ s7
    have hsi : SIat h7 bs := .of s7 rfl
    exact kk bs (cellH_lt s7.1) (fun e => T7.noSI_L (e ▸ hsi)) (fun e => T7.noSI_A e hsi)
  refine ⟨?_, by simp, rfl, by simp [hasV], ⟨by have := g9.size; have := x7.size; omega, fun q h1 h2 => ?_⟩, fun b hb => ?_, .inr ⟨rfl, rfl, rfl, rfl, hf, by show h.size ≤ h5.size + 1; omega, by show h.size ≤ h5.size; omega⟩⟩
  · refine T7.setList kk c10 ?_ (fun q hq => ?_) (fun g hg => ?_) ?_ ?_ ?_
    · simpa using o10
    · obtain ⟨b, rfl⟩ : ∃ b, p' = some ⟨b, 0, none⟩ := by
        rcases o10.2 with ⟨_, hh⟩ | ⟨g, cap, cur, hv, _⟩
        · omega
        · cases hv; exact ⟨g, rfl⟩
      cases hq
      have hc := o10.cellsA
      cases hgs : gs with
      | nil => rw [hgs] at hc; exact ⟨_, hc.1⟩
      | cons g r => rw [hgs] at hc; exact ⟨_, hc.1⟩
    · rcases List.mem_append.1 hg with h1 | h1
      · exact .inl h1
      · obtain rfl := List.mem_singleton.1 h1
        refine .inr ⟨(kn _ (by show h.size ≤ h5.size + 1; omega) (by show h5.size + 1 < h7.size; omega)).trans b7, KS, hn, m7.congr (kn _ z5 (by omega)), (fun p hp => by cases hp), by simp⟩
    · rw [List.map_append]
      refine List.nodup_append.2 ⟨T.nd1, by simp, fun a ha b hb => ?_⟩
      obtain ⟨g, hg, rfl⟩ := List.mem_map.1 ha
      simp only [List.map_cons, List.map_nil, List.mem_singleton] at hb
      have := T.foot_lt (.inr (.inr ⟨g, hg, .inl rfl⟩) : Foot bl gv gs g.bg)
      omega
    · rw [List.map_append]
      refine List.nodup_append.2 ⟨T.nd2, by simp, fun a ha b hb => ?_⟩
      obtain ⟨g, hg, rfl⟩ := List.mem_map.1 ha
      simp only [List.map_cons, List.map_nil, List.mem_singleton] at hb
      have := T.foot_lt (.inr (.inr ⟨g, hg, .inr (.inl rfl)⟩) : Foot bl gv gs g.br)
      omega
    · simpa using T.nd3
  · exact (kk q (by have := x7.size; omega) (fun e => h2 (.inl e)) (fun e => h2 (.inr (.inl e)))).trans (x7.old q h1)
  · rcases hnew with e | ⟨b', e, hb'⟩
    · exact .inl (e ▸ hb)
    · rw [hb] at e; cases e; exact .inr (by have := x7.size; omega)

theorem Put_c (T : LSt h k w bl L N gv gs) (G0 : Good k gs N) (hN : N < 200) {mp mc n ab ac : Nat} {v : B128} {y : BitVec 64} (hm : cellsAt h mp 0 (mcells k w n v)) (hn : n ≤ w) (hv : v &&& msk w n = v) (ha : cellsAt h ab 0 [.int .u64 0, vW y]) :
    CallsH Tryz.prog 153 #[vP bl, .agg #[sl mp 1 mc, vI (cond k (n + 1) 0), .string sOut, sl ab 1 ac]] h fun e h' =>
      (hasV (findG gs n) v = true → e = .returned (vI 121) ∧ Ext h h') ∧
      (hasV (findG gs n) v = false → e = .returned (vI 0) ∧ ∃ gv' gs', LSt h' k w bl L (N + 1) gv' gs' ∧ Good k gs' (N + 1) ∧ Srt gs' 0 gs'.length ∧ (∀ n' v' y', Ent gs' n' v' y' ↔ Ent gs n' v' y' ∨ (n' = n ∧ v' = v ∧ y' = y)) ∧
        Fr (Foot bl gv gs) h h' ∧ ∀ q, Foot bl gv' gs' q → Foot bl gv gs q ∨ h.size ≤ q) := by
  obtain ⟨gp, gc, hgvf⟩ := T.gv_form
  have hlen : gs.length ≤ 200 := by have := G0.len; omega
  refine V153 _ _ _ _ _ _ _ _ _ h _ ?_
  rintro b0 h0 rfl hh0
  have x0 : Ext h h0 := by rw [hh0]; exact Ext.push _ _
  have c0 : h0[h.size]? = some (.cells #[sl mp 1 mc, vI (cond k (n + 1) 0), .string sOut, sl ab 1 ac] 53) := by rw [hh0]; exact push_last
  clear hh0
  have T0 := T.ext x0
  refine ⟨false, eqv_ptr (e := 144) (by kernel_rfl) _, (fun hf => by cases hf), fun _ => ⟨bl, 0, rfl, _, _, _, _, _, _, _, _, _, _, _, _, _, _, _, _, _, _, LB.six T0.blk, bl, 0, rfl, _, cellsAt_one (cellH_at T0.blk), _, _, _, _, _, _, _, _, cellsAt_all c0, (Right_c T0.ok.S (a := false) ⟨ab, 0, ac, y, rfl, x0.cells ha⟩ (x0.cells hm) hn hv).mono ?_⟩⟩
  rintro en h1 ⟨rfl, x1⟩
  refine ⟨_, rfl, fun hf => absurd hf (by decide), fun _ => ⟨_, _, _, _, _, _, _, _, cellsAt_all (x1.at c0), (place_c (T0.ext x1) ((x0.trans x1).cells hm) hn hv).mono ?_⟩⟩
  rintro en h2 ⟨rfl, x2⟩
  obtain ⟨pa, hpa⟩ : ∃ pa, gpP (findG gs n) = .pointer pa := by
    cases findG gs n with
    | none => exact ⟨_, rfl⟩
    | some g => exact ⟨_, rfl⟩
  rw [hpa]
  refine ⟨pa, _, _, _, _, _, _, _, _, _, _, _, _, _, _, _, _, _, _, rfl, ?_⟩
  rintro b3 h3 rfl rfl
  have x3 := Ext.push h2 (.cells (zeros Tryz.prog 241) 241)
  refine ⟨info241, stoT (n := 16) x3 (Nat.le_refl _) push_last rfl rfl (by simp [Value.oneCell']) fun h4 x4 z4 c4 k4 => ⟨fun hd => ⟨fun _ => ⟨rfl, ((x0.trans x1).trans x2).trans x4⟩, fun hf => by rw [hd] at hf; cases hf⟩, fun hd => ?_⟩⟩
  have x04 := ((x0.trans x1).trans x2).trans x4
  have z2 := ((x0.trans x1).trans x2).size
  have hb3 := (Array.getElem?_eq_some_iff.1 c4).1
  have T4 := T.ext x04
  have e4 := (x1.trans (x2.trans x4)).at c0
  refine ⟨bl, 0, rfl, _, cellsAt_one (cellH_at T4.blk), bl, 0, rfl, _, cellsAt_one (cellH_at T4.blk), fun hf => ?_, fun _ => ?_⟩
  · have := of_decide_eq_true hf
    omega
  refine ⟨fun vs q => ∃ gv' gs' i g, vs = [vP g.bg] ∧ PutAt h q k w bl L N gv gs n v gv' gs' i g ∧ q[h.size]? = some (.cells #[sl mp 1 mc, vI (cond k (n + 1) 0), .string sOut, sl ab 1 ac] 53) ∧ q[h2.size]? = some (.cells (idL v).toArray 241), ?_, ?_⟩
  · cases hfg : findG gs n with
    | none =>
      rw [hfg] at hpa
      cases hpa
      refine ⟨true, eqv_nil (e := 246) (by kernel_rfl), fun _ => ?_, (fun hf => by cases hf)⟩
      refine ⟨_, _, _, _, _, _, _, _, cellsAt_all e4, (shape_c T4.ok T4.blk (x04.cells hm)).mono ?_⟩
      rintro en h5 ⟨bs, cs, g5, x5, hs, rfl⟩
      refine ⟨_, _, _, rfl, ?_⟩
      rintro r h6 rfl rfl b6 h7 hb6 hh7
      have hb6' : b6 = h5.size + 1 := by rw [hb6]; simp
      have x7 : Ext h5 h7 := by rw [hh7]; exact (Ext.push _ _).box _
      have T7 := T4.ext (x5.trans x7)
      have hgvc : cellsAt h7 bl (0 + 11) [.slice gp gs.length gc] := by rw [← hgvf]; exact cellsAt_one (cellH_at T7.blk)
      have harr : Own h7 0 239 1 (.slice gp gs.length gc) gs.length (gs.map fun g => vP g.bg) := by rw [← hgvf]; exact T7.arr
      refine ⟨bl, 0, rfl, _, _, _, hgvc, ?_⟩
      refine semH_push row142 harr (vs := [vP b6]) (m := 1) rfl rfl (by simp) (by simp) (by simp [Value.oneCell']) (by omega) (by simp only [maxLen]; omega) (Nat.zero_le _) fun p' c' h9 o9 g9 _ hnew => ?_
      have b9 : h9[bl]? = some (.cells (L.cells k N gv) 144) := (g9.block bl (T7.foot_lt (.inl rfl)) (fun e => (T7.tagL.ne (T7.tagA (by rw [hgvf]; exact e.symm)) (by decide)) rfl)).trans T7.blk
      refine ⟨bl, 0, rfl, rfl, wrAt_of b9 (by simp) (.inl (Nat.zero_le _)), ?_⟩
      intro h10 hh10
      rw [hb6'] at o9 ⊢
      have P := put_group (v := v) T x04 x5 hfg hn hs (by omega) h7 hh7 o9 (by rw [hgvf]; exact g9) (by rw [hgvf]; exact hnew) hh10
      have kn : ∀ q, h.size ≤ q → q < h7.size → h10[q]? = h7[q]? := fun q h1 h2 => by
        rw [hh10, setsH_ne (fun e => by have := T.foot_lt (.inl rfl : Foot bl gv gs bl); omega)]
        exact g9.block q h2 (fun e => by have := T.foot_lt (.inr (.inl (by rw [hgvf]; exact e.symm)) : Foot bl gv gs q); omega)
      have z7 := (x5.trans x7).size
      exact ⟨_, _, _, _, rfl, P, (kn _ (Nat.le_refl _) (by omega)).trans ((x5.trans x7).at e4), (kn _ z2 (by omega)).trans ((x5.trans x7).at c4)⟩
    | some g =>
      rw [hfg] at hpa
      cases hpa
      refine ⟨false, eqv_ptr (e := 246) (by kernel_rfl) _, (fun hf => by cases hf), fun _ => ?_⟩
      obtain ⟨hg, hgn⟩ := findG_some hfg
      obtain ⟨i, hi⟩ := List.getElem?_of_mem hg
      exact ⟨gv, gs, i, g, rfl, ⟨T4, hi, hgn, by rw [← hfg]; exact hd, Fr.of_ext x04, fun b hb => .inl hb, .inl rfl⟩, e4, c4⟩
  rintro g_ h11 ⟨gv', gs', i, g, hvs, P, e0, e3⟩
  cases hvs
  have K11 := T.fr_si P.fr
  have hm11 := K11.cells hm rfl
  have ha11 := K11.cells ha rfl
  have hgm := List.mem_of_getElem? P.at_
  have G := P.st.gp g hgm
  have hgN : g.m ≤ 200 := by
    rcases P.dis with e | ⟨_, _, e, _⟩
    · rw [e] at hgm
      have := (G0.ok g hgm).2.1
      have := G0.rows hgm
      omega
    · omega
  refine ⟨fun q => Ext h11 q, Ext.refl _, g.bg, 0, rfl, _, fun q xq => cellsAt_one (cellH_at (xq.at G.blk)), _, _, _, _, _, _, _, _, _, _, _, _, _, _, _, _, fun q xq => cellsAt_all (xq.at e3), g.bg, 0, rfl, _, fun q xq => cellsAt_one (cellH_at (xq.at G.blk)), _, _, _, _, _, _, _, _, _, _, _, _, _, _, _, _, fun q xq => cellsAt_all (xq.at e3), none, 0, 0, fun u hu => run_lookW_no (G.map.ext hu) Gp.keys (Gp.absent P.no), _, _, _, _, _, _, _, _, cellsAt_all e0, (copied_c hm11 ha11).mono ?_⟩
  rintro en h12 ⟨mp', mc', ab', ac', g1, g2, x12, m12, a12, rfl⟩
  refine ⟨_, _, _, _, _, _, _, _, rfl, x12, ?_⟩
  refine semH_buildS row176.ht (by decide) (buildS_hi row176) (rows := [[sl mp' 1 mc', vI (cond k (n + 1) 0), .string sOut, sl ab' 1 ac']]) (by simp) rfl rfl (by simp) (by simp) ?_
  have x13 := Ext.push h12 (.cells ([[sl mp' 1 mc', vI (cond k (n + 1) 0), .string sOut, sl ab' 1 ac']] : List (List Value)).flatten.toArray 53)
  refine ⟨_, _, _, rfl, x12.trans x13, (ins_c (vs := [sl mp' 1 mc', vI (cond k (n + 1) 0), .string sOut, sl ab' 1 ac']) (cellsAt_all push_last) rfl (by simp [Value.oneCell'])).mono ?_⟩
  rintro en h14 ⟨rb, rc, rfl, x14, o14⟩
  have xx := (x12.trans x13).trans x14
  have T14 := P.st.ext xx
  have G14 := T14.gp g hgm
  refine ⟨_, _, _, rfl, xx, semH_mapPutW mapG G14.map Gp.keys (key_id v) (fun _ h15 m15 z15 k15 => ?_) fun u j hj => absurd rfl (Gp.absent P.no _ (List.mem_of_getElem? hj))⟩
  have him : i < gs'.length := (List.getElem?_eq_some_iff.1 P.at_).1
  have hrb : h11.size ≤ rb := Nat.le_trans (x12.trans x13).size o14.le1.1
  have T15 : LSt h15 k w bl L N gv' (gs'.set i { g with rows := g.rows ++ [(v, ⟨rb, rc, mp', mc', ab', ac', y⟩)] }) := by
    refine T14.setRows P.at_ k15 (by rw [List.map_append]; exact m15) (fun p hp => ?_) ?_ (nd3_add P.at_ P.st.nd3 (fresh_rows P.st hrb))
    · rcases List.mem_append.1 hp with h1 | h1
      · exact .inl h1
      · obtain rfl := List.mem_singleton.1 h1
        rw [P.gn]
        exact .inr ⟨hv, o14.re1 (Nat.zero_le _), (x13.trans x14).cells m12, (x13.trans x14).cells a12⟩
    · rw [List.map_append]
      refine List.nodup_append.2 ⟨G.nd, by simp, fun a hma b hmb => ?_⟩
      simp only [List.map_cons, List.map_nil, List.mem_singleton] at hmb
      rintro rfl
      subst hmb
      obtain ⟨p, hp, hpa⟩ := List.mem_map.1 hma
      have := P.no
      simp only [hasV, List.any_eq_false, decide_eq_true_eq] at this
      exact this p hp hpa
  have a15 : (gs'.set i { g with rows := g.rows ++ [(v, ⟨rb, rc, mp', mc', ab', ac', y⟩)] })[i]? = some { g with rows := g.rows ++ [(v, ⟨rb, rc, mp', mc', ab', ac', y⟩)] } := by rw [List.getElem?_set, if_pos rfl, if_pos him]
  have b15 : h15[g.bg]? = some (.cells #[sl g.bs 1 g.cs, .map (some g.br), vI g.m, vZ g.gr] 246) := (k15 _ (G14.tag.neM G14.isM)).trans G14.blk
  refine ⟨g.bg, 0, rfl, _, cellsAt_one (cellH_at b15), ((g.m + 1 : Nat) : Int), incI (by omega), g.bg, 0, rfl, rfl, wrAt_of b15 (by simp) (.inl (Nat.zero_le _)), ?_⟩
  intro h16 hh16
  have k16 : ∀ q, q ≠ g.bg → h16[q]? = h15[q]? := fun q hq => by rw [hh16]; exact setsH_ne hq
  have b16 : h16[g.bg]? = some (.cells #[sl g.bs 1 g.cs, .map (some g.br), vI (g.m + 1), vZ g.gr] 246) := by rw [hh16]; exact setsH_at b15
  have s16 : h16.size = h15.size := by rw [hh16]; exact setsH_size
  clear hh16
  have T16 := T15.setGroup a15 (m' := g.m + 1) (gr' := g.gr) k16 b16
  rw [List.set_set] at T16
  have a16 : (gs'.set i { g with rows := g.rows ++ [(v, ⟨rb, rc, mp', mc', ab', ac', y⟩)], m := g.m + 1, gr := g.gr })[i]? = some { g with rows := g.rows ++ [(v, ⟨rb, rc, mp', mc', ab', ac', y⟩)], m := g.m + 1, gr := g.gr } := by rw [List.getElem?_set, if_pos rfl, if_pos him]
  have e16 : h16[h.size]? = some (.cells #[sl mp 1 mc, vI (cond k (n + 1) 0), .string sOut, sl ab 1 ac] 53) := by
    have t1 : Tag h14 h.size 53 := ⟨_, xx.at e0⟩
    rw [k16 _ (by intro e; have hb := xx.at e0; rw [e, G14.blk] at hb; cases hb), k15 _ (t1.neM G14.isM)]
    exact xx.at e0
  refine ⟨g.bg, 0, rfl, _, cellsAt_one (cellH_at b16), _, cellsAt_one (cellH_at e16), g.bg, 0, rfl, rfl, wrAt_of b16 (by simp) (.inl (Nat.zero_le _)), ?_⟩
  intro h17 hh17
  have k17 : ∀ q, q ≠ g.bg → h17[q]? = h16[q]? := fun q hq => by rw [hh17]; exact setsH_ne hq
  have b17 : h17[g.bg]? = some (.cells #[sl g.bs 1 g.cs, .map (some g.br), vI (g.m + 1), vZ (max g.gr ((cond k (n + 1) 0 : Nat) : Int))] 246) := by rw [hh17]; exact setsH_at b16
  have s17 : h17.size = h16.size := by rw [hh17]; exact setsH_size
  clear hh17
  have T17 := T16.setGroup a16 (m' := g.m + 1) (gr' := max g.gr ((cond k (n + 1) 0 : Nat) : Int)) k17 b17
  rw [List.set_set] at T17
  refine ⟨bl, 0, rfl, _, cellsAt_one (cellH_at T17.blk), ((N + 1 : Nat) : Int), incI (by omega), bl, 0, rfl, rfl, wrAt_of T17.blk (by simp) (.inl (Nat.zero_le _)), ?_⟩
  intro h18 hh18
  have k18 : ∀ q, q ≠ bl → h18[q]? = h17[q]? := fun q hq => by rw [hh18]; exact setsH_ne hq
  have b18 : h18[bl]? = some (.cells (L.cells k (N + 1) gv') 144) := by rw [hh18]; exact setsH_at T17.blk
  have s18 : h18.size = h17.size := by rw [hh18]; exact setsH_size
  clear hh18
  have T18 := T17.setList (gs' := _) (fun q _ h2 _ => k18 q h2) b18 (T17.arr.keep fun q hq => k18 q ((T17.tagA hq).ne T17.tagL (by decide)))
    (fun q hq => by obtain ⟨p, hp⟩ := T17.ptr q hq; exact ⟨p, (cellsAt_congr (vs := [.pointer p]) (k18 q ((T17.tagA hq).ne T17.tagL (by decide))) (cellsAt_one hp)).1⟩) (fun g hg => .inl hg) T17.nd1 T17.nd2 T17.nd3
  have hput := put_good (r := ⟨rb, rc, mp', mc', ab', ac', y⟩) G0 P (List.Perm.refl _)
  have hl3 : (gs'.set i { g with rows := g.rows ++ [(v, ⟨rb, rc, mp', mc', ab', ac', y⟩)], m := g.m + 1, gr := max g.gr ((cond k (n + 1) 0 : Nat) : Int) }).length = gs'.length := List.length_set
  refine (rank_c T18 (by intro e; rw [e] at hl3; simp at hl3; omega) (Nat.le_trans hput.1.len (by omega)) (fun x hx => by
    have e1 := (hput.1.ok x hx).2.2
    have hw := (T18.gp x hx).nw
    have := T.ok.S.w2
    rw [e1]
    cases k
    · simp
    · simp only [cond_true]; omega)).mono ?_
  rintro en h19 ⟨rfl, gs4, perm, srt, T19, z19, k19⟩
  have hput4 := put_good (r := ⟨rb, rc, mp', mc', ab', ac', y⟩) G0 P perm
  refine ⟨rfl, fun ht => by rw [hd] at ht; (cases ht), fun _ => ⟨rfl, gv', gs4, T19, hput4.1, by rw [perm.length_eq]; exact srt, hput4.2, ?_, ?_⟩⟩
  · have f0 : ∀ {q}, Foot bl gv' gs' q → Foot bl gv' gs' q ∨ h11.size ≤ q := fun h => .inl h
    have X := ((((Fr.of_ext (F := Foot bl gv' gs') xx).trans (Fr.one z15 k15 (F := Foot bl gv' gs') (.inr (.inr ⟨g, hgm, .inr (.inl rfl)⟩))) fun q hq => .inl hq).trans (Fr.one s16 k16 (F := Foot bl gv' gs') (.inr (.inr ⟨g, hgm, .inl rfl⟩))) fun q hq => .inl hq).trans (Fr.one s17 k17 (F := Foot bl gv' gs') (.inr (.inr ⟨g, hgm, .inl rfl⟩))) fun q hq => .inl hq).trans (Fr.one s18 k18 (F := Foot bl gv' gs') (.inl rfl)) fun q hq => .inl hq
    have Y : Fr (Foot bl gv' gs') h18 h19 := ⟨by rw [z19]; exact Nat.le_refl _, fun q _ hq => k19 q fun e => hq (.inr (.inl e))⟩
    exact P.fr.trans (X.trans Y fun q hq => .inl hq) fun q hq => P.foot hq
  · rintro q (hq | hq | ⟨x, hx, hq⟩)
    · exact .inl (.inl hq)
    · exact (P.own q hq).imp (fun e => .inr (.inl e)) id
    · rw [perm.mem_iff] at hx
      rcases List.mem_or_eq_of_mem_set hx with hx | rfl
      · exact P.foot (.inr (.inr ⟨x, hx, hq⟩))
      · rcases hq with hq | hq | ⟨p, hp, hq⟩
        · exact P.foot (.inr (.inr ⟨g, hgm, .inl hq⟩))
        · exact P.foot (.inr (.inr ⟨g, hgm, .inr (.inl hq)⟩))
        · rcases List.mem_append.1 hp with hp | hp
          · exact P.foot (.inr (.inr ⟨g, hgm, .inr (.inr ⟨p, hp, hq⟩)⟩))
          · obtain rfl := List.mem_singleton.1 hp
            rw [hq]
            exact .inr (Nat.le_trans P.fr.size hrb)
end
end Go.Vc
