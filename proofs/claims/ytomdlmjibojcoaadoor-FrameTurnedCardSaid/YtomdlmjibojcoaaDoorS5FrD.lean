/- Frames: right ones; Put and Get. -/
import Derived.Test.YtomdlmjibojcoaaDoorS5FrE
import Derived.Test.YtomdlmjibojcoaaDoorS5DkG
set_option maxRecDepth 10000
namespace Go.Vc
open Go Go.Proofs Go.MapKept

/-- A right frame out of raw parts. -/
def rightF (f : Frm) : Frm := ⟨1 + (pickN f.kind 255 : Int), f.number, (pickN f.index 2147483647 : Int), if 491 < f.body.size then f.body.extract 0 491 else f.body⟩

theorem rightF_right {f : Frm} (hn : f.number < 18446744073709551616) : (rightF f).Right := by
  have h1 := pickN_lt f.kind (show 0 < 255 by decide)
  have h2 := pickN_lt f.index (show 0 < 2147483647 by decide)
  refine ⟨?_, ?_, hn, ?_, ?_, ?_⟩
  · show 1 ≤ 1 + (pickN f.kind 255 : Int); omega
  · show 1 + (pickN f.kind 255 : Int) ≤ 255; omega
  · show (0 : Int) ≤ (pickN f.index 2147483647 : Int); omega
  · show (pickN f.index 2147483647 : Int) ≤ 2147483647; omega
  · show (if 491 < f.body.size then f.body.extract 0 491 else f.body).size ≤ 491
    split
    · rw [ByteArray.size_extract]; omega
    · omega

set_option maxHeartbeats 2000000 in
/-- turnoutlaw05.right -/
theorem right_c (f : Frm) (ok : f.Ok) (h : Hp) : CallsH Tryd.prog 16 #[.agg (frmV f).toArray] h fun e h' => Ext h h' ∧ e = .returned (.agg (frmV (rightF f)).toArray) := by
  refine V16 _ _ _ _ h _ ?_
  intro b h1 hb e1
  have x1 : Ext h h1 := by rw [e1]; exact Ext.push _ _
  have c1 : h1[h.size]? = some (.cells (frmV f).toArray 24) := by rw [e1]; exact push_last
  have l1 : h1.size = h.size + 1 := by rw [e1]; simp
  clear e1
  subst hb
  intro b1 h2 hb1 e2
  have x2 : Ext h1 h2 := by rw [e2]; exact Ext.push _ _
  have r2 : h2[b1]? = some (.cells (frmV Frm.no).toArray 24) := by rw [e2, hb1, zerosFrame]; exact push_last
  have l2 : h2.size = h1.size + 1 := by rw [e2]; simp
  clear e2
  have f2 := (x2.old h.size (by omega)).trans c1
  have x02 := x1.trans x2
  have p1 := pickN_lt f.kind (show 0 < 255 by decide)
  have p2 := pickN_lt f.index (show 0 < 2147483647 by decide)
  obtain ⟨G, hG⟩ : ∃ G : Frm, G = ⟨1 + (pickN f.kind 255 : Int), f.number, (pickN f.index 2147483647 : Int), f.body⟩ := ⟨_, rfl⟩
  have hw : IntKind.i64.wrap ((1 : Int) + (pickN f.kind 255 : Int)) = 1 + (pickN f.kind 255 : Int) := wrapI64 (by omega) (by omega)
  have C : ∀ (k : Nat) (v : Value), (frmV f)[k]? = some v → ∀ h' : Hp, h'[h.size]? = some (.cells (frmV f).toArray 24) → cellsAt h' h.size (0 + k) [v] := by
    intro k v hv h' hc
    refine cellsAt_one (cellH_at (cs := (frmV f).toArray) hc |>.trans ?_)
    rw [Nat.zero_add]
    simpa using hv
  refine ⟨infoFrame, ⟨fun h' => h'[h.size]? = some (.cells (frmV f).toArray 24), f2, _, C 0 _ rfl, (pick_c f.kind 255 (by decide) ok.k0 ok.k1 h2).mono ?_⟩, ⟨fun h' => h'[h.size]? = some (.cells (frmV f).toArray 24), f2, _, C 0 _ rfl, ?_⟩, ⟨fun h' => h'[h.size]? = some (.cells (frmV f).toArray 24), f2, _, C 0 _ rfl, (pick_c f.kind 255 (by decide) ok.k0 ok.k1 h2).mono ?_⟩⟩
  · rintro e h2' ⟨rfl, rfl⟩
    refine ⟨_, rfl, f2, _, hw, _, C 1 _ rfl, _, C 2 _ rfl, (pick_c f.index 2147483647 (by decide) ok.i0 ok.i1 h2').mono ?_⟩
    rintro e h3 ⟨rfl, rfl⟩
    refine ⟨_, rfl, f2, _, C 3 _ rfl, ?_⟩
    intro b2 h4 hb2 e4
    have xpre : Ext h h4 := by rw [e4]; exact x02.trans (Ext.push _ _)
    have cpre : h4[b2]? = some (.cells (frmV Frm.no).toArray 24) := by rw [e4, hb2, zerosFrame]; exact push_last
    have rpre : h4[b1]? = some (.cells (frmV Frm.no).toArray 24) := by rw [e4]; exact ((Ext.push _ _).old b1 (by omega)).trans r2
    have fpre : h4[h.size]? = some (.cells (frmV f).toArray 24) := by rw [e4]; exact ((Ext.push _ _).old h.size (by omega)).trans f2
    have hne : b1 ≠ b2 := by omega
    have fsG := frm_set cpre G
    subst hG
    refine ⟨infoFrame, fpre, rfl, fsG.2.1, fsG.2.2.1, ?_⟩
    intro hq eq5
    obtain ⟨G, hG⟩ : ∃ G : Frm, G = ⟨1 + (pickN f.kind 255 : Int), f.number, (pickN f.index 2147483647 : Int), f.body⟩ := ⟨_, rfl⟩
    have eq5 : hq = setsH h4 b2 0 (frmV G) := by rw [eq5, hG]; rfl
    have cq : hq[b2]? = some (.cells (frmV G).toArray 24) := by rw [eq5]; exact (frm_set cpre G).2.2.2
    have yq : Ext h hq := by rw [eq5]; exact xpre.over (setsH_same (B := fun x => x = b2) rfl) fun x hx => by omega
    have rq : hq[b1]? = some (.cells (frmV Frm.no).toArray 24) := by rw [eq5]; exact (setsH_ne hne).trans rpre
    have fq : hq[h.size]? = some (.cells (frmV f).toArray 24) := by rw [eq5]; exact (setsH_ne (by omega)).trans fpre
    refine ⟨fq, G.body, cellsAt_one (cellH_at cq), fun hl => ?_, fun hl => ?_⟩
    · have hl : 491 < f.body.size := by have := of_decide_eq_true hl; rw [hG] at this; simp at this; omega
      refine ⟨G.body, cellsAt_one (cellH_at cq), 491, rfl, by omega, by rw [hG]; simp; omega, _, rfl, rfl, wrAt_of cq (by show 0 + 3 + 1 ≤ 4; decide) (.inl (Nat.zero_le _)), ?_⟩
      intro hr er
      have cr : hr[b2]? = some (.cells (frmV (rightF f)).toArray 24) := by
        rw [er, setsH_at cq]
        have : rightF f = { G with body := G.body.extract 0 491 } := by rw [hG]; unfold rightF; rw [if_pos hl]
        rw [this]; rfl
      have rr : hr[b1]? = some (.cells (frmV Frm.no).toArray 24) := by rw [er]; exact (setsH_ne hne).trans rq
      have yr : Ext h hr := by rw [er]; exact yq.over (setsH_same (B := fun x => x = b2) rfl) fun x hx => by omega
      have fs := frm_set rr (rightF f)
      refine ⟨_, _, _, _, cellsAt_all (vs := frmV (rightF f)) cr, rfl, fs.2.1, fs.2.2.1, ?_⟩
      intro hs es
      refine ⟨_, _, _, _, cellsAt_all (vs := frmV (rightF f)) (by rw [es]; exact fs.2.2.2), ?_, rfl⟩
      rw [es]; exact yr.over (setsH_same (B := fun x => x = b1) rfl) fun x hx => by omega
    · have hl : ¬ 491 < f.body.size := by have := of_decide_eq_false hl; rw [hG] at this; simp at this; omega
      have hGr : G = rightF f := by rw [hG]; unfold rightF; rw [if_neg hl]
      have fs := frm_set rq G
      refine ⟨_, _, _, _, cellsAt_all (vs := frmV G) cq, rfl, fs.2.1, fs.2.2.1, ?_⟩
      intro hs es
      refine ⟨_, _, _, _, cellsAt_all (vs := frmV G) (by rw [es]; exact fs.2.2.2), ?_, by rw [← hGr]; rfl⟩
      rw [es]; exact yq.over (setsH_same (B := fun x => x = b1) rfl) fun x hx => by omega
  · intro b2 h4 hb2 e4
    have xpre : Ext h h4 := by rw [e4]; exact x02.trans (Ext.push _ _)
    have cpre : h4[b2]? = some (.cells (frmV Frm.no).toArray 24) := by rw [e4, hb2, zerosFrame]; exact push_last
    have rpre : h4[b1]? = some (.cells (frmV Frm.no).toArray 24) := by rw [e4]; exact ((Ext.push _ _).old b1 (by omega)).trans r2
    have fpre : h4[h.size]? = some (.cells (frmV f).toArray 24) := by rw [e4]; exact ((Ext.push _ _).old h.size (by omega)).trans f2
    have hne : b1 ≠ b2 := by omega
    have hlb : h2.size ≤ b2 := by omega
    clear e4 hb2
    refine ⟨infoFrame, fpre, (pick_c f.kind 255 (by decide) ok.k0 ok.k1 h4).mono ?_⟩
    rintro e h5 ⟨rfl, rfl⟩
    refine ⟨_, rfl, fpre, _, hw, _, C 1 _ rfl, _, C 2 _ rfl, (pick_c f.index 2147483647 (by decide) ok.i0 ok.i1 h5).mono ?_⟩
    rintro e h6 ⟨rfl, rfl⟩
    have fsG := frm_set cpre G
    subst hG
    refine ⟨_, rfl, fpre, _, C 3 _ rfl, rfl, fsG.2.1, fsG.2.2.1, ?_⟩
    intro hq eq5
    obtain ⟨G, hG⟩ : ∃ G : Frm, G = ⟨1 + (pickN f.kind 255 : Int), f.number, (pickN f.index 2147483647 : Int), f.body⟩ := ⟨_, rfl⟩
    have eq5 : hq = setsH h6 b2 0 (frmV G) := by rw [eq5, hG]; rfl
    have cq : hq[b2]? = some (.cells (frmV G).toArray 24) := by rw [eq5]; exact (frm_set cpre G).2.2.2
    have yq : Ext h hq := by rw [eq5]; exact xpre.over (setsH_same (B := fun x => x = b2) rfl) fun x hx => by omega
    have rq : hq[b1]? = some (.cells (frmV Frm.no).toArray 24) := by rw [eq5]; exact (setsH_ne hne).trans rpre
    have fq : hq[h.size]? = some (.cells (frmV f).toArray 24) := by rw [eq5]; exact (setsH_ne (by omega)).trans fpre
    refine ⟨fq, G.body, cellsAt_one (cellH_at cq), fun hl => ?_, fun hl => ?_⟩
    · have hl : 491 < f.body.size := by have := of_decide_eq_true hl; rw [hG] at this; simp at this; omega
      refine ⟨G.body, cellsAt_one (cellH_at cq), 491, rfl, by omega, by rw [hG]; simp; omega, _, rfl, rfl, wrAt_of cq (by show 0 + 3 + 1 ≤ 4; decide) (.inl (Nat.zero_le _)), ?_⟩
      intro hr er
      have cr : hr[b2]? = some (.cells (frmV (rightF f)).toArray 24) := by
        rw [er, setsH_at cq]
        have : rightF f = { G with body := G.body.extract 0 491 } := by rw [hG]; unfold rightF; rw [if_pos hl]
        rw [this]; rfl
      have rr : hr[b1]? = some (.cells (frmV Frm.no).toArray 24) := by rw [er]; exact (setsH_ne hne).trans rq
      have yr : Ext h hr := by rw [er]; exact yq.over (setsH_same (B := fun x => x = b2) rfl) fun x hx => by omega
      have fs := frm_set rr (rightF f)
      refine ⟨_, _, _, _, cellsAt_all (vs := frmV (rightF f)) cr, rfl, fs.2.1, fs.2.2.1, ?_⟩
      intro hs es
      refine ⟨_, _, _, _, cellsAt_all (vs := frmV (rightF f)) (by rw [es]; exact fs.2.2.2), ?_, rfl⟩
      rw [es]; exact yr.over (setsH_same (B := fun x => x = b1) rfl) fun x hx => by omega
    · have hl : ¬ 491 < f.body.size := by have := of_decide_eq_false hl; rw [hG] at this; simp at this; omega
      have hGr : G = rightF f := by rw [hG]; unfold rightF; rw [if_neg hl]
      have fs := frm_set rq G
      refine ⟨_, _, _, _, cellsAt_all (vs := frmV G) cq, rfl, fs.2.1, fs.2.2.1, ?_⟩
      intro hs es
      refine ⟨_, _, _, _, cellsAt_all (vs := frmV G) (by rw [es]; exact fs.2.2.2), ?_, by rw [← hGr]; rfl⟩
      rw [es]; exact yq.over (setsH_same (B := fun x => x = b1) rfl) fun x hx => by omega
  · rintro e h2' ⟨rfl, rfl⟩
    refine ⟨_, rfl, f2, _, hw, _, C 1 _ rfl, _, C 2 _ rfl, ?_⟩
    intro b2 h4 hb2 e4
    have xpre : Ext h h4 := by rw [e4]; exact x02.trans (Ext.push _ _)
    have cpre : h4[b2]? = some (.cells (frmV Frm.no).toArray 24) := by rw [e4, hb2, zerosFrame]; exact push_last
    have rpre : h4[b1]? = some (.cells (frmV Frm.no).toArray 24) := by rw [e4]; exact ((Ext.push _ _).old b1 (by omega)).trans r2
    have fpre : h4[h.size]? = some (.cells (frmV f).toArray 24) := by rw [e4]; exact ((Ext.push _ _).old h.size (by omega)).trans f2
    have hne : b1 ≠ b2 := by omega
    have hlb : h2'.size ≤ b2 := by omega
    clear e4 hb2
    refine ⟨infoFrame, fpre, (pick_c f.index 2147483647 (by decide) ok.i0 ok.i1 h4).mono ?_⟩
    rintro e h6 ⟨rfl, rfl⟩
    have fsG := frm_set cpre G
    subst hG
    refine ⟨_, rfl, fpre, _, C 3 _ rfl, rfl, fsG.2.1, fsG.2.2.1, ?_⟩
    intro hq eq5
    obtain ⟨G, hG⟩ : ∃ G : Frm, G = ⟨1 + (pickN f.kind 255 : Int), f.number, (pickN f.index 2147483647 : Int), f.body⟩ := ⟨_, rfl⟩
    have eq5 : hq = setsH h6 b2 0 (frmV G) := by rw [eq5, hG]; rfl
    have cq : hq[b2]? = some (.cells (frmV G).toArray 24) := by rw [eq5]; exact (frm_set cpre G).2.2.2
    have yq : Ext h hq := by rw [eq5]; exact xpre.over (setsH_same (B := fun x => x = b2) rfl) fun x hx => by omega
    have rq : hq[b1]? = some (.cells (frmV Frm.no).toArray 24) := by rw [eq5]; exact (setsH_ne hne).trans rpre
    have fq : hq[h.size]? = some (.cells (frmV f).toArray 24) := by rw [eq5]; exact (setsH_ne (by omega)).trans fpre
    refine ⟨fq, G.body, cellsAt_one (cellH_at cq), fun hl => ?_, fun hl => ?_⟩
    · have hl : 491 < f.body.size := by have := of_decide_eq_true hl; rw [hG] at this; simp at this; omega
      refine ⟨G.body, cellsAt_one (cellH_at cq), 491, rfl, by omega, by rw [hG]; simp; omega, _, rfl, rfl, wrAt_of cq (by show 0 + 3 + 1 ≤ 4; decide) (.inl (Nat.zero_le _)), ?_⟩
      intro hr er
      have cr : hr[b2]? = some (.cells (frmV (rightF f)).toArray 24) := by
        rw [er, setsH_at cq]
        have : rightF f = { G with body := G.body.extract 0 491 } := by rw [hG]; unfold rightF; rw [if_pos hl]
        rw [this]; rfl
      have rr : hr[b1]? = some (.cells (frmV Frm.no).toArray 24) := by rw [er]; exact (setsH_ne hne).trans rq
      have yr : Ext h hr := by rw [er]; exact yq.over (setsH_same (B := fun x => x = b2) rfl) fun x hx => by omega
      have fs := frm_set rr (rightF f)
      refine ⟨_, _, _, _, cellsAt_all (vs := frmV (rightF f)) cr, rfl, fs.2.1, fs.2.2.1, ?_⟩
      intro hs es
      refine ⟨_, _, _, _, cellsAt_all (vs := frmV (rightF f)) (by rw [es]; exact fs.2.2.2), ?_, rfl⟩
      rw [es]; exact yr.over (setsH_same (B := fun x => x = b1) rfl) fun x hx => by omega
    · have hl : ¬ 491 < f.body.size := by have := of_decide_eq_false hl; rw [hG] at this; simp at this; omega
      have hGr : G = rightF f := by rw [hG]; unfold rightF; rw [if_neg hl]
      have fs := frm_set rq G
      refine ⟨_, _, _, _, cellsAt_all (vs := frmV G) cq, rfl, fs.2.1, fs.2.2.1, ?_⟩
      intro hs es
      refine ⟨_, _, _, _, cellsAt_all (vs := frmV G) (by rw [es]; exact fs.2.2.2), ?_, by rw [← hGr]; rfl⟩
      rw [es]; exact yq.over (setsH_same (B := fun x => x = b1) rfl) fun x hx => by omega

end Go.Vc
