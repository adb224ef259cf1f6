/- The document seals, and puts. -/
import Derived.Test.YthkbecpgbjejkaaDoorS9WFrY
import Derived.Test.YthkbecpgbjejkaaDoorS9WRfC
set_option maxRecDepth 10000
namespace Go.Vc
open Go Go.Proofs Go.MapKept

/-- turnoutref05.Wrong -/
theorem rWrong_c (f : Frm) (h : Hp) : CallsH Tryd.prog 99 #[.agg (frmV f).toArray] h fun e h' => Ext h h' ∧ e = .returned (vZ f.wrong) := by
  refine V99 _ _ _ _ h _ ?_
  intro b h1 hb e1
  have x1 : Ext h h1 := by rw [e1]; exact Ext.push _ _
  have c1 : h1[h.size]? = some (.cells (frmV f).toArray 94) := by rw [e1]; exact push_last
  clear e1
  subst hb
  refine ⟨decide (f.kind < 1 ∨ 255 < f.kind ∨ f.index < 0 ∨ 2147483647 < f.index), ⟨f.kind, cellsAt_one (cellH_at c1), fun hc => ⟨rfl, ?_⟩, fun hc => ⟨f.kind, cellsAt_one (cellH_at c1), fun hd => ⟨rfl, ?_⟩, fun hd => ⟨f.index, cellsAt_one (cellH_at c1), fun he => ⟨rfl, ?_⟩, fun he => ⟨f.index, cellsAt_one (cellH_at c1), rfl, ?_⟩⟩⟩⟩, fun hB => ⟨x1, ?_⟩, fun hB => ⟨f.body, cellsAt_one (cellH_at c1), fun hl => ⟨x1, ?_⟩, fun hl => ⟨x1, ?_⟩⟩⟩
  · have hc : f.kind < 1 := by simpa using hc
    simp [hc]
  · have hd : 255 < f.kind := by simpa using hd
    simp [hd]
  · have he : f.index < 0 := by simpa using he
    simp [he]
  · have h1 : ¬ f.kind < 1 := by simpa using hc
    have h2 : ¬ 255 < f.kind := by simpa using hd
    have h3 : ¬ f.index < 0 := by simpa using he
    simp [h1, h2, h3]
  · unfold Frm.wrong
    rw [if_pos (of_decide_eq_true hB)]
  · unfold Frm.wrong
    have hl : 491 < f.body.size := by simp at hl; omega
    rw [if_neg (of_decide_eq_false hB), if_pos hl]
  · unfold Frm.wrong
    have hl : ¬ 491 < f.body.size := by simp at hl; omega
    rw [if_neg (of_decide_eq_false hB), if_neg hl]


set_option maxHeartbeats 1000000 in
/-- turnoutref05.Seal -/
theorem rSeal_c (f : Frm) (ok : f.Ok) (mark : Int) (h : Hp) : CallsH Tryd.prog 100 #[.agg (frmV f).toArray, vZ mark] h fun e h' => Ext h h' ∧ e = .returned (.tuple #[.string (sealF f mark).1, vZ (sealF f mark).2]) := by
  refine V100 _ _ _ _ _ h _ ?_
  intro b h1 hb e1
  have x1 : Ext h h1 := by rw [e1]; exact Ext.push _ _
  have c1 : h1[h.size]? = some (.cells (frmV f).toArray 94) := by rw [e1]; exact push_last
  clear e1
  subst hb
  refine ⟨fun l hq => l = [] ∧ hq = h1 ∧ 0 ≤ mark ∧ mark ≤ 255, ⟨decide (mark < 0 ∨ 255 < mark), ⟨fun hc => ⟨rfl, ?_⟩, fun hc => ⟨rfl, ?_⟩⟩, fun hB => ⟨x1, ?_⟩, fun hB => ?_⟩, ?_⟩
  · have hc : mark < 0 := by simpa using hc
    simp [hc]
  · have hc : ¬ mark < 0 := by simpa using hc
    simp [hc]
  · unfold sealF
    rw [if_pos (of_decide_eq_true hB)]
  · have := of_decide_eq_false hB
    exact ⟨rfl, rfl, by omega, by omega⟩
  rintro h2 ⟨_, rfl, hm0, hm1⟩
  refine ⟨_, _, _, _, cellsAt_all (vs := frmV f) c1, (rWrong_c f h2).mono ?_⟩
  rintro e h3 ⟨x3, rfl⟩
  have c3 := x3.frm c1
  refine ⟨_, rfl, fun hw => ⟨x1.trans x3, ?_⟩, fun hw => ?_⟩
  · unfold sealF
    rw [if_neg (by omega), if_pos (by simpa using hw)]
  have hw0 : f.wrong = 0 := by simpa using hw
  have R := Frm.Right.of ok hw0
  obtain ⟨hk0, hk1, hi0, hi1, hbd⟩ := f.right_of hw0
  have hres : sealF f mark = (tx (sealL f (UInt8.ofNat mark.toNat)), 0) := by
    unfold sealF
    rw [if_neg (by omega), if_neg (by simpa using hw0)]
  rw [hres]
  have C : ∀ (k : Nat) (v : Value), (frmV f)[k]? = some v → ∀ h' : Hp, h'[h.size]? = some (.cells (frmV f).toArray 94) → cellsAt h' h.size (0 + k) [v] := by
    intro k v hv h' hc
    refine cellsAt_one (cellH_at (cs := (frmV f).toArray) hc |>.trans ?_)
    rw [Nat.zero_add]
    simpa using hv
  have wz : ∀ {n : Int}, 0 ≤ n → n ≤ 9223372036854775807 → IntKind.u64.wrap n = ((n.toNat : Nat) : Int) := fun h0 h1 => by rw [wrapU64]; omega
  have sz : ∀ k n, (tx (beL k n)).size = k := fun k n => by rw [tx_size, beL_length]
  refine ⟨fun h' => h'[h.size]? = some (.cells (frmV f).toArray 94), c3, _, C 0 _ rfl _ c3, _, wz (by omega) (by omega), (rBytes_c f.kind.toNat 1 (by omega) (by decide) h3).mono ?_⟩
  rintro e h4 ⟨x4, rfl⟩
  have c4 := x4.frm c3
  refine ⟨_, rfl, c4, _, C 1 _ rfl, (rBytes_c f.number 8 ok.n (by decide) h4).mono ?_⟩
  rintro e h5 ⟨x5, rfl⟩
  have c5 := x5.frm c4
  refine ⟨_, rfl, c5, by rw [sz, sz]; decide, _, rfl, _, C 2 _ rfl, _, wz hi0 (by omega), (rBytes_c f.index.toNat 4 (by omega) (by decide) h5).mono ?_⟩
  rintro e h6 ⟨x6, rfl⟩
  have c6 := x6.frm c5
  refine ⟨_, rfl, c6, by rw [ByteArray.size_append, sz, sz, sz]; decide, _, rfl, f.body, C 3 _ rfl, _, wrapU (by omega), (rBytes_c f.body.size 2 (by omega) (by decide) h6).mono ?_⟩
  rintro e h7 ⟨x7, rfl⟩
  have c7 := x7.frm c6
  refine ⟨_, rfl, c7, by rw [ByteArray.size_append, ByteArray.size_append, sz, sz, sz, sz]; decide, _, rfl, f.body, C 3 _ rfl, by rw [ByteArray.size_append, ByteArray.size_append, ByteArray.size_append, sz, sz, sz, sz]; omega, _, rfl, f.body, C 3 _ rfl _ c7, ((491 - f.body.size : Nat) : Int), by rw [wrapI64] <;> omega, ?_⟩
  refine semH_make rowB zerosB (l := 491 - f.body.size) (c := 491 - f.body.size) (Nat.le_refl _) (by omega) (by simp only [maxLen]; omega) ⟨_, _, _, rfl, ?_⟩
  have x8 : Ext h7 (h7.push (.cells (Array.replicate (491 - f.body.size) (.int .u8 0)) 5)) := Ext.push _ _
  have o8 : Own (h7.push (.cells (Array.replicate (491 - f.body.size) (.int .u8 0)) 5)) h7.size 5 1 (.slice (some ⟨h7.size, 0, none⟩) (491 - f.body.size) (491 - f.body.size)) (491 - f.body.size) (List.replicate (491 - f.body.size) (.int .u8 0)) := own_made (z := .int .u8 0) (Nat.le_refl _) (by simp only [maxLen]; omega) (Nat.le_refl _)
  generalize (h7.push (.cells (Array.replicate (491 - f.body.size) (.int .u8 0)) 5)) = h8 at x8 o8
  have hbz : byteVs (tx (List.replicate (491 - f.body.size) 0)).data.toList = List.replicate (491 - f.body.size) (.int .u8 0) := by
    show byteVs (bl (tx _)) = _
    rw [bl_tx]; exact List.map_replicate
  refine semH_toText uBs uB uStr (t := tx (List.replicate (491 - f.body.size) 0)) (by rw [hbz]; exact o8.seg) ⟨_, rfl, ?_⟩
  have hmid : tx (beL 1 f.kind.toNat) ++ tx (beL 8 f.number) ++ tx (beL 4 f.index.toNat) ++ tx (beL 2 f.body.size) ++ f.body ++ tx (List.replicate (491 - f.body.size) 0) = tx (midL f) := by
    apply bl_inj
    simp only [bl_append, bl_tx, midL, List.append_assoc]
  have smid : (tx (midL f)).size = 506 := by rw [tx_size, midL_length hbd]
  refine ⟨by simp only [ByteArray.size_append, sz, tx_size, List.length_replicate]; omega, _, hmid, _, wz hm0 (by omega), (rBytes_c mark.toNat 1 (by omega) (by decide) h8).mono ?_⟩
  rintro e h9 ⟨x9, rfl⟩
  refine ⟨_, rfl, by rw [sz, smid]; decide, _, rfl, (rSum_c (tx (midL f)) (by rw [smid]; decide) h9).mono ?_⟩
  rintro e h10 ⟨x10, rfl⟩
  refine ⟨_, rfl, by rw [ByteArray.size_append, sz, smid, tx_size, leL_length]; decide, _, rfl, by rw [ByteArray.size_append, ByteArray.size_append, sz, smid, tx_size, leL_length]; decide, _, rfl, ((((((x1.trans x3).trans x4).trans x5).trans x6).trans x7).trans x8).trans (x9.trans x10), ?_⟩
  congr 2
  have e : tx (beL 1 mark.toNat) ++ tx (midL f) ++ tx (leL (sumB [tx (midL f)])) ++ tx (beL 1 mark.toNat) = tx (sealL f (UInt8.ofNat mark.toNat)) := by
    apply bl_inj
    simp only [bl_append, bl_tx]
    unfold sealL sumL
    show (([UInt8.ofNat mark.toNat] ++ midL f) ++ leL (sumB [tx (midL f)])) ++ [UInt8.ofNat mark.toNat] = _
    simp
  rw [e]


end Go.Vc
