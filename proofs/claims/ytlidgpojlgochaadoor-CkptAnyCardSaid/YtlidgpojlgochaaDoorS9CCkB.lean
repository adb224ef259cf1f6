/- Checkpoints: which heads are right, and what a head says. -/
import Derived.Test.YtlidgpojlgochaaDoorS9CCkA
set_option maxRecDepth 10000
namespace Go.Vc
open Go Go.Proofs Go.MapKept

def RightTail (R : Ending → Hp → Prop) (hq : Hp) (a b : Nat) (code : Int) : Prop :=
   (((decide (code = (0 : Int))) = true →
     ∃ x19f0_ : Int, ∃ x19f1_ : Int, cellsAt hq b 0 [(Value.int .i64 x19f0_), (Value.int .i64 x19f1_)] ∧
     ∃ x21f0_ : Int, ∃ x21f1_ : Int, cellsAt hq a (0 + 3) [(Value.int .i64 x21f0_), (Value.int .i64 x21f1_)] ∧
     ∃ x22_, EqV Tryd.prog 24 (Value.agg #[(Value.int .i64 x19f0_), (Value.int .i64 x19f1_)]) (Value.agg #[(Value.int .i64 x21f0_), (Value.int .i64 x21f1_)]) x22_ ∧
     ((x22_ = true →
       ∃ x26_ : Int, cellsAt hq a (0 + 0) [(Value.int .i64 x26_)] ∧
       (((decide (x26_ = (0 : Int))) = true →
         ∃ x36_ : Int, cellsAt hq a (0 + 1) [(Value.int .u64 x36_)] ∧
         CallsH Tryd.prog 51 #[(Value.int .u64 x36_)] hq fun en_2 hp_5 =>
         ∃ x37_ : Bool, en_2 = .returned (Value.bool x37_) ∧
         ((x37_ = true →
           ∃ x41_ : Int, cellsAt hp_5 a (0 + 2) [(Value.int .u64 x41_)] ∧
           CallsH Tryd.prog 51 #[(Value.int .u64 x41_)] hp_5 fun en_3 hp_6 =>
           ∃ x42_ : Bool, en_3 = .returned (Value.bool x42_) ∧
           R (.returned (Value.bool x42_)) hp_6) ∧
          (x37_ = false →
           R (.returned (Value.bool false)) hp_5))) ∧
        ((decide (x26_ = (0 : Int))) = false →
         ∃ x30_ : Int, cellsAt hq a (0 + 0) [(Value.int .i64 x30_)] ∧
         (((decide (x30_ = (1 : Int))) = true →
           ∃ x36_1 : Int, cellsAt hq a (0 + 1) [(Value.int .u64 x36_1)] ∧
           CallsH Tryd.prog 51 #[(Value.int .u64 x36_1)] hq fun en_4 hp_7 =>
           ∃ x37_1 : Bool, en_4 = .returned (Value.bool x37_1) ∧
           ((x37_1 = true →
             ∃ x41_1 : Int, cellsAt hp_7 a (0 + 2) [(Value.int .u64 x41_1)] ∧
             CallsH Tryd.prog 51 #[(Value.int .u64 x41_1)] hp_7 fun en_5 hp_8 =>
             ∃ x42_1 : Bool, en_5 = .returned (Value.bool x42_1) ∧
             R (.returned (Value.bool x42_1)) hp_8) ∧
            (x37_1 = false →
             R (.returned (Value.bool false)) hp_7))) ∧
          ((decide (x30_ = (1 : Int))) = false →
           R (.returned (Value.bool false)) hq))))) ∧
      (x22_ = false →
       R (.returned (Value.bool false)) hq))) ∧
    ((decide (code = (0 : Int))) = false →
     R (.returned (Value.bool false)) hq))

theorem right_tail {R : Ending → Hp → Prop} {hq : Hp} {a b : Nat} {H : Hd} {l : Int × Int} {code : Int} (ca : hq[a]? = some (.cells (hdV H).toArray 26)) (cl : hq[b]? = some (.cells (lyV l).toArray 24))
    (hR : R (.returned (.bool (rightB l code H))) hq) : RightTail R hq a b code := by
  have ends : ∀ (x : Bool), x = rightB l code H → R (.returned (.bool x)) hq := fun x e => by rw [e]; exact hR
  have nums : code = 0 → l = (H.ls, H.ll) → (H.slot = 0 ∨ H.slot = 1) → CallsH Tryd.prog 51 #[vU H.gen] hq fun en_2 hp_5 => ∃ x37_ : Bool, en_2 = .returned (Value.bool x37_) ∧
      ((x37_ = true → ∃ x41_ : Int, cellsAt hp_5 a (0 + 2) [(Value.int .u64 x41_)] ∧ CallsH Tryd.prog 51 #[(Value.int .u64 x41_)] hp_5 fun en_3 hp_6 => ∃ x42_ : Bool, en_3 = .returned (Value.bool x42_) ∧ R (.returned (Value.bool x42_)) hp_6) ∧
       (x37_ = false → R (.returned (Value.bool false)) hp_5)) := by
    intro hc hl hs
    refine (numbered_c H.gen hq).mono ?_
    rintro e h1 ⟨rfl, rfl⟩
    refine ⟨_, rfl, fun hg => ⟨_, cellsAt_one (cellH_at ca), (numbered_c H.ep _).mono ?_⟩, fun hg => ends _ ?_⟩
    · rintro e h2 ⟨rfl, rfl⟩
      refine ⟨_, rfl, ends _ ?_⟩
      unfold rightB
      simp [hc, hl, hs, hg]
    · unfold rightB
      simp [hg]
  refine ⟨fun hc => ⟨l.1, l.2, cellsAt_all (vs := lyV l) cl, H.ls, H.ll, hd_lay ca, _, eqv_lay l (H.ls, H.ll), fun he => ⟨H.slot, cellsAt_one (cellH_at ca), fun hs => ?_, fun hs => ⟨H.slot, cellsAt_one (cellH_at ca), fun hs1 => ?_, fun hs1 => ends _ ?_⟩⟩, fun he => ends _ ?_⟩, fun hc => ends _ ?_⟩
  · exact ⟨_, cellsAt_one (cellH_at ca), nums (of_decide_eq_true hc) (of_decide_eq_true he) (.inl (of_decide_eq_true hs))⟩
  · exact ⟨_, cellsAt_one (cellH_at ca), nums (of_decide_eq_true hc) (of_decide_eq_true he) (.inr (of_decide_eq_true hs1))⟩
  · have h1 := of_decide_eq_false hs
    have h2 := of_decide_eq_false hs1
    exact (decide_eq_false fun h => h.2.2.1.elim h1 h2).symm
  · have h1 := of_decide_eq_false he
    exact (decide_eq_false fun h => h1 h.2.1).symm
  · have h1 := of_decide_eq_false hc
    exact (decide_eq_false fun h => h1 h.1).symm

/-- ckpt.right -/
theorem right_c {h : Hp} {B : Nat → Prop} {d : Nat} {σ : DS} (D : DiskAt dI h B d σ) (H : Hd) (ok1 : H.ls ≤ 9223372036854775807) : CallsH Tryd.prog 30 #[vP d, .agg (hdV H).toArray] h fun e h' => Ext h h' ∧ e = .returned (.bool (rightH σ.safe.length H)) := by
  refine V30 _ _ _ _ _ _ h _ ?_
  intro a h1 ha e1
  have x1 : Ext h h1 := by rw [e1]; exact Ext.push _ _
  have ca : h1[a]? = some (.cells (hdV H).toArray 26) := by rw [e1, ha]; exact push_last
  clear e1
  obtain ⟨L, hL⟩ : ∃ L, L = layF (σ.safe.length : Int) H.ls := ⟨_, rfl⟩
  have fin : ∀ (hq : Hp) (b : Nat), Ext h hq → hq[a]? = some (.cells (hdV H).toArray 26) → hq[b]? = some (.cells (lyV (0, 0)).toArray 24) → a < b → 
      (List.length (lyV L.1) = 2 ∧ (∀ c ∈ lyV L.1, c.oneCell' = true) ∧ wrAt hq b 0 2 ∧ ∀ hp_4, hp_4 = setsH hq b 0 (lyV L.1) → hp_4[a]? = some (.cells (hdV H).toArray 26) ∧
        RightTail (fun e h' => Ext h h' ∧ e = .returned (.bool (rightH σ.safe.length H))) hp_4 a b L.2) := by
    intro hq b xq ca cb hab
    obtain ⟨q1, q2, q3, q4⟩ := ly_set cb L.1
    refine ⟨rfl, q2, q3, fun h4 e4 => ?_⟩
    have ca4 : h4[a]? = some (.cells (hdV H).toArray 26) := by rw [e4]; exact (setsH_ne (by omega)).trans ca
    refine ⟨ca4, right_tail ca4 (by rw [e4]; exact q4) ⟨?_, ?_⟩⟩
    · rw [e4]
      exact xq.over (setsH_same (B := fun x => x = b) rfl) fun x hx => by omega
    · unfold rightH
      rw [hL]
  have la := (Array.getElem?_eq_some_iff.1 ca).1
  have C : ∀ h' : Hp, h'[a]? = some (.cells (hdV H).toArray 26) → cellsAt h' a ((0 + 3) + 0) [vZ H.ls] := fun h' c => cellsAt_one (cellH_at c)
  have go : ∀ (hq : Hp), Ext h1 hq → ∀ hr, Ext hq hr → hr[a]? = some (.cells (hdV H).toArray 26) ∧ Ext h hr := fun hq x hr y => ⟨((x.trans y).old a la).trans ca, x1.trans (x.trans y)⟩
  refine ⟨⟨fun h' => h'[a]? = some (.cells (hdV H).toArray 26), ca, (size_c (D.ext x1)).mono ?_⟩, ⟨fun h' => h'[a]? = some (.cells (hdV H).toArray 26), ca, ?_⟩, ⟨fun h' => h'[a]? = some (.cells (hdV H).toArray 26), ca, (size_c (D.ext x1)).mono ?_⟩⟩
  · rintro e h2 ⟨rfl, rfl⟩
    refine ⟨_, rfl, ca, _, C, (layout_c _ H.ls ok1 _).mono ?_⟩
    rintro e h3 ⟨x3, rfl⟩
    rw [← hL]
    obtain ⟨c3, x03⟩ := go _ (Ext.refl _) _ x3
    refine ⟨_, _, _, rfl, c3, ?_⟩
    intro b h4 hb e4
    have x4 : Ext h3 h4 := by rw [e4]; exact Ext.push _ _
    obtain ⟨c4, x04⟩ := go _ x3 _ x4
    have cb : h4[b]? = some (.cells (lyV (0, 0)).toArray 24) := by rw [e4, hb, zerosLay]; exact push_last
    have s3 := x3.size
    exact ⟨infoLay, c4, fin h4 b x04 c4 cb (by omega)⟩
  · intro b h4 hb e4
    have x4 : Ext h1 h4 := by rw [e4]; exact Ext.push _ _
    obtain ⟨c4, x04⟩ := go _ (Ext.refl _) _ x4
    have cb : h4[b]? = some (.cells (lyV (0, 0)).toArray 24) := by rw [e4, hb, zerosLay]; exact push_last
    refine ⟨infoLay, c4, (size_c (D.ext x04)).mono ?_⟩
    rintro e h2 ⟨rfl, rfl⟩
    refine ⟨_, rfl, c4, _, C, (layout_c _ H.ls ok1 _).mono ?_⟩
    rintro e h3 ⟨x3, rfl⟩
    rw [← hL]
    obtain ⟨c3, x03⟩ := go _ x4 _ x3
    exact ⟨_, _, _, rfl, c3, fin h3 b x03 c3 ((x3.old b (Array.getElem?_eq_some_iff.1 cb).1).trans cb) (by omega)⟩
  · rintro e h2 ⟨rfl, rfl⟩
    refine ⟨_, rfl, ca, _, C, ?_⟩
    intro b h4 hb e4
    have x4 : Ext h2 h4 := by rw [e4]; exact Ext.push _ _
    obtain ⟨c4, x04⟩ := go _ (Ext.refl _) _ x4
    have cb : h4[b]? = some (.cells (lyV (0, 0)).toArray 24) := by rw [e4, hb, zerosLay]; exact push_last
    refine ⟨infoLay, c4, (layout_c _ H.ls ok1 _).mono ?_⟩
    rintro e h3 ⟨x3, rfl⟩
    rw [← hL]
    obtain ⟨c3, x03⟩ := go _ x4 _ x3
    exact ⟨_, _, _, rfl, c3, fin h3 b x03 c3 ((x3.old b (Array.getElem?_eq_some_iff.1 cb).1).trans cb) (by omega)⟩

/-- What a head says of itself and of its image. -/
def bodyL (H : Hd) (image : ByteArray) : List UInt8 := beL 8 H.ep ++ (beL 4 H.ls.toNat ++ (beL 4 image.size ++ beL 4 (sumB [image]).toNat))
theorem bodyL_length (H : Hd) (image : ByteArray) : (bodyL H image).length = 20 := by
  unfold bodyL
  simp only [List.length_append, beL_length]

theorem fixed_ok {w : Wr} (k : Nat) (h0 : w.e = 0) {n : Nat} {K : Int} (hK : K = (k : Int)) (h1 : 1 ≤ k) (h8 : k ≤ 8) (hn : n < 2 ^ (8 * k)) : w.fixed n K = ⟨w.b ++ beL k n, 0⟩ := by
  subst hK
  unfold Wr.fixed
  rw [if_neg (by omega), if_neg (by omega), if_neg, Int.toNat_natCast]
  · rw [← h0]
  · rintro ⟨_, h⟩
    rw [Int.toNat_natCast] at h
    exact h (Nat.div_eq_of_lt hn)

/-- ckpt.said -/
theorem saidH_c (H : Hd) (image : ByteArray) (h0 : 0 ≤ H.ls) (h1 : H.ls < 4294967296) (h2 : H.ep < 18446744073709551616) (h3 : image.size < 4294967296) (h : Hp) (hh : Halves h) :
    CallsH Tryd.prog 32 #[.agg (hdV H).toArray, .string image] h fun e h' => Ext h h' ∧ e = .returned (.tuple #[.string (tx (bodyL H image)), vZ 0]) := by
  refine V32 _ _ _ _ _ _ h _ ?_
  intro b g1 hb e1
  have x1 : Ext h g1 := by rw [e1]; exact Ext.push _ _
  have c1 : g1[b]? = some (.cells (hdV H).toArray 26) := by rw [e1, hb]; exact push_last
  clear e1
  have lb := (Array.getElem?_eq_some_iff.1 c1).1
  refine (wnew_c g1).mono ?_
  rintro e g2 ⟨x2, W2, rfl⟩
  -- each call keeps what was there
  have stay : ∀ {hq hr : Hp} {C : Nat → Prop}, Ext g1 hq → (∀ x, C x → g1.size ≤ x) → Same C hq hr → Ext g1 hr := fun x hC y => x.over y fun b hb => hC b hb
  have grow : ∀ {hq hr : Hp} {C : Nat → Prop}, Ext g1 hq → (∀ x, C x → g1.size ≤ x) → ∀ x, GrowB C hq hr x → g1.size ≤ x := fun x hC b hb => hb.elim (hC b) fun hb => by have := x.size; omega
  have b2 : ∀ x, GrowB NoB g1 g2 x → g1.size ≤ x := fun b hb => hb.elim (fun hf => hf.elim) fun hb => hb.1
  have cb : ∀ {hq : Hp}, Ext g1 hq → hq[b]? = some (.cells (hdV H).toArray 26) := fun x => (x.old b lb).trans c1
  refine ⟨_, rfl, _, cellsAt_one (cellH_at (cb x2)), (wfixed_c W2 H.ep 8 (by omega) (by simp [Wr.new])).mono ?_⟩
  rintro e g3 ⟨y3, W3, rfl⟩
  rw [fixed_ok (K := (8 : Int)) 8 rfl rfl (by decide) (by decide) (by omega)] at W3
  have x3 := stay x2 b2 y3
  have b3 := grow (hr := g3) x2 b2
  have hls : H.ls.toNat < 4294967296 := by omega
  refine ⟨rfl, H.ls, cellsAt_one (cellH_at (cb x3)), ((H.ls.toNat : Nat) : Int), by rw [wrapU64]; omega, (wfixed_c W3 H.ls.toNat 4 (by omega) (by simp [Wr.new, beL_length])).mono ?_⟩
  rintro e g4 ⟨y4, W4, rfl⟩
  rw [fixed_ok (K := (4 : Int)) 4 rfl rfl (by decide) (by decide) (by omega)] at W4
  have x4 := stay x3 b3 y4
  have b4 := grow (hr := g4) x3 b3
  refine ⟨rfl, ((image.size : Nat) : Int), by rw [wrapU64]; omega, (wfixed_c W4 image.size 4 (by omega) (by simp [Wr.new, beL_length])).mono ?_⟩
  rintro e g5 ⟨y5, W5, rfl⟩
  rw [fixed_ok (K := (4 : Int)) 4 rfl rfl (by decide) (by decide) (by omega)] at W5
  have x5 := stay x4 b4 y5
  have b5 := grow (hr := g5) x4 b4
  refine ⟨rfl, semH_build rowS (vs := [.string image]) rfl rfl (by simp) (by simp) (by simp [Value.oneCell']) ⟨_, _, _, rfl, ?_⟩⟩
  have x6 : Ext g5 (g5.push (.cells [Value.string image].toArray 9)) := Ext.push _ _
  have s6 : Seg (g5.push (.cells [Value.string image].toArray 9)) (some ⟨g5.size, 0, none⟩) 1 ([image].map Value.string) := ⟨rfl, .inr ⟨_, _, rfl, cellsAt_all push_last⟩⟩
  generalize (g5.push (.cells [Value.string image].toArray 9)) = g6 at x6 s6
  refine (sum_c [image] (by intro y hy; simp at hy; subst hy; simp only [maxLen]; omega) g6 (hh.ext ((x1.trans x5).trans x6)) s6 (by decide)).mono ?_
  rintro e g7 ⟨rfl, rfl⟩
  have hsum : (sumB [image]).toNat < 4294967296 := (sumB [image]).isLt
  refine ⟨_, rfl, (((sumB [image]).toNat : Nat) : Int), by rw [wrapU64]; omega, (wfixed_c (W5.ext x6) (sumB [image]).toNat 4 (by omega) (by simp [Wr.new, beL_length])).mono ?_⟩
  rintro e g8 ⟨y8, W8, rfl⟩
  rw [fixed_ok (K := (4 : Int)) 4 rfl rfl (by decide) (by decide) (by omega)] at W8
  have x8 := stay (x5.trans x6) b5 y8
  refine ⟨rfl, (wout_c W8).mono ?_⟩
  rintro e g9 ⟨x9, rfl⟩
  refine ⟨_, _, rfl, (x1.trans x8).trans x9, ?_⟩
  unfold Wr.out
  rw [if_neg (by simp)]
  show Ending.returned (.tuple #[.string (tx ([] ++ beL 8 H.ep ++ beL 4 H.ls.toNat ++ beL 4 image.size ++ beL 4 (sumB [image]).toNat)), vZ 0]) = _
  unfold bodyL
  simp only [List.nil_append, List.append_assoc]

end Go.Vc
