/- CkptLong. -/
import Derived.Test.YtlidgpojlgochaaDoorS9CCkJ
set_option maxRecDepth 10000
namespace Go.Vc
open Go Go.Proofs Go.MapKept

theorem right_of {n s gen ep : Nat} {slot : Int} (h0 : 1 ≤ s) (h1 : 3 + 2 * s ≤ n) (h2 : n ≤ 4096) (hs : slot = 0 ∨ slot = 1) (hg : 1 ≤ gen ∧ gen ≤ 9223372036854775807) (he : 1 ≤ ep ∧ ep ≤ 9223372036854775807) :
    layF (n : Int) (s : Int) = (((s : Int), (n : Int) - 2 - 2 * s), 0) ∧ rightH n ⟨slot, gen, ep, s, (n : Int) - 2 - 2 * s⟩ = true := by
  have e : layF (n : Int) (s : Int) = (((s : Int), (n : Int) - 2 - 2 * s), 0) := by
    unfold layF
    rw [if_neg (by omega), if_neg]
    rw [Int.tdiv_eq_ediv_of_nonneg (by omega)]
    omega
  refine ⟨e, ?_⟩
  unfold rightH rightB
  rw [e]
  exact decide_eq_true ⟨rfl, rfl, hs, decide_eq_true hg, decide_eq_true he⟩

theorem J.other {n : Nat} {S T : List ByteArray} {H G : Hd} {image s : ByteArray} {p q : Nat} {code : Int} {τ : DS} (j : J n S H image) (K : FitsH n G s) (hs : G.slot = 1 - H.slot) (hl : G.ls = H.ls) (L : LeftBy n G s S T code p) (B : Alive τ T [] q) :
    takeF τ H.slot = (tkOf H image, true, 0) := by
  obtain ⟨a1, a2, _, _⟩ := apart j.F K hs hl
  have k1 : T[H.slot.toNat]? = S[H.slot.toNat]? := L.off _ a1 fun k _ => a2 k
  have A : Alive { τ with safe := S } S [] q := ⟨B.g, rfl, B.q, B.p⟩
  have := take_congr A B L.len k1
  rw [slot_cast j.F, this, ← slot_cast j.F, j.take A]

theorem Alive.image {σ τ : DS} (h : σ.safe = τ.safe) : σ.image = τ.image := by unfold DS.image; rw [h]

def LongTail (R : Ending → Hp → Prop) (many_ x37_ : Int) (x46r0_ : Option Addr) (b_1 : Nat) (hp_10 : Hp) : Prop :=
    ∃ x94_, IntKind.i64.wrap ((491 : Int) * x37_) = x94_ ∧
    CallsH Tryd.prog 17 #[(Value.int .i64 many_), (Value.int .i64 x94_)] hp_10 fun en_6 hp_11 =>
    ∃ x95_ : Int, en_6 = .returned (Value.int .i64 x95_) ∧
    ∃ x96_, IntKind.i64.wrap ((1 : Int) + x95_) = x96_ ∧
    CallsH Tryd.prog 19 #[(Value.int .i64 x96_), (Value.int .i64 (1 : Int))] hp_11 fun en_7 hp_12 =>
    ∃ x97_ : ByteArray, en_7 = .returned (Value.string x97_) ∧
    ∃ x99_, IntKind.i64.wrap ((491 : Int) * x37_) = x99_ ∧
    CallsH Tryd.prog 19 #[(Value.int .i64 x99_), (Value.int .i64 (2 : Int))] hp_12 fun en_8 hp_13 =>
    ∃ x100_ : ByteArray, en_8 = .returned (Value.string x100_) ∧
    ∃ x102f0_ : Int, ∃ x102f1_ : Int, ∃ x102f2_ : Int, ∃ x102f3_ : Int, ∃ x102f4_ : Int, cellsAt hp_13 b_1 0 [(Value.int .i64 x102f0_), (Value.int .u64 x102f1_), (Value.int .u64 x102f2_), (Value.int .i64 x102f3_), (Value.int .i64 x102f4_)] ∧
    CallsH Tryd.prog 14 #[(Value.pointer x46r0_), (Value.agg #[(Value.int .i64 x102f0_), (Value.int .u64 x102f1_), (Value.int .u64 x102f2_), (Value.int .i64 x102f3_), (Value.int .i64 x102f4_)]), (Value.string x97_)] hp_13 fun en_9 hp_14 =>
    ∃ x104_ : Int, en_9 = .returned (Value.int .i64 x104_) ∧
    CallsH Tryd.prog 16 #[(Value.pointer x46r0_)] hp_14 fun en_10 hp_15 =>
    ∃ x107r0f0_ : Int, ∃ x107r0f1_ : Int, ∃ x107r0f2_ : Int, ∃ x107r0f3_ : Int, ∃ x107r0f4_ : Int, ∃ x107r1_ : ByteArray, ∃ x107r2_ : Int, en_10 = .returned (Value.tuple #[(Value.agg #[(Value.int .i64 x107r0f0_), (Value.int .u64 x107r0f1_), (Value.int .u64 x107r0f2_), (Value.int .i64 x107r0f3_), (Value.int .i64 x107r0f4_)]), (Value.string x107r1_), (Value.int .i64 x107r2_)]) ∧
    ∀ b_2 hp_16, b_2 = Array.size hp_15 → hp_16 = Array.push hp_15 (.cells (zeros Tryd.prog 26) 26) → (∃ i z, Tryd.prog.info? 26 = some i ∧ i.zero = some z) ∧
    List.length [(Value.int .i64 x107r0f0_), (Value.int .u64 x107r0f1_), (Value.int .u64 x107r0f2_), (Value.int .i64 x107r0f3_), (Value.int .i64 x107r0f4_)] = 5 ∧ (∀ c ∈ [(Value.int .i64 x107r0f0_), (Value.int .u64 x107r0f1_), (Value.int .u64 x107r0f2_), (Value.int .i64 x107r0f3_), (Value.int .i64 x107r0f4_)], c.oneCell' = true) ∧ wrAt hp_16 b_2 0 5 ∧ ∀ hp_17, hp_17 = setsH hp_16 b_2 0 [(Value.int .i64 x107r0f0_), (Value.int .u64 x107r0f1_), (Value.int .u64 x107r0f2_), (Value.int .i64 x107r0f3_), (Value.int .i64 x107r0f4_)] →
    CallsH Tryd.prog 20 #[(Value.pointer x46r0_)] hp_17 fun en_11 hp_18 =>
    ∃ x112_ : ByteArray, en_11 = .returned (Value.string x112_) ∧
    ∃ x114f0_ : Int, ∃ x114f1_ : Int, ∃ x114f2_ : Int, ∃ x114f3_ : Int, ∃ x114f4_ : Int, cellsAt hp_18 b_1 0 [(Value.int .i64 x114f0_), (Value.int .u64 x114f1_), (Value.int .u64 x114f2_), (Value.int .i64 x114f3_), (Value.int .i64 x114f4_)] ∧
    ByteArray.size x100_ + ByteArray.size (⟨#[120]⟩ : ByteArray) ≤ 9223372036854775807 ∧ ∃ x116_, x100_ ++ (⟨#[120]⟩ : ByteArray) = x116_ ∧
    CallsH Tryd.prog 14 #[(Value.pointer x46r0_), (Value.agg #[(Value.int .i64 x114f0_), (Value.int .u64 x114f1_), (Value.int .u64 x114f2_), (Value.int .i64 x114f3_), (Value.int .i64 x114f4_)]), (Value.string x116_)] hp_18 fun en_12 hp_19 =>
    ∃ x117_ : Int, en_12 = .returned (Value.int .i64 x117_) ∧
    ∃ x119f0_ : Int, ∃ x119f1_ : Int, ∃ x119f2_ : Int, ∃ x119f3_ : Int, ∃ x119f4_ : Int, cellsAt hp_19 b_1 0 [(Value.int .i64 x119f0_), (Value.int .u64 x119f1_), (Value.int .u64 x119f2_), (Value.int .i64 x119f3_), (Value.int .i64 x119f4_)] ∧
    CallsH Tryd.prog 14 #[(Value.pointer x46r0_), (Value.agg #[(Value.int .i64 x119f0_), (Value.int .u64 x119f1_), (Value.int .u64 x119f2_), (Value.int .i64 x119f3_), (Value.int .i64 x119f4_)]), (Value.string (⟨#[]⟩ : ByteArray))] hp_19 fun en_13 hp_20 =>
    ∃ x120_ : Int, en_13 = .returned (Value.int .i64 x120_) ∧
    CallsH Tryd.prog 20 #[(Value.pointer x46r0_)] hp_20 fun en_14 hp_21 =>
    ∃ x122_ : ByteArray, en_14 = .returned (Value.string x122_) ∧
    ∃ x124f0_ : Int, ∃ x124f1_ : Int, ∃ x124f2_ : Int, ∃ x124f3_ : Int, ∃ x124f4_ : Int, cellsAt hp_21 b_1 0 [(Value.int .i64 x124f0_), (Value.int .u64 x124f1_), (Value.int .u64 x124f2_), (Value.int .i64 x124f3_), (Value.int .i64 x124f4_)] ∧
    CallsH Tryd.prog 12 #[(Value.agg #[(Value.int .i64 x124f0_), (Value.int .u64 x124f1_), (Value.int .u64 x124f2_), (Value.int .i64 x124f3_), (Value.int .i64 x124f4_)]), (Value.int .u64 (7 : Int))] hp_21 fun en_15 hp_22 =>
    ∃ x125r0f0_ : Int, ∃ x125r0f1_ : Int, ∃ x125r0f2_ : Int, ∃ x125r0f3_ : Int, ∃ x125r0f4_ : Int, ∃ x125r1_ : Int, en_15 = .returned (Value.tuple #[(Value.agg #[(Value.int .i64 x125r0f0_), (Value.int .u64 x125r0f1_), (Value.int .u64 x125r0f2_), (Value.int .i64 x125r0f3_), (Value.int .i64 x125r0f4_)]), (Value.int .i64 x125r1_)]) ∧
    ∀ b_3 hp_23, b_3 = Array.size hp_22 → hp_23 = Array.push hp_22 (.cells (zeros Tryd.prog 26) 26) → (∃ i z, Tryd.prog.info? 26 = some i ∧ i.zero = some z) ∧
    List.length [(Value.int .i64 x125r0f0_), (Value.int .u64 x125r0f1_), (Value.int .u64 x125r0f2_), (Value.int .i64 x125r0f3_), (Value.int .i64 x125r0f4_)] = 5 ∧ (∀ c ∈ [(Value.int .i64 x125r0f0_), (Value.int .u64 x125r0f1_), (Value.int .u64 x125r0f2_), (Value.int .i64 x125r0f3_), (Value.int .i64 x125r0f4_)], c.oneCell' = true) ∧ wrAt hp_23 b_3 0 5 ∧ ∀ hp_24, hp_24 = setsH hp_23 b_3 0 [(Value.int .i64 x125r0f0_), (Value.int .u64 x125r0f1_), (Value.int .u64 x125r0f2_), (Value.int .i64 x125r0f3_), (Value.int .i64 x125r0f4_)] →
    ∃ x129f0_ : Int, ∃ x129f1_ : Int, ∃ x129f2_ : Int, ∃ x129f3_ : Int, ∃ x129f4_ : Int, cellsAt hp_24 b_3 0 [(Value.int .i64 x129f0_), (Value.int .u64 x129f1_), (Value.int .u64 x129f2_), (Value.int .i64 x129f3_), (Value.int .i64 x129f4_)] ∧
    CallsH Tryd.prog 14 #[(Value.pointer x46r0_), (Value.agg #[(Value.int .i64 x129f0_), (Value.int .u64 x129f1_), (Value.int .u64 x129f2_), (Value.int .i64 x129f3_), (Value.int .i64 x129f4_)]), (Value.string x100_)] hp_24 fun en_16 hp_25 =>
    ∃ x131_ : Int, en_16 = .returned (Value.int .i64 x131_) ∧
    CallsH Tryd.prog 16 #[(Value.pointer x46r0_)] hp_25 fun en_17 hp_26 =>
    ∃ x134r0f0_ : Int, ∃ x134r0f1_ : Int, ∃ x134r0f2_ : Int, ∃ x134r0f3_ : Int, ∃ x134r0f4_ : Int, ∃ x134r1_ : ByteArray, ∃ x134r2_ : Int, en_17 = .returned (Value.tuple #[(Value.agg #[(Value.int .i64 x134r0f0_), (Value.int .u64 x134r0f1_), (Value.int .u64 x134r0f2_), (Value.int .i64 x134r0f3_), (Value.int .i64 x134r0f4_)]), (Value.string x134r1_), (Value.int .i64 x134r2_)]) ∧
    ∀ b_4 hp_27, b_4 = Array.size hp_26 → hp_27 = Array.push hp_26 (.cells (zeros Tryd.prog 26) 26) → (∃ i z, Tryd.prog.info? 26 = some i ∧ i.zero = some z) ∧
    List.length [(Value.int .i64 x134r0f0_), (Value.int .u64 x134r0f1_), (Value.int .u64 x134r0f2_), (Value.int .i64 x134r0f3_), (Value.int .i64 x134r0f4_)] = 5 ∧ (∀ c ∈ [(Value.int .i64 x134r0f0_), (Value.int .u64 x134r0f1_), (Value.int .u64 x134r0f2_), (Value.int .i64 x134r0f3_), (Value.int .i64 x134r0f4_)], c.oneCell' = true) ∧ wrAt hp_27 b_4 0 5 ∧ ∀ hp_28, hp_28 = setsH hp_27 b_4 0 [(Value.int .i64 x134r0f0_), (Value.int .u64 x134r0f1_), (Value.int .u64 x134r0f2_), (Value.int .i64 x134r0f3_), (Value.int .i64 x134r0f4_)] →
    CallsH Tryd.prog 15 #[(Value.pointer x46r0_)] hp_28 fun en_18 hp_29 =>
    ∃ (x140r0p_ : Option Addr) (x140r0n_ x140r0c_ : Nat), ∃ x140r1_ : Int, en_18 = .returned (Value.tuple #[(Value.slice x140r0p_ x140r0n_ x140r0c_), (Value.int .i64 x140r1_)]) ∧
    ∃ Jv_1 : List Value → Hp → Prop,
    (∃ B_1 : Bool, ((((decide (x104_ ≠ (0 : Int))) = true →
        hp_29 = hp_29 ∧ B_1 = true) ∧
       ((decide (x104_ ≠ (0 : Int))) = false →
        (((decide (x107r2_ ≠ (0 : Int))) = true →
          hp_29 = hp_29 ∧ B_1 = true) ∧
         ((decide (x107r2_ ≠ (0 : Int))) = false →
          ∃ x150f0_ : Int, ∃ x150f1_ : Int, ∃ x150f2_ : Int, ∃ x150f3_ : Int, ∃ x150f4_ : Int, cellsAt hp_29 b_2 0 [(Value.int .i64 x150f0_), (Value.int .u64 x150f1_), (Value.int .u64 x150f2_), (Value.int .i64 x150f3_), (Value.int .i64 x150f4_)] ∧
          ∃ x151f0_ : Int, ∃ x151f1_ : Int, ∃ x151f2_ : Int, ∃ x151f3_ : Int, ∃ x151f4_ : Int, cellsAt hp_29 b_1 0 [(Value.int .i64 x151f0_), (Value.int .u64 x151f1_), (Value.int .u64 x151f2_), (Value.int .i64 x151f3_), (Value.int .i64 x151f4_)] ∧
          ∃ x152_, EqV Tryd.prog 26 (Value.agg #[(Value.int .i64 x150f0_), (Value.int .u64 x150f1_), (Value.int .u64 x150f2_), (Value.int .i64 x150f3_), (Value.int .i64 x150f4_)]) (Value.agg #[(Value.int .i64 x151f0_), (Value.int .u64 x151f1_), (Value.int .u64 x151f2_), (Value.int .i64 x151f3_), (Value.int .i64 x151f4_)]) x152_ ∧
          (((!x152_) = true →
            hp_29 = hp_29 ∧ B_1 = true) ∧
           ((!x152_) = false →
            (((decide (x107r1_ ≠ x97_)) = true →
              hp_29 = hp_29 ∧ B_1 = true) ∧
             ((decide (x107r1_ ≠ x97_)) = false →
              (((decide (x117_ ≠ (2 : Int))) = true →
                hp_29 = hp_29 ∧ B_1 = true) ∧
               ((decide (x117_ ≠ (2 : Int))) = false →
                (((decide (x120_ ≠ (1 : Int))) = true →
                  hp_29 = hp_29 ∧ B_1 = true) ∧
                 ((decide (x120_ ≠ (1 : Int))) = false →
                  hp_29 = hp_29 ∧ B_1 = (decide (x112_ ≠ x122_))))))))))))))) ∧
     ((B_1 = true →
       R (.returned (Value.bool false)) hp_29) ∧
      (B_1 = false →
       Jv_1 [] hp_29))) ∧
    (∀  hp_30, Jv_1 [] hp_30 →
     ∃ B_2 : Bool, ((((decide (x140r1_ = (0 : Int))) = true →
        (((decide (((x140r0n_ : Nat) : Int) = (2 : Int))) = true →
          ∃ b_5 o_, x140r0p_ = some ⟨b_5, o_, none⟩ ∧ 0 ≤ (0 : Int) ∧ (0 : Int) < (x140r0n_ : Int) ∧
          ∃ x182f0_ : Int, ∃ x182f1_ : Int, ∃ x182f2_ : Int, ∃ x182f3_ : Int, ∃ x182f4_ : Int, cellsAt hp_30 b_5 (o_ + Int.toNat (0 : Int) * 5) [(Value.int .i64 x182f0_), (Value.int .u64 x182f1_), (Value.int .u64 x182f2_), (Value.int .i64 x182f3_), (Value.int .i64 x182f4_)] ∧
          ∃ x183f0_ : Int, ∃ x183f1_ : Int, ∃ x183f2_ : Int, ∃ x183f3_ : Int, ∃ x183f4_ : Int, cellsAt hp_30 b_3 0 [(Value.int .i64 x183f0_), (Value.int .u64 x183f1_), (Value.int .u64 x183f2_), (Value.int .i64 x183f3_), (Value.int .i64 x183f4_)] ∧
          ∃ x184_, EqV Tryd.prog 26 (Value.agg #[(Value.int .i64 x182f0_), (Value.int .u64 x182f1_), (Value.int .u64 x182f2_), (Value.int .i64 x182f3_), (Value.int .i64 x182f4_)]) (Value.agg #[(Value.int .i64 x183f0_), (Value.int .u64 x183f1_), (Value.int .u64 x183f2_), (Value.int .i64 x183f3_), (Value.int .i64 x183f4_)]) x184_ ∧
          ((x184_ = true →
            ∃ b_6 o_1, x140r0p_ = some ⟨b_6, o_1, none⟩ ∧ 0 ≤ (1 : Int) ∧ (1 : Int) < (x140r0n_ : Int) ∧
            ∃ x189f0_ : Int, ∃ x189f1_ : Int, ∃ x189f2_ : Int, ∃ x189f3_ : Int, ∃ x189f4_ : Int, cellsAt hp_30 b_6 (o_1 + Int.toNat (1 : Int) * 5) [(Value.int .i64 x189f0_), (Value.int .u64 x189f1_), (Value.int .u64 x189f2_), (Value.int .i64 x189f3_), (Value.int .i64 x189f4_)] ∧
            ∃ x190f0_ : Int, ∃ x190f1_ : Int, ∃ x190f2_ : Int, ∃ x190f3_ : Int, ∃ x190f4_ : Int, cellsAt hp_30 b_1 0 [(Value.int .i64 x190f0_), (Value.int .u64 x190f1_), (Value.int .u64 x190f2_), (Value.int .i64 x190f3_), (Value.int .i64 x190f4_)] ∧
            ∃ x191_, EqV Tryd.prog 26 (Value.agg #[(Value.int .i64 x189f0_), (Value.int .u64 x189f1_), (Value.int .u64 x189f2_), (Value.int .i64 x189f3_), (Value.int .i64 x189f4_)]) (Value.agg #[(Value.int .i64 x190f0_), (Value.int .u64 x190f1_), (Value.int .u64 x190f2_), (Value.int .i64 x190f3_), (Value.int .i64 x190f4_)]) x191_ ∧
            hp_30 = hp_30 ∧ B_2 = x191_) ∧
           (x184_ = false →
            hp_30 = hp_30 ∧ B_2 = false))) ∧
         ((decide (((x140r0n_ : Nat) : Int) = (2 : Int))) = false →
          hp_30 = hp_30 ∧ B_2 = false))) ∧
       ((decide (x140r1_ = (0 : Int))) = false →
        hp_30 = hp_30 ∧ B_2 = false))) ∧
     ∃ B_3 : Bool, (((B_2 = true →
        (((decide (x125r1_ = (0 : Int))) = true →
          (((decide (x131_ = (0 : Int))) = true →
            (((decide (x134r2_ = (0 : Int))) = true →
              ∃ x207f0_ : Int, ∃ x207f1_ : Int, ∃ x207f2_ : Int, ∃ x207f3_ : Int, ∃ x207f4_ : Int, cellsAt hp_30 b_4 0 [(Value.int .i64 x207f0_), (Value.int .u64 x207f1_), (Value.int .u64 x207f2_), (Value.int .i64 x207f3_), (Value.int .i64 x207f4_)] ∧
              ∃ x208f0_ : Int, ∃ x208f1_ : Int, ∃ x208f2_ : Int, ∃ x208f3_ : Int, ∃ x208f4_ : Int, cellsAt hp_30 b_3 0 [(Value.int .i64 x208f0_), (Value.int .u64 x208f1_), (Value.int .u64 x208f2_), (Value.int .i64 x208f3_), (Value.int .i64 x208f4_)] ∧
              ∃ x209_, EqV Tryd.prog 26 (Value.agg #[(Value.int .i64 x207f0_), (Value.int .u64 x207f1_), (Value.int .u64 x207f2_), (Value.int .i64 x207f3_), (Value.int .i64 x207f4_)]) (Value.agg #[(Value.int .i64 x208f0_), (Value.int .u64 x208f1_), (Value.int .u64 x208f2_), (Value.int .i64 x208f3_), (Value.int .i64 x208f4_)]) x209_ ∧
              ((x209_ = true →
                (((decide (x134r1_ = x100_)) = true →
                  ∃ x218_ : Int, cellsAt hp_30 b_3 (0 + 2) [(Value.int .u64 x218_)] ∧
                  hp_30 = hp_30 ∧ B_3 = (decide (x218_ = (8 : Int)))) ∧
                 ((decide (x134r1_ = x100_)) = false →
                  hp_30 = hp_30 ∧ B_3 = false))) ∧
               (x209_ = false →
                hp_30 = hp_30 ∧ B_3 = false))) ∧
             ((decide (x134r2_ = (0 : Int))) = false →
              hp_30 = hp_30 ∧ B_3 = false))) ∧
           ((decide (x131_ = (0 : Int))) = false →
            hp_30 = hp_30 ∧ B_3 = false))) ∧
         ((decide (x125r1_ = (0 : Int))) = false →
          hp_30 = hp_30 ∧ B_3 = false))) ∧
       (B_2 = false →
        hp_30 = hp_30 ∧ B_3 = false))) ∧
     R (.returned (Value.bool B_3)) hp_30)

theorem hd_at2 {h : Hp} {p : Option Addr} {n c base : Nat} {a b : Hd} (o : Own h base 26 5 (.slice p n c) 2 (([a, b].map hdV).flatten)) : ∃ bb oo, p = some ⟨bb, oo, none⟩ ∧ cellsAt h bb (oo + Int.toNat (0 : Int) * 5) (hdV a) ∧ cellsAt h bb (oo + Int.toNat (1 : Int) * 5) (hdV b) ∧ n = 2 := by
  have hn : n = 2 := by
    rcases o.2 with ⟨_, h0⟩ | ⟨g, cap, cur, hv, _⟩
    · omega
    · cases hv; rfl
  subst hn
  have sg : SegS h p 2 5 [hdV a, hdV b] := o.segS (rows := [hdV a, hdV b]) (by simp [hdV]) rfl
  obtain ⟨b1, o1, e1, _, _, c1⟩ := sg.at (i := 0) (by simp)
  obtain ⟨b2, o2, e2, _, _, c2⟩ := sg.at (i := 1) (by simp)
  rw [e1] at e2
  cases e2
  exact ⟨b1, o1, e1, c1, c2, rfl⟩

set_option maxHeartbeats 1000000 in
theorem long_tail {h hr : Hp} (hh : Halves h) {C : Nat → Prop} {d n s : Nat} {many : Int} (hm0 : -9223372036854775808 ≤ many) (hm1 : many ≤ 9223372036854775807) (hs0 : 1 ≤ s) (hs8 : s ≤ 8) (hn : 3 + 2 * s ≤ n) (hn1 : n ≤ 21) {slot : Int} (hslot : slot = 0 ∨ slot = 1)
    (W : Wk NoB h C hr d (DS.new n)) {b1 : Nat} (c1 : hr[b1]? = some (.cells (hdV ⟨slot, 1 + s, 1, s, (n : Int) - 2 - 2 * s⟩).toArray 26)) (nb1 : ¬ C b1) :
    LongTail (RetX (.bool true) h) many s (some ⟨d, 0, none⟩) b1 hr := by
  obtain ⟨H, hH⟩ : ∃ H : Hd, H = ⟨slot, 1 + s, 1, s, (n : Int) - 2 - 2 * s⟩ := ⟨_, rfl⟩
  rw [← hH] at c1
  have hs5 : 0 < 491 * s := by omega
  have eH : H.slot = slot ∧ H.gen = 1 + s ∧ H.ep = 1 ∧ H.ls = (s : Int) ∧ H.ll = (n : Int) - 2 - 2 * s := by rw [hH]; exact ⟨rfl, rfl, rfl, rfl, rfl⟩
  obtain ⟨eH1, eH2, eH3, eH4, eH5⟩ := eH
  have hR : rightH n H = true := by rw [hH]; exact (right_of hs0 hn (by omega) hslot (by omega) (by omega)).2
  have most : mostH H = ((491 * s : Nat) : Int) := by unfold mostH; rw [eH4]; omega
  have okH : H.Ok := ⟨by rw [eH1]; omega, by rw [eH1]; omega, by rw [eH2]; omega, by rw [eH3]; omega, by rw [eH4]; omega, by rw [eH4]; omega, by rw [eH5]; omega, by rw [eH5]; omega⟩
  obtain ⟨G, hG⟩ : ∃ G : Hd, G = ⟨1 - slot, 2 + s, 8, s, (n : Int) - 2 - 2 * s⟩ := ⟨_, rfl⟩
  have hnext : nextF H 7 = (G, 0) := by
    unfold nextF
    rw [if_neg (by rw [eH1]; omega), if_neg (by rw [eH2, eH3]; omega), hG, eH1, eH2, eH3, eH4, eH5]
    have : 1 + s + 1 = 2 + s := by omega
    rw [this]; rfl
  have eG : G.slot = 1 - slot ∧ G.gen = 2 + s ∧ G.ep = 8 ∧ G.ls = (s : Int) ∧ G.ll = (n : Int) - 2 - 2 * s := by rw [hG]; exact ⟨rfl, rfl, rfl, rfl, rfl⟩
  obtain ⟨eG1, eG2, eG3, eG4, eG5⟩ := eG
  have hRG : rightH n G = true := by rw [hG]; exact (right_of hs0 hn (by omega) (by omega) (by omega) (by omega)).2
  have mostG : mostH G = ((491 * s : Nat) : Int) := by unfold mostH; rw [eG4]; omega
  have okG : G.Ok := ⟨by rw [eG1]; omega, by rw [eG1]; omega, by rw [eG2]; omega, by rw [eG3]; omega, by rw [eG4]; omega, by rw [eG4]; omega, by rw [eG5]; omega, by rw [eG5]; omega⟩
  have hpk := pickN_lt many hs5
  obtain ⟨S1, hS1⟩ : ∃ S1, S1 = longF (1 + pickN many (491 * s)) 1 := ⟨_, rfl⟩
  have zS1 : S1.size = 1 + pickN many (491 * s) := by rw [hS1, longF_size]
  obtain ⟨S2, hS2⟩ : ∃ S2, S2 = longF (491 * s) 2 := ⟨_, rfl⟩
  have zS2 : S2.size = 491 * s := by rw [hS2, longF_size]
  have F1 : FitsH n H S1 := ⟨hR, by omega, by rw [most]; omega⟩
  have F2 : FitsH n G S2 := ⟨hRG, by omega, by rw [mostG]; omega⟩
  have A0 : Alive (DS.new n) (List.replicate n zero512) [] 0 := Alive.new n
  unfold LongTail
  refine ⟨((491 * s : Nat) : Int), by rw [wrapI64] <;> omega, (pick_c many (491 * s) hs5 hm0 hm1 hr).mono ?_⟩
  rintro e h1 ⟨rfl, rfl⟩
  refine ⟨_, rfl, ((1 + pickN many (491 * s) : Nat) : Int), by rw [wrapI64] <;> omega, (long_c (1 + pickN many (491 * s)) 1 (by omega) (by decide) h1).mono ?_⟩
  rintro e h2 ⟨x2, rfl⟩
  rw [← hS1]
  refine ⟨_, rfl, ((491 * s : Nat) : Int), by rw [wrapI64] <;> omega, (long_c (491 * s) 2 (by omega) (by decide) h2).mono ?_⟩
  rintro e h3 ⟨x3, rfl⟩
  rw [← hS2]
  have x13 := x2.trans x3
  have W3 := W.ext x13
  have c3 := (x13.old b1 (Array.getElem?_eq_some_iff.1 c1).1).trans c1
  refine ⟨_, rfl, _, _, _, _, _, cellsAt_all (vs := hdV H) c3, (W3.write hh id okH S1 (by rw [A0.q]; decide)).mono ?_⟩
  rintro e h4 ⟨C4, W4, k4, rfl⟩
  obtain ⟨w4, T4, A4, L4⟩ := left_whole F1 (S := List.replicate n zero512) (by simp) (by intro s hs; rw [List.eq_of_mem_replicate hs]; exact zero512_size) A0
  rw [w4]
  obtain ⟨σ4, hσ4⟩ : ∃ σ4, σ4 = (writeC (DS.new n) H S1).1 := ⟨_, rfl⟩
  rw [← hσ4] at W4 A4
  have hT4 : ∀ s ∈ T4, s.size = 512 := by rw [← A4.s]; exact W4.disk.ok.size
  have J4 := J.first F1 L4 hT4
  obtain ⟨c4, n4⟩ := k4.cell c3 nb1
  refine ⟨_, rfl, (W4.find hh id).mono ?_⟩
  rintro e h5 ⟨W5, k5, rfl⟩
  rw [J4.find A4]
  have A5 := A4.rds (find_rds σ4)
  obtain ⟨σ5, hσ5⟩ : ∃ σ5, σ5 = (findF σ4).1 := ⟨_, rfl⟩
  rw [← hσ5] at W5 A5
  obtain ⟨c5, n5⟩ := k5.cell c4 n4
  refine ⟨_, _, _, _, _, _, _, rfl, hd_new H fun b2 h6 hb2 x6 c6 => ?_⟩
  have W6 := W5.ext x6
  have d6 := (x6.old b1 (Array.getElem?_eq_some_iff.1 c5).1).trans c5
  have n6 : ¬ C4 b2 := fun h => by have := W5.disk.lt _ h; omega
  refine (image_c W6.disk).mono ?_
  rintro e h7 ⟨x7, rfl⟩
  have W7 := W6.ext x7
  have c7 := (x7.old b2 (Array.getElem?_eq_some_iff.1 c6).1).trans c6
  have d7 := (x7.old b1 (Array.getElem?_eq_some_iff.1 d6).1).trans d6
  have zx : (S2 ++ (⟨#[120]⟩ : ByteArray)).size = 491 * s + 1 := by rw [ByteArray.size_append, zS2]; rfl
  have e5 : writeC σ5 H (S2 ++ (⟨#[120]⟩ : ByteArray)) = (σ5, 2) := by
    unfold writeC
    rw [if_neg, if_pos (by rw [most, zx]; omega)]
    rintro (h | h)
    · rw [A5.s, J4.len, hR] at h; cases h
    · rw [h] at zx
      have : (0 : Nat) = 491 * s + 1 := zx
      omega
  refine ⟨_, rfl, _, _, _, _, _, cellsAt_all (vs := hdV H) d7, by rw [zS2]; show 491 * s + 1 ≤ _; omega, _, rfl, (W7.write hh id okH (S2 ++ (⟨#[120]⟩ : ByteArray)) (by rw [A5.q]; decide)).mono ?_⟩
  rintro e h8 ⟨C8, W8, k8, rfl⟩
  rw [e5] at W8 ⊢
  obtain ⟨c8, m8⟩ := k8.cell c7 n6
  obtain ⟨d8, n8⟩ := k8.cell d7 n5
  have e8 : writeC σ5 H (⟨#[]⟩ : ByteArray) = (σ5, 1) := by unfold writeC; rw [if_pos (.inr rfl)]
  refine ⟨_, rfl, _, _, _, _, _, cellsAt_all (vs := hdV H) d8, (W8.write hh id okH (⟨#[]⟩ : ByteArray) (by rw [A5.q]; decide)).mono ?_⟩
  rintro e h9 ⟨C9, W9, k9, rfl⟩
  rw [e8] at W9 ⊢
  obtain ⟨c9, m9⟩ := k9.cell c8 m8
  obtain ⟨d9, n9⟩ := k9.cell d8 n8
  refine ⟨_, rfl, (image_c W9.disk).mono ?_⟩
  rintro e h10 ⟨x10, rfl⟩
  have W10 := W9.ext x10
  have d10 := (x10.old b1 (Array.getElem?_eq_some_iff.1 d9).1).trans d9
  have c10 := (x10.old b2 (Array.getElem?_eq_some_iff.1 c9).1).trans c9
  refine ⟨_, rfl, _, _, _, _, _, cellsAt_all (vs := hdV H) d10, (next_c H 7 h10).mono ?_⟩
  rintro e h11 ⟨x11, rfl⟩
  rw [hnext]
  refine ⟨_, _, _, _, _, _, rfl, hd_new G fun b3 h12 hb3 x12 c12 => ?_⟩
  have x1012 := x11.trans x12
  have W12 := W10.ext x1012
  have d12 := (x1012.old b1 (Array.getElem?_eq_some_iff.1 d10).1).trans d10
  have f12 := (x1012.old b2 (Array.getElem?_eq_some_iff.1 c10).1).trans c10
  have n12 : ¬ C9 b3 := fun h => by have := W10.disk.lt _ h; have := x11.size; omega
  refine ⟨_, _, _, _, _, cellsAt_all (vs := hdV G) c12, (W12.write hh id okG S2 (by rw [A5.q]; decide)).mono ?_⟩
  rintro e h13 ⟨C13, W13, k13, rfl⟩
  obtain ⟨w13, T13, A13, L13⟩ := left_whole F2 J4.len hT4 A5
  rw [w13]
  obtain ⟨σ13, hσ13⟩ : ∃ σ13, σ13 = (writeC σ5 G S2).1 := ⟨_, rfl⟩
  rw [← hσ13] at W13 A13
  have hT13 : ∀ s ∈ T13, s.size = 512 := by rw [← A13.s]; exact W13.disk.ok.size
  have J13 : J n T13 G S2 := by
    rcases J4.step F2 (by rw [eG1, eH1]) (by rw [eG4, eH4]) (by rw [eG2, eH2]; omega) hT13 L13 with ⟨hc, _, _⟩ | ⟨_, hJ⟩
    · cases hc
    · exact hJ
  obtain ⟨c13, m13⟩ := k13.cell c12 n12
  obtain ⟨d13, n13⟩ := k13.cell d12 n9
  obtain ⟨f13, o13⟩ := k13.cell f12 m9
  refine ⟨_, rfl, (W13.find hh id).mono ?_⟩
  rintro e h14 ⟨W14, k14, rfl⟩
  rw [J13.find A13]
  have A14 := A13.rds (find_rds σ13)
  obtain ⟨σ14, hσ14⟩ : ∃ σ14, σ14 = (findF σ13).1 := ⟨_, rfl⟩
  rw [← hσ14] at W14 A14
  obtain ⟨c14, m14⟩ := k14.cell c13 m13
  obtain ⟨d14, n14⟩ := k14.cell d13 n13
  obtain ⟨f14, o14⟩ := k14.cell f13 o13
  refine ⟨_, _, _, _, _, _, _, rfl, hd_new G fun b4 h15 hb4 x15 c15 => ?_⟩
  have W15 := W14.ext x15
  have n15 : ¬ C13 b4 := fun h => by have := W14.disk.lt _ h; omega
  have g15 := (x15.old b3 (Array.getElem?_eq_some_iff.1 c14).1).trans c14
  have d15 := (x15.old b1 (Array.getElem?_eq_some_iff.1 d14).1).trans d14
  have f15 := (x15.old b2 (Array.getElem?_eq_some_iff.1 f14).1).trans f14
  refine (W15.heads hh id).mono ?_
  rintro e h16 ⟨W16, k16, p, c, rfl, o16⟩
  have hnw : (newestF σ14).2 = ([tkOf G S2, tkOf H S1], 0) := by
    rw [J13.newest A14, show (1 - G.slot : Int) = H.slot by rw [eG1, eH1]; omega, J4.other F2 (by rw [eG1, eH1]) (by rw [eG4, eH4]) L13 A14]
    rfl
  rw [hnw] at o16 ⊢
  obtain ⟨g16, _⟩ := k16.cell g15 m14
  obtain ⟨d16, _⟩ := k16.cell d15 n14
  obtain ⟨f16, _⟩ := k16.cell f15 o14
  obtain ⟨c16, _⟩ := k16.cell c15 n15
  obtain ⟨bb, oo, e1, r1, r2, _⟩ := hd_at2 (a := G) (b := H) o16
  refine ⟨_, _, _, _, rfl, fun l hq => hq = h16, ⟨false, ⟨fun hf => (by simp at hf), fun _ => ⟨fun hf => (by simp at hf), fun _ => ⟨_, _, _, _, _, cellsAt_all (vs := hdV H) f16, _, _, _, _, _, cellsAt_all (vs := hdV H) d16, _, eqv_hd H H, fun hf => (by simp at hf), fun _ => ⟨fun hf => (by simp at hf), fun _ => ⟨fun hf => (by simp at hf), fun _ => ⟨fun hf => (by simp at hf), fun _ => ⟨rfl, by simp⟩⟩⟩⟩⟩⟩⟩, fun hf => (by cases hf), fun _ => rfl⟩, ?_⟩
  rintro h17 rfl
  refine ⟨true, ⟨fun _ => ⟨fun _ => ⟨bb, oo, e1, by decide, by show (0 : Int) < ((2 : Nat) : Int); decide, _, _, _, _, _, r1, _, _, _, _, _, cellsAt_all (vs := hdV G) g16, _, eqv_hd G G, fun _ => ⟨bb, oo, e1, by decide, by show (1 : Int) < ((2 : Nat) : Int); decide, _, _, _, _, _, r2, _, _, _, _, _, cellsAt_all (vs := hdV H) d16, _, eqv_hd H H, rfl, by simp⟩, fun hf => (by simp at hf)⟩, fun hf => (by simp at hf)⟩, fun hf => (by simp at hf)⟩, true, ⟨fun _ => ⟨fun _ => ⟨fun _ => ⟨fun _ => ⟨_, _, _, _, _, cellsAt_all (vs := hdV G) c16, _, _, _, _, _, cellsAt_all (vs := hdV G) g16, _, eqv_hd G G, fun _ => ⟨fun _ => ⟨_, cellsAt_one (cellH_at g16), rfl, ?_⟩, fun hf => (by simp at hf)⟩, fun hf => (by simp at hf)⟩, fun hf => (by simp at hf)⟩, fun hf => (by simp at hf)⟩, fun hf => (by simp at hf)⟩, fun hf => (by cases hf)⟩, rfl, W16.same.toExt⟩
  rw [eG3]; rfl

set_option maxHeartbeats 1000000 in
/-- turnoutlaw20.CkptLong -/
theorem long_law (size many first : Int) (hs0 : -9223372036854775808 ≤ size) (hs1 : size ≤ 9223372036854775807) (hm0 : -9223372036854775808 ≤ many) (hm1 : many ≤ 9223372036854775807) (hf0 : -9223372036854775808 ≤ first) (hf1 : first ≤ 9223372036854775807) (h : Hp) (hh : Halves h) :
    CallsH Tryd.prog 6 #[vZ size, vZ many, vZ first] h (RetX (.bool true) h) := by
  refine V6 _ _ _ h _ ((awake_c h hh).mono ?_)
  rintro e h1 ⟨x1, rfl⟩
  refine ⟨_, rfl, (pick_c size 8 (by decide) hs0 hs1 h1).mono ?_⟩
  rintro e h1' ⟨rfl, rfl⟩
  have p8 := pickN_lt size (n := 8) (by decide)
  have p3 := pickN_lt first (n := 3) (by decide)
  have p2 := pickN_lt first (n := 2) (by decide)
  obtain ⟨s, hs⟩ : ∃ s, s = 1 + pickN size 8 := ⟨_, rfl⟩
  obtain ⟨n, hn⟩ : ∃ n, n = 3 + 2 * s + pickN first 3 := ⟨_, rfl⟩
  refine ⟨_, rfl, (s : Int), by rw [wrapI64] <;> omega, ((2 * s : Nat) : Int), by rw [wrapI64] <;> omega, ((3 + 2 * s : Nat) : Int), by rw [wrapI64] <;> omega, (pick_c first 3 (by decide) hf0 hf1 h1').mono ?_⟩
  rintro e h1 ⟨rfl, rfl⟩
  refine ⟨_, rfl, (n : Int), by rw [wrapI64] <;> omega, (new_c (n : Int)).mono ?_⟩
  rintro e h2 (⟨hbad, rfl, rfl⟩ | ⟨_, _, d, F, rfl⟩)
  · omega
  rw [Int.toNat_natCast] at F
  have W2 := (Wk.fresh F)
  obtain ⟨C, hC⟩ : ∃ C : Nat → Prop, C = fun b => h1.size ≤ b ∧ b < h2.size := ⟨_, rfl⟩
  rw [← hC] at W2
  have W2' : Wk NoB h C h2 d (DS.new n) := ⟨(x1.same NoB).trans W2.same fun _ h _ => h, W2.disk, fun b hb => .inr (by rw [hC] at hb; have := x1.size; omega)⟩
  refine ⟨_, _, rfl, (layout_c (n : Int) (s : Int) (by omega) h2).mono ?_⟩
  rintro e h3 ⟨x3, rfl⟩
  rw [(right_of (n := n) (s := s) (slot := 0) (gen := 1) (ep := 1) (by omega) (by omega) (by omega) (.inl rfl) (by omega) (by omega)).1]
  refine ⟨_, _, _, rfl, ly_new ((s : Int), (n : Int) - 2 - 2 * s) fun b h4 hb x4 c4 => ?_⟩
  have W4 := W2'.ext (x3.trans x4)
  refine ⟨fun l hq => hq = h4, ⟨false, ⟨fun hf => (by simp at hf), fun _ => ⟨false, eqv_ptr uPD _, fun hf => (by cases hf), fun _ => ⟨fun hf => (by simp at hf), fun _ => ⟨fun hf => (by simp at hf), fun _ => ⟨_, cellsAt_one (cellH_at c4), fun hf => (by simp at hf), fun _ => ⟨_, cellsAt_one (cellH_at c4), ((n : Int) - 2), by rw [wrapI64] <;> omega, (2 * (s : Int)), by rw [wrapI64] <;> omega, ((n : Int) - 2 - 2 * s), by rw [wrapI64] <;> omega, rfl, by simp⟩⟩⟩⟩⟩⟩, fun hf => (by cases hf), fun _ => rfl⟩, ?_⟩
  rintro h5 rfl
  have hslot : (pickN first 2 : Int) = 0 ∨ (pickN first 2 : Int) = 1 := by omega
  have hw : IntKind.u64.wrap (s : Int) = (s : Int) := by rw [wrapU64]; omega
  have hw1 : IntKind.u64.wrap ((1 : Int) + (s : Int)) = ((1 + s : Nat) : Int) := by rw [wrapU64]; omega
  have lb := (Array.getElem?_eq_some_iff.1 c4).1
  refine ⟨⟨fun h' => h'[b]? = some (.cells (lyV ((s : Int), (n : Int) - 2 - 2 * s)).toArray 24), c4, (pick_c first 2 (by decide) hf0 hf1 h5).mono ?_⟩, ⟨fun h' => h'[b]? = some (.cells (lyV ((s : Int), (n : Int) - 2 - 2 * s)).toArray 24), c4, ?_⟩⟩
  · rintro e h6 ⟨rfl, rfl⟩
    refine ⟨_, rfl, c4, _, hw, _, hw1, _, _, fun h' c => cellsAt_all (vs := lyV ((s : Int), (n : Int) - 2 - 2 * s)) c, ?_⟩
    intro b1 h7 hb1 e7
    have x7 : Ext h6 h7 := by rw [e7]; exact Ext.push _ _
    have c7 : h7[b1]? = some (.cells (hdV Hd.no).toArray 26) := by rw [e7, hb1, zerosHead]; exact push_last
    clear e7
    have d7 := (x7.old b lb).trans c4
    obtain ⟨q1, q2, q3, q4⟩ := hd_set c7 ⟨pickN first 2, 1 + s, 1, s, (n : Int) - 2 - 2 * s⟩
    refine ⟨infoHead, d7, q1, q2, q3, ?_⟩
    intro h8 e8
    have x8 : Ext h6 h8 := by rw [e8]; exact x7.over (setsH_same (B := fun x => x = b1) rfl) fun x hx => by omega
    refine ⟨(x8.old b lb).trans c4, ?_⟩
    have W8 := W4.ext x8
    exact long_tail hh hm0 hm1 (by omega) (by omega) (by omega) (by omega) hslot W8 (by rw [e8]; exact q4) (fun hc => by rw [hC] at hc; have := x3.size; have := x4.size; omega)
  · intro b1 h7 hb1 e7
    have x7 : Ext h5 h7 := by rw [e7]; exact Ext.push _ _
    have c7 : h7[b1]? = some (.cells (hdV Hd.no).toArray 26) := by rw [e7, hb1, zerosHead]; exact push_last
    clear e7
    have d7 := (x7.old b lb).trans c4
    refine ⟨infoHead, d7, (pick_c first 2 (by decide) hf0 hf1 h7).mono ?_⟩
    rintro e h6 ⟨rfl, rfl⟩
    obtain ⟨q1, q2, q3, q4⟩ := hd_set c7 ⟨pickN first 2, 1 + s, 1, s, (n : Int) - 2 - 2 * s⟩
    refine ⟨_, rfl, d7, _, hw, _, hw1, _, _, fun h' c => cellsAt_all (vs := lyV ((s : Int), (n : Int) - 2 - 2 * s)) c, q1, q2, q3, ?_⟩
    intro h8 e8
    have x8 : Ext h5 h8 := by rw [e8]; exact x7.over (setsH_same (B := fun x => x = b1) rfl) fun x hx => by omega
    refine ⟨(x8.old b lb).trans c4, ?_⟩
    have W8 := W4.ext x8
    exact long_tail hh hm0 hm1 (by omega) (by omega) (by omega) (by omega) hslot W8 (by rw [e8]; exact q4) (fun hc => by rw [hC] at hc; have := x3.size; have := x4.size; omega)

end Go.Vc
