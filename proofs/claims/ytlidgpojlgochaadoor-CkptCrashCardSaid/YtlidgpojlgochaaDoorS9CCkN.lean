/- CkptCrash. -/
import Derived.Test.YtlidgpojlgochaaDoorS9CCkL
set_option maxRecDepth 10000
namespace Go.Vc
open Go Go.Proofs Go.MapKept

def CrashTail (R : Ending → Hp → Prop) (first_ x31_ : Int) (x37r0_ rawp_ : Option Addr) (rawn_ b_0 b_1 : Nat) (hp_9 : Hp) : Prop :=
    ∃ x66_, IntKind.i64.wrap ((491 : Int) * x31_) = x66_ ∧
    CallsH Tryd.prog 17 #[(Value.int .i64 first_), (Value.int .i64 x66_)] hp_9 fun en_5 hp_10 =>
    ∃ x67_ : Int, en_5 = .returned (Value.int .i64 x67_) ∧
    ∃ x68_, IntKind.i64.wrap ((1 : Int) + x67_) = x68_ ∧
    CallsH Tryd.prog 19 #[(Value.int .i64 x68_), (Value.int .i64 (0 : Int))] hp_10 fun en_6 hp_11 =>
    ∃ x69_ : ByteArray, en_6 = .returned (Value.string x69_) ∧
    ∃ x71f0_ : Int, ∃ x71f1_ : Int, ∃ x71f2_ : Int, ∃ x71f3_ : Int, ∃ x71f4_ : Int, cellsAt hp_11 b_1 0 [(Value.int .i64 x71f0_), (Value.int .u64 x71f1_), (Value.int .u64 x71f2_), (Value.int .i64 x71f3_), (Value.int .i64 x71f4_)] ∧
    CallsH Tryd.prog 14 #[(Value.pointer x37r0_), (Value.agg #[(Value.int .i64 x71f0_), (Value.int .u64 x71f1_), (Value.int .u64 x71f2_), (Value.int .i64 x71f3_), (Value.int .i64 x71f4_)]), (Value.string x69_)] hp_11 fun en_7 hp_12 =>
    ∃ x73_ : Int, en_7 = .returned (Value.int .i64 x73_) ∧
    (((decide (x73_ ≠ (0 : Int))) = true →
      R (.returned (Value.bool false)) hp_12) ∧
     ((decide (x73_ ≠ (0 : Int))) = false →
      ∃ (Iv_ : List Value → Hp → Prop) (m_ : List Value → Hp → Nat), Iv_ [(Value.string x69_), (Value.int .i64 (0 : Int))] hp_12 ∧
      (∀ (image_ : ByteArray) (i_ : Int) hp_13, Iv_ [(Value.string image_), (Value.int .i64 i_)] hp_13 →
       ∃ Jv_1 : List Value → Hp → Prop,
       (∃ B_1 : Bool, ((((decide (i_ < ((rawn_ : Nat) : Int))) = true →
           hp_13 = hp_13 ∧ B_1 = (decide (i_ < (30 : Int)))) ∧
          ((decide (i_ < ((rawn_ : Nat) : Int))) = false →
           hp_13 = hp_13 ∧ B_1 = false))) ∧
        ((B_1 = true →
          Jv_1 [] hp_13) ∧
         (B_1 = false →
          R (.returned (Value.bool true)) hp_13))) ∧
       (∀  hp_14, Jv_1 [] hp_14 →
        ∃ b_2 o_, rawp_ = some ⟨b_2, o_, none⟩ ∧ 0 ≤ i_ ∧ i_ < (rawn_ : Int) ∧
        ∃ x89f0_ : Int, ∃ x89f1_ : Int, ∃ (x89f2p_ : Option Addr) (x89f2n_ x89f2c_ : Nat), ∃ x89f3_ : Int, cellsAt hp_14 b_2 (o_ + Int.toNat i_ * 4) [(Value.int .i64 x89f0_), (Value.int .i64 x89f1_), (Value.slice x89f2p_ x89f2n_ x89f2c_), (Value.int .u64 x89f3_)] ∧
        ∀ b_3 hp_15, b_3 = Array.size hp_14 → hp_15 = Array.push hp_14 (.cells (zeros Tryd.prog 49) 49) → (∃ i z, Tryd.prog.info? 49 = some i ∧ i.zero = some z) ∧
        List.length [(Value.int .i64 x89f0_), (Value.int .i64 x89f1_), (Value.slice x89f2p_ x89f2n_ x89f2c_), (Value.int .u64 x89f3_)] = 4 ∧ (∀ c ∈ [(Value.int .i64 x89f0_), (Value.int .i64 x89f1_), (Value.slice x89f2p_ x89f2n_ x89f2c_), (Value.int .u64 x89f3_)], c.oneCell' = true) ∧ wrAt hp_15 b_3 0 4 ∧ ∀ hp_16, hp_16 = setsH hp_15 b_3 0 [(Value.int .i64 x89f0_), (Value.int .i64 x89f1_), (Value.slice x89f2p_ x89f2n_ x89f2c_), (Value.int .u64 x89f3_)] →
        ∃ x91f0_ : Int, ∃ x91f1_ : Int, ∃ x91f2_ : Int, ∃ x91f3_ : Int, ∃ x91f4_ : Int, cellsAt hp_16 b_1 0 [(Value.int .i64 x91f0_), (Value.int .u64 x91f1_), (Value.int .u64 x91f2_), (Value.int .i64 x91f3_), (Value.int .i64 x91f4_)] ∧
        ∃ x93_ : Int, cellsAt hp_16 b_3 (0 + 3) [(Value.int .u64 x93_)] ∧
        (1000 : Int) ≠ 0 ∧ ∃ x94_, Int.tmod x93_ (1000 : Int) = x94_ ∧
        CallsH Tryd.prog 12 #[(Value.agg #[(Value.int .i64 x91f0_), (Value.int .u64 x91f1_), (Value.int .u64 x91f2_), (Value.int .i64 x91f3_), (Value.int .i64 x91f4_)]), (Value.int .u64 x94_)] hp_16 fun en_8 hp_17 =>
        ∃ x95r0f0_ : Int, ∃ x95r0f1_ : Int, ∃ x95r0f2_ : Int, ∃ x95r0f3_ : Int, ∃ x95r0f4_ : Int, ∃ x95r1_ : Int, en_8 = .returned (Value.tuple #[(Value.agg #[(Value.int .i64 x95r0f0_), (Value.int .u64 x95r0f1_), (Value.int .u64 x95r0f2_), (Value.int .i64 x95r0f3_), (Value.int .i64 x95r0f4_)]), (Value.int .i64 x95r1_)]) ∧
        ∀ b_4 hp_18, b_4 = Array.size hp_17 → hp_18 = Array.push hp_17 (.cells (zeros Tryd.prog 26) 26) → (∃ i z, Tryd.prog.info? 26 = some i ∧ i.zero = some z) ∧
        List.length [(Value.int .i64 x95r0f0_), (Value.int .u64 x95r0f1_), (Value.int .u64 x95r0f2_), (Value.int .i64 x95r0f3_), (Value.int .i64 x95r0f4_)] = 5 ∧ (∀ c ∈ [(Value.int .i64 x95r0f0_), (Value.int .u64 x95r0f1_), (Value.int .u64 x95r0f2_), (Value.int .i64 x95r0f3_), (Value.int .i64 x95r0f4_)], c.oneCell' = true) ∧ wrAt hp_18 b_4 0 5 ∧ ∀ hp_19, hp_19 = setsH hp_18 b_4 0 [(Value.int .i64 x95r0f0_), (Value.int .u64 x95r0f1_), (Value.int .u64 x95r0f2_), (Value.int .i64 x95r0f3_), (Value.int .i64 x95r0f4_)] →
        ∃ Jv_2 : List Value → Hp → Prop,
        (∃ B_2 : Bool, ((((decide (x95r1_ ≠ (0 : Int))) = true →
            hp_19 = hp_19 ∧ B_2 = true) ∧
           ((decide (x95r1_ ≠ (0 : Int))) = false →
            ∃ x102_ : Int, cellsAt hp_19 b_4 (0 + 0) [(Value.int .i64 x102_)] ∧
            ∃ x104_ : Int, cellsAt hp_19 b_1 (0 + 0) [(Value.int .i64 x104_)] ∧
            ∃ x105_, IntKind.i64.wrap ((1 : Int) - x104_) = x105_ ∧
            (((decide (x102_ ≠ x105_)) = true →
              hp_19 = hp_19 ∧ B_2 = true) ∧
             ((decide (x102_ ≠ x105_)) = false →
              ∃ x110_ : Int, cellsAt hp_19 b_4 (0 + 1) [(Value.int .u64 x110_)] ∧
              ∃ x112_ : Int, cellsAt hp_19 b_1 (0 + 1) [(Value.int .u64 x112_)] ∧
              ∃ x113_, IntKind.u64.wrap (x112_ + (1 : Int)) = x113_ ∧
              (((decide (x110_ ≠ x113_)) = true →
                hp_19 = hp_19 ∧ B_2 = true) ∧
               ((decide (x110_ ≠ x113_)) = false →
                ∃ x118_ : Int, cellsAt hp_19 b_4 (0 + 2) [(Value.int .u64 x118_)] ∧
                ∃ x120_ : Int, cellsAt hp_19 b_1 (0 + 2) [(Value.int .u64 x120_)] ∧
                (((decide (x118_ ≤ x120_)) = true →
                  hp_19 = hp_19 ∧ B_2 = true) ∧
                 ((decide (x118_ ≤ x120_)) = false →
                  ∃ x125_ : Int, cellsAt hp_19 b_4 (0 + 2) [(Value.int .u64 x125_)] ∧
                  ∃ x127_ : Int, cellsAt hp_19 b_3 (0 + 3) [(Value.int .u64 x127_)] ∧
                  (1000 : Int) ≠ 0 ∧ ∃ x128_, Int.tmod x127_ (1000 : Int) = x128_ ∧
                  (((decide (x125_ ≤ x128_)) = true →
                    hp_19 = hp_19 ∧ B_2 = true) ∧
                   ((decide (x125_ ≤ x128_)) = false →
                    ∃ x133f0_ : Int, ∃ x133f1_ : Int, cellsAt hp_19 b_4 (0 + 3) [(Value.int .i64 x133f0_), (Value.int .i64 x133f1_)] ∧
                    ∃ x134f0_ : Int, ∃ x134f1_ : Int, cellsAt hp_19 b_0 0 [(Value.int .i64 x134f0_), (Value.int .i64 x134f1_)] ∧
                    ∃ x135_, EqV Tryd.prog 24 (Value.agg #[(Value.int .i64 x133f0_), (Value.int .i64 x133f1_)]) (Value.agg #[(Value.int .i64 x134f0_), (Value.int .i64 x134f1_)]) x135_ ∧
                    hp_19 = hp_19 ∧ B_2 = (!x135_)))))))))))) ∧
         ((B_2 = true →
           R (.returned (Value.bool false)) hp_19) ∧
          (B_2 = false →
           Jv_2 [] hp_19))) ∧
        (∀  hp_20, Jv_2 [] hp_20 →
         ∃ x138_ : Int, cellsAt hp_20 b_3 (0 + 0) [(Value.int .i64 x138_)] ∧
         ∃ x140_, IntKind.i64.wrap ((491 : Int) * x31_) = x140_ ∧
         CallsH Tryd.prog 17 #[(Value.int .i64 x138_), (Value.int .i64 x140_)] hp_20 fun en_9 hp_21 =>
         ∃ x141_ : Int, en_9 = .returned (Value.int .i64 x141_) ∧
         ∃ x142_, IntKind.i64.wrap ((1 : Int) + x141_) = x142_ ∧
         ∃ x144_, IntKind.i64.wrap (i_ + (1 : Int)) = x144_ ∧
         CallsH Tryd.prog 19 #[(Value.int .i64 x142_), (Value.int .i64 x144_)] hp_21 fun en_10 hp_22 =>
         ∃ x145_ : ByteArray, en_10 = .returned (Value.string x145_) ∧
         CallsH Tryd.prog 20 #[(Value.pointer x37r0_)] hp_22 fun en_11 hp_23 =>
         ∃ x147_ : ByteArray, en_11 = .returned (Value.string x147_) ∧
         ∃ x150_ : Int, cellsAt hp_23 b_3 (0 + 1) [(Value.int .i64 x150_)] ∧
         ∃ x152_, IntKind.i64.wrap (x31_ + (5 : Int)) = x152_ ∧
         CallsH Tryd.prog 17 #[(Value.int .i64 x150_), (Value.int .i64 x152_)] hp_23 fun en_12 hp_24 =>
         ∃ x153_ : Int, en_12 = .returned (Value.int .i64 x153_) ∧
         CallsH Tryd.prog 21 #[(Value.pointer x37r0_), (Value.int .i64 x153_)] hp_24 fun en_13 hp_25 =>
         en_13 = .returned (Value.tuple #[]) ∧
         ∃ x156f0_ : Int, ∃ x156f1_ : Int, ∃ x156f2_ : Int, ∃ x156f3_ : Int, ∃ x156f4_ : Int, cellsAt hp_25 b_4 0 [(Value.int .i64 x156f0_), (Value.int .u64 x156f1_), (Value.int .u64 x156f2_), (Value.int .i64 x156f3_), (Value.int .i64 x156f4_)] ∧
         CallsH Tryd.prog 14 #[(Value.pointer x37r0_), (Value.agg #[(Value.int .i64 x156f0_), (Value.int .u64 x156f1_), (Value.int .u64 x156f2_), (Value.int .i64 x156f3_), (Value.int .i64 x156f4_)]), (Value.string x145_)] hp_25 fun en_14 hp_26 =>
         ∃ x158_ : Int, en_14 = .returned (Value.int .i64 x158_) ∧
         ∃ Jv_3 : List Value → Hp → Prop,
         (∃ B_3 : Bool, ((((decide (x158_ ≠ (0 : Int))) = true →
             hp_26 = hp_26 ∧ B_3 = (decide (x158_ ≠ (40 : Int)))) ∧
            ((decide (x158_ ≠ (0 : Int))) = false →
             hp_26 = hp_26 ∧ B_3 = false))) ∧
          ((B_3 = true →
            R (.returned (Value.bool false)) hp_26) ∧
           (B_3 = false →
            Jv_3 [] hp_26))) ∧
         (∀  hp_27, Jv_3 [] hp_27 →
          ∃ (x167p_ : Option Addr) (x167n_ x167c_ : Nat), cellsAt hp_27 b_3 (0 + 2) [(Value.slice x167p_ x167n_ x167c_)] ∧
          CallsH Tryd.prog 22 #[(Value.pointer x37r0_), (Value.slice x167p_ x167n_ x167c_)] hp_27 fun en_15 hp_28 =>
          en_15 = .returned (Value.tuple #[]) ∧
          CallsH Tryd.prog 16 #[(Value.pointer x37r0_)] hp_28 fun en_16 hp_29 =>
          ∃ x171r0f0_ : Int, ∃ x171r0f1_ : Int, ∃ x171r0f2_ : Int, ∃ x171r0f3_ : Int, ∃ x171r0f4_ : Int, ∃ x171r1_ : ByteArray, ∃ x171r2_ : Int, en_16 = .returned (Value.tuple #[(Value.agg #[(Value.int .i64 x171r0f0_), (Value.int .u64 x171r0f1_), (Value.int .u64 x171r0f2_), (Value.int .i64 x171r0f3_), (Value.int .i64 x171r0f4_)]), (Value.string x171r1_), (Value.int .i64 x171r2_)]) ∧
          ∀ b_5 hp_30, b_5 = Array.size hp_29 → hp_30 = Array.push hp_29 (.cells (zeros Tryd.prog 26) 26) → (∃ i z, Tryd.prog.info? 26 = some i ∧ i.zero = some z) ∧
          List.length [(Value.int .i64 x171r0f0_), (Value.int .u64 x171r0f1_), (Value.int .u64 x171r0f2_), (Value.int .i64 x171r0f3_), (Value.int .i64 x171r0f4_)] = 5 ∧ (∀ c ∈ [(Value.int .i64 x171r0f0_), (Value.int .u64 x171r0f1_), (Value.int .u64 x171r0f2_), (Value.int .i64 x171r0f3_), (Value.int .i64 x171r0f4_)], c.oneCell' = true) ∧ wrAt hp_30 b_5 0 5 ∧ ∀ hp_31, hp_31 = setsH hp_30 b_5 0 [(Value.int .i64 x171r0f0_), (Value.int .u64 x171r0f1_), (Value.int .u64 x171r0f2_), (Value.int .i64 x171r0f3_), (Value.int .i64 x171r0f4_)] →
          ∃ Cv_1 : Hp → Prop, Cv_1 hp_31 ∧
          CallsH Tryd.prog 20 #[(Value.pointer x37r0_)] hp_31 fun en_17 hp_32 =>
          ∃ x177_ : ByteArray, en_17 = .returned (Value.string x177_) ∧
          Cv_1 hp_32 ∧
          ∃ x179_ : Int, (∀ h', Cv_1 h' → cellsAt h' b_4 (0 + 0) [(Value.int .i64 x179_)]) ∧
          ∃ x181_, IntKind.i64.wrap (x179_ * x31_) = x181_ ∧
          ∃ x182_, IntKind.i64.wrap ((2 : Int) + x181_) = x182_ ∧
          ∃ x184_ : Int, (∀ h', Cv_1 h' → cellsAt h' b_4 (0 + 0) [(Value.int .i64 x184_)]) ∧
          ∃ x186_, IntKind.i64.wrap (x184_ * x31_) = x186_ ∧
          ∃ x187_, IntKind.i64.wrap ((2 : Int) + x186_) = x187_ ∧
          ∃ x189_, IntKind.i64.wrap (x187_ + x31_) = x189_ ∧
          ∃ x191_ : Int, (∀ h', Cv_1 h' → cellsAt h' b_4 (0 + 0) [(Value.int .i64 x191_)]) ∧
          CallsH Tryd.prog 23 #[(Value.string x147_), (Value.string x177_), (Value.int .i64 x182_), (Value.int .i64 x189_), (Value.int .i64 x191_)] hp_32 fun en_18 hp_33 =>
          ∃ x192_ : Bool, en_18 = .returned (Value.bool x192_) ∧
          Cv_1 hp_33 ∧
          ∃ Jv_4 : List Value → Hp → Prop,
          (∃ B_4 : Bool, ((((decide (x171r2_ ≠ (0 : Int))) = true →
              hp_33 = hp_33 ∧ B_4 = true) ∧
             ((decide (x171r2_ ≠ (0 : Int))) = false →
              hp_33 = hp_33 ∧ B_4 = (!x192_)))) ∧
           ((B_4 = true →
             R (.returned (Value.bool false)) hp_33) ∧
            (B_4 = false →
             Jv_4 [] hp_33))) ∧
          (∀  hp_34, Jv_4 [] hp_34 →
           ∃ B_5 : Bool, (∃ x200f0_ : Int, ∃ x200f1_ : Int, ∃ x200f2_ : Int, ∃ x200f3_ : Int, ∃ x200f4_ : Int, cellsAt hp_34 b_5 0 [(Value.int .i64 x200f0_), (Value.int .u64 x200f1_), (Value.int .u64 x200f2_), (Value.int .i64 x200f3_), (Value.int .i64 x200f4_)] ∧
            ∃ x201f0_ : Int, ∃ x201f1_ : Int, ∃ x201f2_ : Int, ∃ x201f3_ : Int, ∃ x201f4_ : Int, cellsAt hp_34 b_4 0 [(Value.int .i64 x201f0_), (Value.int .u64 x201f1_), (Value.int .u64 x201f2_), (Value.int .i64 x201f3_), (Value.int .i64 x201f4_)] ∧
            ∃ x202_, EqV Tryd.prog 26 (Value.agg #[(Value.int .i64 x200f0_), (Value.int .u64 x200f1_), (Value.int .u64 x200f2_), (Value.int .i64 x200f3_), (Value.int .i64 x200f4_)]) (Value.agg #[(Value.int .i64 x201f0_), (Value.int .u64 x201f1_), (Value.int .u64 x201f2_), (Value.int .i64 x201f3_), (Value.int .i64 x201f4_)]) x202_ ∧
            ((x202_ = true →
              hp_34 = hp_34 ∧ B_5 = (decide (x171r1_ = x145_))) ∧
             (x202_ = false →
              hp_34 = hp_34 ∧ B_5 = false))) ∧
           ((B_5 = true →
             ∃ x208f0_ : Int, ∃ x208f1_ : Int, ∃ x208f2_ : Int, ∃ x208f3_ : Int, ∃ x208f4_ : Int, cellsAt hp_34 b_4 0 [(Value.int .i64 x208f0_), (Value.int .u64 x208f1_), (Value.int .u64 x208f2_), (Value.int .i64 x208f3_), (Value.int .i64 x208f4_)] ∧
             List.length [(Value.int .i64 x208f0_), (Value.int .u64 x208f1_), (Value.int .u64 x208f2_), (Value.int .i64 x208f3_), (Value.int .i64 x208f4_)] = 5 ∧ (∀ c ∈ [(Value.int .i64 x208f0_), (Value.int .u64 x208f1_), (Value.int .u64 x208f2_), (Value.int .i64 x208f3_), (Value.int .i64 x208f4_)], c.oneCell' = true) ∧ wrAt hp_34 b_1 0 5 ∧ ∀ hp_35, hp_35 = setsH hp_34 b_1 0 [(Value.int .i64 x208f0_), (Value.int .u64 x208f1_), (Value.int .u64 x208f2_), (Value.int .i64 x208f3_), (Value.int .i64 x208f4_)] →
             ∃ x85_, IntKind.i64.wrap (i_ + (1 : Int)) = x85_ ∧
             (Iv_ [(Value.string x145_), (Value.int .i64 x85_)] hp_35 ∧ m_ [(Value.string x145_), (Value.int .i64 x85_)] hp_35 < m_ [(Value.string image_), (Value.int .i64 i_)] hp_13)) ∧
            (B_5 = false →
             ∃ B_6 : Bool, (∃ x211f0_ : Int, ∃ x211f1_ : Int, ∃ x211f2_ : Int, ∃ x211f3_ : Int, ∃ x211f4_ : Int, cellsAt hp_34 b_5 0 [(Value.int .i64 x211f0_), (Value.int .u64 x211f1_), (Value.int .u64 x211f2_), (Value.int .i64 x211f3_), (Value.int .i64 x211f4_)] ∧
              ∃ x212f0_ : Int, ∃ x212f1_ : Int, ∃ x212f2_ : Int, ∃ x212f3_ : Int, ∃ x212f4_ : Int, cellsAt hp_34 b_1 0 [(Value.int .i64 x212f0_), (Value.int .u64 x212f1_), (Value.int .u64 x212f2_), (Value.int .i64 x212f3_), (Value.int .i64 x212f4_)] ∧
              ∃ x213_, EqV Tryd.prog 26 (Value.agg #[(Value.int .i64 x211f0_), (Value.int .u64 x211f1_), (Value.int .u64 x211f2_), (Value.int .i64 x211f3_), (Value.int .i64 x211f4_)]) (Value.agg #[(Value.int .i64 x212f0_), (Value.int .u64 x212f1_), (Value.int .u64 x212f2_), (Value.int .i64 x212f3_), (Value.int .i64 x212f4_)]) x213_ ∧
              (((!x213_) = true →
                hp_34 = hp_34 ∧ B_6 = true) ∧
               ((!x213_) = false →
                (((decide (x171r1_ ≠ image_)) = true →
                  hp_34 = hp_34 ∧ B_6 = true) ∧
                 ((decide (x171r1_ ≠ image_)) = false →
                  hp_34 = hp_34 ∧ B_6 = (decide (x158_ = (0 : Int)))))))) ∧
             ((B_6 = true →
               R (.returned (Value.bool false)) hp_34) ∧
              (B_6 = false →
               ∃ x85_1, IntKind.i64.wrap (i_ + (1 : Int)) = x85_1 ∧
               (Iv_ [(Value.string image_), (Value.int .i64 x85_1)] hp_34 ∧ m_ [(Value.string image_), (Value.int .i64 x85_1)] hp_34 < m_ [(Value.string image_), (Value.int .i64 i_)] hp_13))))))))))))

/-! ## Turns -/

structure Trn where
  len : Int
  cut : Int
  p : Option Addr
  n : Nat
  c : Nat
  above : Nat
  fates : List (Int × Int)

def trnV (t : Trn) : List Value := [vZ t.len, vZ t.cut, .slice t.p t.n t.c, vU t.above]
structure Trn.Ok (h : Hp) (t : Trn) : Prop where
  l0 : -9223372036854775808 ≤ t.len
  l1 : t.len ≤ 9223372036854775807
  c0 : -9223372036854775808 ≤ t.cut
  c1 : t.cut ≤ 9223372036854775807
  a : t.above < 18446744073709551616
  f : SegS h t.p t.n 2 (t.fates.map fateV)

def Trn.no : Trn := ⟨0, 0, none, 0, 0, 0, []⟩
theorem zerosTurn : zeros Tryd.prog 49 = (trnV Trn.no).toArray := by kernel_rfl
theorem infoTurn : ∃ i z, Tryd.prog.info? 49 = some i ∧ i.zero = some z := by
  have : ((Tryd.prog.info? 49).bind (·.zero)).isSome = true := by kernel_rfl
  obtain ⟨z, hz⟩ := Option.isSome_iff_exists.1 this
  obtain ⟨i, hi, hz⟩ := Option.bind_eq_some_iff.1 hz
  exact ⟨i, z, hi, hz⟩
theorem trn_new {h : Hp} (g : Trn) {K : Nat → Hp → Prop} (hK : ∀ b h2, b = h.size → Ext h h2 → h2[b]? = some (.cells (trnV g).toArray 49) → K b h2) :
    ∀ b hp, b = Array.size h → hp = Array.push h (.cells (zeros Tryd.prog 49) 49) → (∃ i z, Tryd.prog.info? 49 = some i ∧ i.zero = some z) ∧ List.length (trnV g) = 4 ∧ (∀ c ∈ trnV g, c.oneCell' = true) ∧ wrAt hp b 0 4 ∧ ∀ h2, h2 = setsH hp b 0 (trnV g) → K b h2 := by
  intro b hp hb e
  have x : Ext h hp := by rw [e]; exact Ext.push _ _
  have c : hp[b]? = some (.cells (trnV Trn.no).toArray 49) := by rw [e, hb, zerosTurn]; exact push_last
  obtain ⟨q3, q4⟩ := all_set c (trnV g) rfl
  refine ⟨infoTurn, rfl, by simp [trnV, Value.oneCell'], q3, fun h2 e2 => hK b h2 hb ?_ (by rw [e2]; exact q4)⟩
  rw [e2]
  exact x.over (setsH_same (B := fun x => x = b) rfl) fun x hx => by omega

/-! ## Two images -/

def imgL (S : List ByteArray) : ByteArray := ⟨(flatB S).toArray⟩
theorem image_imgL (σ : DS) : σ.image = imgL σ.safe := rfl
theorem bl_imgL (S : List ByteArray) : bl (imgL S) = flatB S := by simp [bl, imgL]
theorem imgL_size {S : List ByteArray} (h : ∀ s ∈ S, s.size = 512) : (imgL S).size = S.length * 512 := by rw [← bl_length, bl_imgL, flatB_length h]

theorem flatB_split {S : List ByteArray} {i : Nat} (hi : i < S.length) : flatB S = flatB (S.take i) ++ (bl S[i] ++ flatB (S.drop (i + 1))) := by
  have e : S = S.take i ++ S[i] :: S.drop (i + 1) := by rw [← List.drop_eq_getElem_cons hi, List.take_append_drop]
  refine (congrArg flatB e).trans ?_
  unfold flatB
  rw [List.map_append, List.flatten_append, List.map_cons, List.flatten_cons]

theorem imgL_extract {S : List ByteArray} (h : ∀ s ∈ S, s.size = 512) {i : Nat} (hi : i < S.length) : (imgL S).extract (512 * i) (512 * i + 512) = S[i] := by
  apply bl_inj
  have h1 : (flatB (S.take i)).length = 512 * i := by rw [flatB_length fun s hs => h s (List.mem_of_mem_take hs), List.length_take]; omega
  have h2 : (bl S[i]).length = 512 := by rw [bl_length]; exact h _ (List.getElem_mem hi)
  rw [bl_extract, bl_imgL, flatB_split hi, List.drop_left' h1, Nat.add_sub_cancel_left, List.take_left' h2]

theorem same_c {S T : List ByteArray} (hS : ∀ s ∈ S, s.size = 512) (hT : ∀ s ∈ T, s.size = 512) (hl : T.length = S.length) (hn : S.length ≤ 4096) (a b o : Int) (hof : ∀ i : Nat, i < S.length → ¬ (a ≤ i ∧ (i : Int) < b) → (i : Int) ≠ o → T[i]? = S[i]?) (h : Hp) :
    CallsH Tryd.prog 23 #[.string (imgL S), .string (imgL T), vZ a, vZ b, vZ o] h fun e h' => h' = h ∧ e = .returned (.bool true) := by
  have zS := imgL_size hS
  have zT := imgL_size hT
  refine V23 _ _ _ _ _ h _ ⟨fun hf => ?_, fun _ => ?_⟩
  · have := of_decide_eq_true hf; rw [zS, zT, hl] at this; exact (this rfl).elim
  refine ⟨fun l hr => ∃ i : Nat, l = [vI i] ∧ i ≤ S.length ∧ hr = h, fun l _ => (S.length - numAt l 0).toNat, ⟨0, rfl, Nat.zero_le _, rfl⟩, ?_⟩
  rintro x hr ⟨i, hl', hi, rfl⟩
  cases hl'
  refine ⟨((512 * i : Nat) : Int), by rw [wrapI64] <;> omega, fun hlt => ?_, fun _ => ⟨rfl, rfl⟩⟩
  have hlt : i < S.length := by have := of_decide_eq_true hlt; rw [zS] at this; omega
  refine ⟨fun l hq => hq = hr ∧ ¬ (a ≤ (i : Int) ∧ (i : Int) < b) ∧ (i : Int) ≠ o, ⟨decide ((a ≤ (i : Int) ∧ (i : Int) < b) ∨ (i : Int) = o), ⟨fun h1 => ⟨fun h2 => ⟨rfl, ?_⟩, fun h2 => ⟨rfl, ?_⟩⟩, fun h1 => ⟨rfl, ?_⟩⟩, fun hB => ⟨_, incI (by omega), ⟨i + 1, rfl, hlt, rfl⟩, by simp only [numAt]; omega⟩, fun hB => ⟨rfl, fun hh => of_decide_eq_false hB (.inl hh), fun hh => of_decide_eq_false hB (.inr hh)⟩⟩, ?_⟩
  · have h1 := of_decide_eq_true h1; have h2 := of_decide_eq_true h2
    exact decide_eq_true (.inl ⟨h1, h2⟩)
  · have h2 : ¬ (i : Int) < b := of_decide_eq_false h2
    apply decide_eq_decide.2
    exact ⟨fun h => h.resolve_left fun hh => h2 hh.2, .inr⟩
  · have h1 : ¬ a ≤ (i : Int) := of_decide_eq_false h1
    apply decide_eq_decide.2
    exact ⟨fun h => h.resolve_left fun hh => h1 hh.1, .inr⟩
  rintro hq ⟨rfl, h1, h2⟩
  have he := hof i hlt h1 h2
  have hiT : i < T.length := by omega
  rw [List.getElem?_eq_getElem hlt, List.getElem?_eq_getElem hiT] at he
  have he := Option.some.inj he
  refine ⟨((512 * i : Nat) : Int), by rw [wrapI64] <;> omega, ((512 * i : Nat) : Int), by rw [wrapI64] <;> omega, ((512 * i + 512 : Nat) : Int), by rw [wrapI64] <;> omega, 512 * i, rfl, 512 * i + 512, rfl, by omega, by rw [zS]; omega, _, rfl, ((512 * i : Nat) : Int), by rw [wrapI64] <;> omega, ((512 * i : Nat) : Int), by rw [wrapI64] <;> omega, ((512 * i + 512 : Nat) : Int), by rw [wrapI64] <;> omega, 512 * i, rfl, 512 * i + 512, rfl, by omega, by rw [zT]; omega, _, rfl, fun hf => ?_, fun _ => ⟨_, incI (by omega), ⟨i + 1, rfl, hlt, rfl⟩, by simp only [numAt]; omega⟩⟩
  have := of_decide_eq_true hf
  rw [imgL_extract hS hlt, imgL_extract hT hiT, he] at this
  exact (this rfl).elim

/-! ## The walk -/

/-- A head's block is written over by another head. -/
theorem Wk.setHd {B C : Nat → Prop} {h hr : Hp} {d : Nat} {σ : DS} (W : Wk B h C hr d σ) {b : Nat} {H : Hd} (c : hr[b]? = some (.cells (hdV H).toArray 26)) (hb : h.size ≤ b) (nb : ¬ C b) (G : Hd) :
    wrAt hr b 0 5 ∧ Wk B h C (setsH hr b 0 (hdV G)) d σ ∧ (setsH hr b 0 (hdV G))[b]? = some (.cells (hdV G).toArray 26) ∧ ∀ x, x ≠ b → (setsH hr b 0 (hdV G))[x]? = hr[x]? := by
  obtain ⟨q1, q2, q3, q4⟩ := hd_set c G
  have ys : Same (fun x => x = b) hr (setsH hr b 0 (hdV G)) := setsH_same rfl
  exact ⟨q3, ⟨W.same.trans ys fun x hx hl => by omega, W.disk.other ys fun x hx e => nb (e ▸ hx), W.sub⟩, q4, fun x hx => setsH_ne hx⟩

set_option maxHeartbeats 2000000 in
theorem crash_tail {h hr : Hp} (hh : Halves h) {C : Nat → Prop} {d s : Nat} {first : Int} (hf0 : -9223372036854775808 ≤ first) (hf1 : first ≤ 9223372036854775807) (hs0 : 1 ≤ s) (hs4 : s ≤ 4) {slot : Int} (hslot : slot = 0 ∨ slot = 1)
    {ts : List Trn} (hts : ∀ t ∈ ts, t.Ok h) {rp : Option Addr} {rn : Nat} (hrow : SegS h rp rn 4 (ts.map trnV))
    (W : Wk NoB h C hr d (DS.new (3 + 2 * s))) {b0 b1 : Nat} (c0 : hr[b0]? = some (.cells (lyV ((s : Int), ((3 + 2 * s : Nat) : Int) - 2 - 2 * s)).toArray 24)) (nb0 : ¬ C b0) (c1 : hr[b1]? = some (.cells (hdV ⟨slot, 1, 1, s, ((3 + 2 * s : Nat) : Int) - 2 - 2 * s⟩).toArray 26)) (nb1 : ¬ C b1) (hb01 : b0 < b1) (hb1h : h.size ≤ b1) :
    CrashTail (RetX (.bool true) h) first s (some ⟨d, 0, none⟩) rp rn b0 b1 hr := by
  obtain ⟨n, hn⟩ : ∃ n, n = 3 + 2 * s := ⟨_, rfl⟩
  rw [← hn] at W c0 c1
  obtain ⟨H, hH⟩ : ∃ H : Hd, H = ⟨slot, 1, 1, s, (n : Int) - 2 - 2 * s⟩ := ⟨_, rfl⟩
  rw [← hH] at c1
  have eH : H.slot = slot ∧ H.gen = 1 ∧ H.ep = 1 ∧ H.ls = (s : Int) ∧ H.ll = (n : Int) - 2 - 2 * s := by rw [hH]; exact ⟨rfl, rfl, rfl, rfl, rfl⟩
  obtain ⟨eH1, eH2, eH3, eH4, eH5⟩ := eH
  have hs5 : 0 < 491 * s := by omega
  have okOf : ∀ (K : Hd), (K.slot = 0 ∨ K.slot = 1) → K.gen ≤ 1000000 → K.ep ≤ 1000000 → K.ls = (s : Int) → K.ll = (n : Int) - 2 - 2 * s → K.Ok := by
    intro K h1 h2 h3 h4 h5
    exact ⟨by omega, by omega, by omega, by omega, by omega, by omega, by omega, by omega⟩
  have fitOf : ∀ (K : Hd) (im : ByteArray), (K.slot = 0 ∨ K.slot = 1) → 1 ≤ K.gen → K.gen ≤ 1000000 → 1 ≤ K.ep → K.ep ≤ 1000000 → K.ls = (s : Int) → K.ll = (n : Int) - 2 - 2 * s → 1 ≤ im.size → im.size ≤ 491 * s → FitsH n K im := by
    intro K im h1 h2 h2' h3 h3' h4 h5 h6 h7
    have hK : K = ⟨K.slot, K.gen, K.ep, s, (n : Int) - 2 - 2 * s⟩ := Hd.ext rfl rfl rfl h4 h5
    refine ⟨?_, h6, ?_⟩
    · rw [hK]; exact (right_of hs0 (by omega) (by omega) h1 (by omega) (by omega)).2
    · unfold mostH; rw [h4]; omega
  have hpk := pickN_lt first hs5
  obtain ⟨S1, hS1⟩ : ∃ S1, S1 = longF (1 + pickN first (491 * s)) 0 := ⟨_, rfl⟩
  have zS1 : S1.size = 1 + pickN first (491 * s) := by rw [hS1, longF_size]
  have F1 : FitsH n H S1 := fitOf H S1 (by omega) (by omega) (by omega) (by omega) (by omega) eH4 eH5 (by omega) (by omega)
  have A0 : Alive (DS.new n) (List.replicate n zero512) [] 0 := Alive.new n
  have okH : H.Ok := okOf H (by omega) (by omega) (by omega) eH4 eH5
  unfold CrashTail
  refine ⟨((491 * s : Nat) : Int), by rw [wrapI64] <;> omega, (pick_c first (491 * s) hs5 hf0 hf1 hr).mono ?_⟩
  rintro e h1 ⟨rfl, rfl⟩
  refine ⟨_, rfl, ((1 + pickN first (491 * s) : Nat) : Int), by rw [wrapI64] <;> omega, (long_c (1 + pickN first (491 * s)) 0 (by omega) (by decide) h1).mono ?_⟩
  rintro e h2 ⟨x2, rfl⟩
  rw [← hS1]
  have W2 := W.ext x2
  have c2 := (x2.old b1 (Array.getElem?_eq_some_iff.1 c1).1).trans c1
  have d2 := (x2.old b0 (Array.getElem?_eq_some_iff.1 c0).1).trans c0
  refine ⟨_, rfl, _, _, _, _, _, cellsAt_all (vs := hdV H) c2, (W2.write hh id okH S1 (by rw [A0.q]; decide)).mono ?_⟩
  rintro e h4 ⟨C4, W4, k4, rfl⟩
  obtain ⟨w4, T4, A4, L4⟩ := left_whole F1 (S := List.replicate n zero512) (by simp) (by intro s hs; rw [List.eq_of_mem_replicate hs]; exact zero512_size) A0
  rw [w4]
  have hT4 : ∀ s ∈ T4, s.size = 512 := by rw [← A4.s]; exact W4.disk.ok.size
  have J4 := J.first F1 L4 hT4
  obtain ⟨c4, n4⟩ := k4.cell c2 nb1
  obtain ⟨d4, m4⟩ := k4.cell d2 nb0
  refine ⟨_, rfl, fun hf => (by simp at hf), fun _ => ?_⟩
  have hrn : ts.length = rn := by have := hrow.1; simpa using this
  refine ⟨fun l hq => ∃ (i : Nat) (C : Nat → Prop) (σ : DS) (S : List ByteArray) (K : Hd) (im : ByteArray), l = [.string im, vI i] ∧ i ≤ rn ∧ i ≤ 30 ∧ Wk NoB h C hq d σ ∧ Alive σ S [] 0 ∧ J n S K im ∧ hq[b1]? = some (.cells (hdV K).toArray 26) ∧ ¬ C b1 ∧
      hq[b0]? = some (.cells (lyV ((s : Int), (n : Int) - 2 - 2 * s)).toArray 24) ∧ ¬ C b0 ∧ K.ls = (s : Int) ∧ K.ll = (n : Int) - 2 - 2 * s ∧ K.gen ≤ 1 + i ∧ K.ep ≤ 1 + 1000 * i,
    fun l _ => (30 - numAt l 1).toNat, ⟨0, C4, _, T4, H, S1, rfl, Nat.zero_le _, Nat.zero_le _, W4, A4, J4, c4, n4, d4, m4, eH4, eH5, by omega, by omega⟩, ?_⟩
  rintro im iv hq ⟨i, C, σ, S, K, im', hl, hi, hi30, W, A, J0, ck, nk, cl, nl, e1, e2, e3, e4⟩
  cases hl
  refine ⟨fun l hq' => hq' = hq ∧ i < rn ∧ i < 30, ⟨decide (i < rn ∧ i < 30), ⟨fun h1 => ⟨rfl, ?_⟩, fun h1 => ⟨rfl, ?_⟩⟩, fun hB => ⟨rfl, of_decide_eq_true hB⟩, fun hB => ⟨rfl, W.same.toExt⟩⟩, ?_⟩
  · have h1 : (i : Int) < (rn : Int) := of_decide_eq_true h1
    apply decide_eq_decide.2; omega
  · have h1 : ¬ (i : Int) < (rn : Int) := of_decide_eq_false h1
    exact decide_eq_false fun h => h1 (by omega)
  rintro hq' ⟨rfl, hir, hi3⟩
  have hks := J0.F.b.2.2.2.2.2.1
  have hkg := J0.F.b.2.2.2.2.2.2
  have hrow' : SegS hq' rp rn 4 (ts.map trnV) := hrow.ext W.same.toExt
  obtain ⟨rb, ro, q1, q2, q3, q4⟩ := hrow'.at (i := i) (by simp; omega)
  obtain ⟨t, ht⟩ : ∃ t, ts[i]? = some t := ⟨_, List.getElem?_eq_getElem (by omega)⟩
  have hte : (ts.map trnV)[i]'(by simp; omega) = trnV t := by
    rw [List.getElem_map]
    congr 1
    rw [List.getElem?_eq_getElem (by omega)] at ht
    exact Option.some.inj ht
  rw [hte] at q4
  have tok := hts t (List.mem_of_getElem? ht)
  refine ⟨rb, ro, q1, q2, q3, _, _, _, _, _, _, q4, trn_new t fun b3 g1 hb3 y1 f1 => ?_⟩
  have ck1 := (y1.old b1 (Array.getElem?_eq_some_iff.1 ck).1).trans ck
  have cl1 := (y1.old b0 (Array.getElem?_eq_some_iff.1 cl).1).trans cl
  have W1 := W.ext y1
  have nb3 : ¬ C b3 := fun h => by have := W.disk.lt _ h; omega
  obtain ⟨av, hav⟩ : ∃ av, av = t.above % 1000 := ⟨_, rfl⟩
  have hav1 : av < 1000 := by rw [hav]; exact Nat.mod_lt _ (by decide)
  have htm : Int.tmod (t.above : Int) 1000 = (av : Int) := by rw [hav]; exact tmod_nat t.above 1000
  obtain ⟨G, hG⟩ : ∃ G : Hd, G = ⟨1 - K.slot, K.gen + 1, max av K.ep + 1, K.ls, K.ll⟩ := ⟨_, rfl⟩
  have hnext : nextF K av = (G, 0) := by
    unfold nextF
    rw [if_neg (by omega), if_neg (by omega), hG]
  have g1' : G.slot = 1 - K.slot := by rw [hG]
  have g2' : G.gen = K.gen + 1 := by rw [hG]
  have g3' : G.ep = max av K.ep + 1 := by rw [hG]
  have g4' : G.ls = (s : Int) := by rw [hG]; exact e1
  have g5' : G.ll = (n : Int) - 2 - 2 * s := by rw [hG]; exact e2
  refine ⟨_, _, _, _, _, cellsAt_all (vs := hdV K) ck1, (t.above : Int), cellsAt_one (cellH_at f1), by decide, (av : Int), htm, (next_c K av g1).mono ?_⟩
  rintro e g2 ⟨y2, rfl⟩
  rw [hnext]
  refine ⟨_, _, _, _, _, _, rfl, hd_new G fun b4 g3 hb4 y3 c43 => ?_⟩
  have y13 := y2.trans y3
  have ck3 := (y13.old b1 (Array.getElem?_eq_some_iff.1 ck1).1).trans ck1
  have cl3 := (y13.old b0 (Array.getElem?_eq_some_iff.1 cl1).1).trans cl1
  have f3 := (y13.old b3 (Array.getElem?_eq_some_iff.1 f1).1).trans f1
  have W3 := W1.ext y13
  have nb4 : ¬ C b4 := fun h => by have := W1.disk.lt _ h; have := y2.size; omega
  have lq1 := y1.size
  have lq2 := y2.size
  have b1lt := (Array.getElem?_eq_some_iff.1 ck).1
  refine ⟨fun l hq => hq = g3, ⟨false, ⟨fun hf => (by simp at hf), fun _ => ⟨_, cellsAt_one (cellH_at c43), _, cellsAt_one (cellH_at ck3), (1 - K.slot), wrapI64 (by omega) (by omega), fun hf => ?_, fun _ => ⟨_, cellsAt_one (cellH_at c43), _, cellsAt_one (cellH_at ck3), ((K.gen + 1 : Nat) : Int), by rw [wrapU64]; omega, fun hf => ?_, fun _ => ⟨_, cellsAt_one (cellH_at c43), _, cellsAt_one (cellH_at ck3), fun hf => ?_, fun _ => ⟨_, cellsAt_one (cellH_at c43), _, cellsAt_one (cellH_at f3), by decide, (av : Int), htm, fun hf => ?_, fun _ => ⟨G.ls, G.ll, hd_lay c43, _, _, cellsAt_all (vs := lyV ((s : Int), (n : Int) - 2 - 2 * s)) cl3, _, eqv_lay (G.ls, G.ll) ((s : Int), (n : Int) - 2 - 2 * s), rfl, ?_⟩⟩⟩⟩⟩⟩, fun hf => (by cases hf), fun _ => rfl⟩, ?_⟩
  · have hf := of_decide_eq_true hf; exact (hf g1').elim
  · have hf := of_decide_eq_true hf; exact (hf (by rw [g2'])).elim
  · have hf := of_decide_eq_true hf; rw [g3'] at hf; omega
  · have hf := of_decide_eq_true hf; rw [g3'] at hf; omega
  · rw [g4', g5']; simp
  rintro g3' rfl
  have hpl := pickN_lt t.len hs5
  obtain ⟨T, hT⟩ : ∃ T, T = longF (1 + pickN t.len (491 * s)) (i + 1) := ⟨_, rfl⟩
  have zT : T.size = 1 + pickN t.len (491 * s) := by rw [hT, longF_size]
  have FG : FitsH n G T := fitOf G T (by omega) (by omega) (by omega) (by omega) (by omega) g4' g5' (by omega) (by omega)
  have okG : G.Ok := okOf G (by omega) (by omega) (by omega) g4' g5'
  refine ⟨_, cellsAt_one (cellH_at f3), ((491 * s : Nat) : Int), by rw [wrapI64] <;> omega, (pick_c t.len (491 * s) hs5 tok.l0 tok.l1 _).mono ?_⟩
  rintro e g4 ⟨rfl, rfl⟩
  refine ⟨_, rfl, ((1 + pickN t.len (491 * s) : Nat) : Int), by rw [wrapI64] <;> omega, ((i + 1 : Nat) : Int), by rw [wrapI64] <;> omega, (long_c (1 + pickN t.len (491 * s)) (i + 1) (by omega) (by omega) _).mono ?_⟩
  rintro e g5 ⟨y5, rfl⟩
  rw [← hT]
  have W5 := W3.ext y5
  refine ⟨_, rfl, (image_c W5.disk).mono ?_⟩
  rintro e g6 ⟨y6, rfl⟩
  have W6 := W5.ext y6
  have y36 := y5.trans y6
  have ck6 := (y36.old b1 (Array.getElem?_eq_some_iff.1 ck3).1).trans ck3
  have cl6 := (y36.old b0 (Array.getElem?_eq_some_iff.1 cl3).1).trans cl3
  have f6 := (y36.old b3 (Array.getElem?_eq_some_iff.1 f3).1).trans f3
  have c46 := (y36.old b4 (Array.getElem?_eq_some_iff.1 c43).1).trans c43
  have hpc := pickN_lt t.cut (n := s + 5) (by omega)
  refine ⟨_, rfl, _, cellsAt_one (cellH_at f6), ((s + 5 : Nat) : Int), by rw [wrapI64] <;> omega, (pick_c t.cut (s + 5) (by omega) tok.c0 tok.c1 _).mono ?_⟩
  rintro e g6' ⟨rfl, rfl⟩
  refine ⟨_, rfl, (W6.cut (pickN t.cut (s + 5) : Int) (by omega)).mono ?_⟩
  rintro e g7 ⟨W7, k7, rfl⟩
  have A7 := A.cut (pickN t.cut (s + 5) : Int)
  obtain ⟨σ7, hσ7⟩ : ∃ σ7, σ7 = σ.cut (pickN t.cut (s + 5) : Int) := ⟨_, rfl⟩
  rw [← hσ7] at W7 A7
  obtain ⟨ck7, nk7⟩ := k7.cell ck6 nk
  obtain ⟨cl7, nl7⟩ := k7.cell cl6 nl
  obtain ⟨f7, nf7⟩ := k7.cell f6 nb3
  obtain ⟨c47, n47⟩ := k7.cell c46 nb4
  refine ⟨rfl, _, _, _, _, _, cellsAt_all (vs := hdV G) c47, (W7.write hh id okG T (by rw [A7.q]; decide)).mono ?_⟩
  rintro e g8 ⟨C8, W8, k8, rfl⟩
  obtain ⟨ck8, nk8⟩ := k8.cell ck7 nk7
  obtain ⟨cl8, nl8⟩ := k8.cell cl7 nl7
  obtain ⟨f8, nf8⟩ := k8.cell f7 nf7
  obtain ⟨c48, n48⟩ := k8.cell c47 n47
  have L8 := left_write FG J0.len J0.sz A7 t.fates
  obtain ⟨code, hcode⟩ : ∃ code, code = (writeC σ7 G T).2 := ⟨_, rfl⟩
  rw [← hcode] at L8 ⊢
  refine ⟨_, rfl, fun l hq => hq = g8, ⟨false, ⟨fun h1 => ⟨rfl, ?_⟩, fun h1 => ⟨rfl, rfl⟩⟩, fun hf => (by cases hf), fun _ => rfl⟩, ?_⟩
  · have h1 : code ≠ 0 := of_decide_eq_true h1
    rw [L8.cd.resolve_left h1]; rfl
  rintro g8' rfl
  have hsegf : SegS g8' t.p t.n 2 (t.fates.map fateV) := tok.f.ext W8.same.toExt
  refine ⟨_, _, _, cellsAt_one (cellH_at f8), (W8.crash t.fates hsegf fun b o hp h0 hc => ?_).mono ?_⟩
  · have hbl := tok.f.block (by decide) hp (by simpa using h0)
    rcases W8.sub b hc with hf | hf
    · exact hf
    · omega
  rintro e g9 ⟨W9, k9, rfl⟩
  have A9 := Alive.crash (writeC σ7 G T).1 t.fates
  obtain ⟨σ9, hσ9⟩ : ∃ σ9, σ9 = (writeC σ7 G T).1.crash t.fates := ⟨_, rfl⟩
  rw [← hσ9] at W9 A9 L8
  obtain ⟨S9, hS9⟩ : ∃ S9, S9 = σ9.safe := ⟨_, rfl⟩
  rw [← hS9] at A9 L8
  have hS9z : ∀ x ∈ S9, x.size = 512 := by rw [hS9]; exact W9.disk.ok.size
  have hstep := J0.step FG g1' (by rw [g4', e1]) (by omega) hS9z L8
  refine ⟨rfl, (W9.find hh id).mono ?_⟩
  rintro e g10 ⟨W10, k10, rfl⟩
  have A10 := A9.rds (find_rds σ9)
  have hk := k9.trans k10
  obtain ⟨ck10, nk10⟩ := hk.cell ck8 nk8
  obtain ⟨cl10, nl10⟩ := hk.cell cl8 nl8
  obtain ⟨c410, n410⟩ := hk.cell c48 n48
  have hfnd : ∃ (Q : Hd) (im2 : ByteArray), (findF σ9).2 = (Q, im2, 0) ∧ J n S9 Q im2 ∧ ((code = 40 ∧ Q = K ∧ im2 = im) ∨ (Q = G ∧ im2 = T)) := by
    rcases hstep with ⟨s1, s2, _⟩ | ⟨_, s2⟩
    · exact ⟨K, im, s2.find A9, s2, .inl ⟨s1, rfl, rfl⟩⟩
    · exact ⟨G, T, s2.find A9, s2, .inr ⟨rfl, rfl⟩⟩
  obtain ⟨Q, im2, hfq, JQ, hQ⟩ := hfnd
  rw [hfq]
  obtain ⟨σ10, hσ10⟩ : ∃ σ10, σ10 = (findF σ9).1 := ⟨_, rfl⟩
  rw [← hσ10] at W10 A10
  refine ⟨_, _, _, _, _, _, _, rfl, hd_new Q fun b5 g11 hb5 y11 c51 => ?_⟩
  have W11 := W10.ext y11
  have ck11 := (y11.old b1 (Array.getElem?_eq_some_iff.1 ck10).1).trans ck10
  have cl11 := (y11.old b0 (Array.getElem?_eq_some_iff.1 cl10).1).trans cl10
  have c411 := (y11.old b4 (Array.getElem?_eq_some_iff.1 c410).1).trans c410
  have lq10 := W10.same.size
  refine ⟨fun h' => h'[b4]? = some (.cells (hdV G).toArray 26), c411, (image_c W11.disk).mono ?_⟩
  rintro e g12 ⟨y12, rfl⟩
  have W12 := W11.ext y12
  have ck12 := (y12.old b1 (Array.getElem?_eq_some_iff.1 ck11).1).trans ck11
  have cl12 := (y12.old b0 (Array.getElem?_eq_some_iff.1 cl11).1).trans cl11
  have c412 := (y12.old b4 (Array.getElem?_eq_some_iff.1 c411).1).trans c411
  have c512 := (y12.old b5 (Array.getElem?_eq_some_iff.1 c51).1).trans c51
  have hgs : G.slot = 0 ∨ G.slot = 1 := by omega
  have hGs : 0 ≤ G.slot * (s : Int) ∧ G.slot * (s : Int) ≤ 4 := by rcases hgs with e | e <;> rw [e] <;> omega
  have eI1 : σ.image = imgL S := by rw [image_imgL, A.s]
  have eI2 : σ10.image = imgL S9 := by rw [image_imgL, A10.s]
  rw [eI1, eI2]
  obtain ⟨pl1, pl2, pl3, pl4⟩ := FG.pl
  have hplG : (plN G : Int) = 2 + G.slot * (s : Int) := by rw [← pl1]; unfold placeH; rw [g4']
  have hnum := FG.num
  have hgsl := FG.slot
  refine ⟨_, rfl, c412, _, fun h' c => cellsAt_one (cellH_at c), _, wrapI64 (by omega) (by omega), _, wrapI64 (by omega) (by omega), _, fun h' c => cellsAt_one (cellH_at c), _, wrapI64 (by omega) (by omega), _, wrapI64 (by omega) (by omega), _, wrapI64 (by omega) (by omega), _, fun h' c => cellsAt_one (cellH_at c),
    (same_c J0.sz hS9z L8.len (by rw [J0.len]; omega) _ _ _ (fun i hi h1 h2 => L8.off i (by omega) fun k hk => by omega) g12).mono ?_⟩
  rintro e g13 ⟨rfl, rfl⟩
  refine ⟨_, rfl, c412, fun l hq => hq = g13, ⟨false, ⟨fun hf => (by simp at hf), fun _ => ⟨rfl, rfl⟩⟩, fun hf => (by cases hf), fun _ => rfl⟩, ?_⟩
  rintro g14 rfl
  have hb4h : h.size ≤ b1 := hb1h
  have hne41 : b4 ≠ b1 := by omega
  rcases hQ with ⟨hc40, rfl, rfl⟩ | ⟨rfl, rfl⟩
  · have hneq : ¬ Q = G := fun h => by have := congrArg Hd.slot h; omega
    refine ⟨false, ⟨_, _, _, _, _, cellsAt_all (vs := hdV Q) c512, _, _, _, _, _, cellsAt_all (vs := hdV G) c412, _, eqv_hd Q G, fun hf => (hneq (of_decide_eq_true hf)).elim, fun _ => ⟨rfl, rfl⟩⟩, fun hf => (by cases hf), fun _ => ?_⟩
    refine ⟨false, ⟨_, _, _, _, _, cellsAt_all (vs := hdV Q) c512, _, _, _, _, _, cellsAt_all (vs := hdV Q) ck12, _, eqv_hd Q Q, fun hf => (by simp at hf), fun _ => ⟨fun hf => (by simp at hf), fun _ => ⟨rfl, by rw [hc40]; rfl⟩⟩⟩, fun hf => (by cases hf), fun _ => ?_⟩
    exact ⟨_, incI (by omega), ⟨i + 1, _, _, _, Q, im2, rfl, hir, hi3, W12, A10, JQ, ck12, nk10, cl12, nl10, e1, e2, by omega, by omega⟩, by simp only [numAt]; omega⟩
  · obtain ⟨w1, w2, w3, w4⟩ := W12.setHd ck12 hb1h nk10 Q
    refine ⟨true, ⟨_, _, _, _, _, cellsAt_all (vs := hdV Q) c512, _, _, _, _, _, cellsAt_all (vs := hdV Q) c412, _, eqv_hd Q Q, fun _ => ⟨rfl, by simp⟩, fun hf => (by simp at hf)⟩, fun _ => ⟨_, _, _, _, _, cellsAt_all (vs := hdV Q) c412, rfl, by simp [Value.oneCell'], w1, ?_⟩, fun hf => (by cases hf)⟩
    rintro g15 e15
    have e15 : g15 = setsH g14 b1 0 (hdV Q) := e15
    rw [← e15] at w2 w3 w4
    exact ⟨_, incI (by omega), ⟨i + 1, _, _, _, Q, im2, rfl, hir, hi3, w2, A10, JQ, w3, nk10, (w4 b0 (by omega)).trans cl12, nl10, g4', g5', by omega, by omega⟩, by simp only [numAt]; omega⟩

set_option maxHeartbeats 1000000 in
/-- turnoutlaw20.CkptCrash -/
theorem crash_law (size first : Int) (hs0 : -9223372036854775808 ≤ size) (hs1 : size ≤ 9223372036854775807) (hf0 : -9223372036854775808 ≤ first) (hf1 : first ≤ 9223372036854775807) (h : Hp) (hh : Halves h)
    {ts : List Trn} (hts : ∀ t ∈ ts, t.Ok h) {rp : Option Addr} {rn rc : Nat} (hrow : SegS h rp rn 4 (ts.map trnV)) :
    CallsH Tryd.prog 5 #[vZ size, vZ first, .slice rp rn rc] h (RetX (.bool true) h) := by
  refine V5 _ _ _ _ _ h _ ((awake_c h hh).mono ?_)
  rintro e h1 ⟨x1, rfl⟩
  refine ⟨_, rfl, (pick_c size 4 (by decide) hs0 hs1 h1).mono ?_⟩
  rintro e h1' ⟨rfl, rfl⟩
  have p8 := pickN_lt size (n := 4) (by decide)
  have p2 := pickN_lt first (n := 2) (by decide)
  obtain ⟨s, hs⟩ : ∃ s, s = 1 + pickN size 4 := ⟨_, rfl⟩
  refine ⟨_, rfl, (s : Int), by rw [wrapI64] <;> omega, ((2 * s : Nat) : Int), by rw [wrapI64] <;> omega, ((3 + 2 * s : Nat) : Int), by rw [wrapI64] <;> omega, (new_c ((3 + 2 * s : Nat) : Int)).mono ?_⟩
  rintro e h2 (⟨hbad, rfl, rfl⟩ | ⟨_, _, d, F, rfl⟩)
  · omega
  rw [Int.toNat_natCast] at F
  have W2 := (Wk.fresh F)
  obtain ⟨C, hC⟩ : ∃ C : Nat → Prop, C = fun b => h1'.size ≤ b ∧ b < h2.size := ⟨_, rfl⟩
  rw [← hC] at W2
  have W2' : Wk NoB h C h2 d (DS.new (3 + 2 * s)) := ⟨(x1.same NoB).trans W2.same fun _ h _ => h, W2.disk, fun b hb => .inr (by rw [hC] at hb; have := x1.size; omega)⟩
  refine ⟨_, _, rfl, (layout_c ((3 + 2 * s : Nat) : Int) (s : Int) (by omega) h2).mono ?_⟩
  rintro e h3 ⟨x3, rfl⟩
  rw [(right_of (n := 3 + 2 * s) (s := s) (slot := 0) (gen := 1) (ep := 1) (by omega) (by omega) (by omega) (.inl rfl) (by omega) (by omega)).1]
  refine ⟨_, _, _, rfl, ly_new ((s : Int), ((3 + 2 * s : Nat) : Int) - 2 - 2 * s) fun b h4 hb x4 c4 => ?_⟩
  have W4 := W2'.ext (x3.trans x4)
  have l4 := W4.same.size
  have l2 := W2'.same.size
  have l3 := x3.size
  have l4' := x4.size
  refine ⟨fun l hq => hq = h4, ⟨false, ⟨fun hf => (by simp at hf), fun _ => ⟨false, eqv_ptr uPD _, fun hf => (by cases hf), fun _ => ⟨fun hf => (by simp at hf), fun _ => ⟨rfl, by simp⟩⟩⟩⟩, fun hf => (by cases hf), fun _ => rfl⟩, ?_⟩
  rintro h5 rfl
  have hslot : (pickN first 2 : Int) = 0 ∨ (pickN first 2 : Int) = 1 := by omega
  have lb := (Array.getElem?_eq_some_iff.1 c4).1
  have nb : ¬ C b := fun hc => by rw [hC] at hc; omega
  refine ⟨⟨fun h' => h'[b]? = some (.cells (lyV ((s : Int), ((3 + 2 * s : Nat) : Int) - 2 - 2 * s)).toArray 24), c4, (pick_c first 2 (by decide) hf0 hf1 h5).mono ?_⟩, ⟨fun h' => h'[b]? = some (.cells (lyV ((s : Int), ((3 + 2 * s : Nat) : Int) - 2 - 2 * s)).toArray 24), c4, ?_⟩⟩
  · rintro e h6 ⟨rfl, rfl⟩
    refine ⟨_, rfl, c4, _, _, fun h' c => cellsAt_all (vs := lyV ((s : Int), ((3 + 2 * s : Nat) : Int) - 2 - 2 * s)) c, ?_⟩
    intro b1 h7 hb1 e7
    have x7 : Ext h6 h7 := by rw [e7]; exact Ext.push _ _
    have c7 : h7[b1]? = some (.cells (hdV Hd.no).toArray 26) := by rw [e7, hb1, zerosHead]; exact push_last
    clear e7
    have d7 := (x7.old b lb).trans c4
    obtain ⟨q1, q2, q3, q4⟩ := hd_set c7 ⟨pickN first 2, 1, 1, s, ((3 + 2 * s : Nat) : Int) - 2 - 2 * s⟩
    refine ⟨infoHead, d7, q1, q2, q3, ?_⟩
    intro h8 e8
    have x8 : Ext h6 h8 := by rw [e8]; exact x7.over (setsH_same (B := fun x => x = b1) rfl) fun x hx => by omega
    have d8 := (x8.old b lb).trans c4
    refine ⟨d8, ?_⟩
    exact crash_tail hh hf0 hf1 (by omega) (by omega) hslot hts hrow (W4.ext x8) d8 nb (by rw [e8]; exact q4) (fun hc => by rw [hC] at hc; omega) (by omega) (by omega)
  · intro b1 h7 hb1 e7
    have x7 : Ext h5 h7 := by rw [e7]; exact Ext.push _ _
    have c7 : h7[b1]? = some (.cells (hdV Hd.no).toArray 26) := by rw [e7, hb1, zerosHead]; exact push_last
    clear e7
    have d7 := (x7.old b lb).trans c4
    refine ⟨infoHead, d7, (pick_c first 2 (by decide) hf0 hf1 h7).mono ?_⟩
    rintro e h6 ⟨rfl, rfl⟩
    obtain ⟨q1, q2, q3, q4⟩ := hd_set c7 ⟨pickN first 2, 1, 1, s, ((3 + 2 * s : Nat) : Int) - 2 - 2 * s⟩
    refine ⟨_, rfl, d7, _, _, fun h' c => cellsAt_all (vs := lyV ((s : Int), ((3 + 2 * s : Nat) : Int) - 2 - 2 * s)) c, q1, q2, q3, ?_⟩
    intro h8 e8
    have x8 : Ext h5 h8 := by rw [e8]; exact x7.over (setsH_same (B := fun x => x = b1) rfl) fun x hx => by omega
    have d8 := (x8.old b lb).trans c4
    refine ⟨d8, ?_⟩
    exact crash_tail hh hf0 hf1 (by omega) (by omega) hslot hts hrow (W4.ext x8) d8 nb (by rw [e8]; exact q4) (fun hc => by rw [hC] at hc; omega) (by omega) (by omega)

end Go.Vc
