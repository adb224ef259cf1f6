import Derived.Test.YtlidgpojlgochaaGreatDoorVcL
import Derived.Test.YtlidgpojlgochaaGreatDoorProg
set_option maxRecDepth 10000
namespace Go.Vc
open Go Go.Proofs
set_option maxRecDepth 100000
theorem fine : Fine Tryz.prog := fine_of (by kernel_rfl) (by kernel_rfl)
/-- turnout/turnoutlaw20.CkptPlays -/
def A3 : Ann := (.seq .nil (.seq .nil (.seq .nil (.seq .nil (.seq (.seq .nil (.block (.loop [(7, .slice), (8, (.int .i64))] (.seq (.seq .nil (.cond .nil .nil)) (.seq (.block (.seq .nil (.seq .nil (.cut (.seq (.join 45) (.cond (.seq .nil .nil) .nil)) [] .nil)))) .nil))))) (.seq (.seq .nil (.block (.loop [(13, (.int .i64))] (.seq (.seq .nil (.cond .nil .nil)) (.seq (.block (.seq .nil (.seq .nil (.seq (.seq .nil (.cond (.seq .nil .nil) .nil)) (.seq .nil (.seq .nil (.seq (.join 88) (.cond (.seq .nil .nil) .nil)))))))) .nil))))) (.seq .nil (.seq .nil (.seq .nil .nil)))))))))
theorem V3 (sectors_ : Int) (scriptp_ : Option Addr) (scriptn_ scriptc_ : Nat) (h : Hp) (R : Ending → Hp → Prop) (H :
  CallsH Tryz.prog 4 #[] h fun en_ hp_ =>
  ∃ x18_ : Bool, en_ = .returned (Value.bool x18_) ∧
  CallsH Tryz.prog 5 #[(Value.int .i64 sectors_), (Value.int .i64 (14 : Int))] hp_ fun en_1 hp_1 =>
  ∃ x20_ : Int, en_1 = .returned (Value.int .i64 x20_) ∧
  ∃ x21_, IntKind.i64.wrap ((1 : Int) + x20_) = x21_ ∧
  ∃ (Iv_ : List Value → Hp → Prop) (m_ : List Value → Hp → Nat), Iv_ [(Value.slice none 0 0), (Value.int .i64 (0 : Int))] hp_1 ∧
  (∀ (lp_ : Option Addr) (ln_ lc_ : Nat) (k_ : Int) hp_2, Iv_ [(Value.slice lp_ ln_ lc_), (Value.int .i64 k_)] hp_2 →
   (((decide (k_ < (2 : Int))) = true →
     CallsH Tryz.prog 6 #[(Value.int .i64 x21_)] hp_2 fun en_2 hp_3 =>
     ∃ x28r0_ : Option Addr, ∃ x28r1_ : Int, en_2 = .returned (Value.tuple #[(Value.pointer x28r0_), (Value.int .i64 x28r1_)]) ∧
     CallsH Tryz.prog 7 #[(Value.int .i64 x21_)] hp_3 fun en_3 hp_4 =>
     ∃ x33r0_ : Option Addr, ∃ x33r1_ : Int, en_3 = .returned (Value.tuple #[(Value.pointer x33r0_), (Value.int .i64 x33r1_)]) ∧
     ∃ Jv_ : List Value → Hp → Prop,
     (∃ B_ : Bool, ((((!x18_) = true →
         hp_4 = hp_4 ∧ B_ = true) ∧
        ((!x18_) = false →
         ∃ x40_, EqV Tryz.prog 26 (Value.pointer x28r0_) (Value.pointer none) x40_ ∧
         ((x40_ = true →
           hp_4 = hp_4 ∧ B_ = true) ∧
          (x40_ = false →
           hp_4 = hp_4 ∧ B_ = (decide (x28r1_ ≠ (0 : Int)))))))) ∧
      ((B_ = true →
        R (.returned (Value.bool false)) hp_4) ∧
       (B_ = false →
        Jv_ [] hp_4))) ∧
     (∀  hp_5, Jv_ [] hp_5 →
      SemH Tryz.prog (Instr.buildSlice 25 1 #[(0, (Value.agg #[(Value.pointer x28r0_), (Value.pointer x33r0_)]))]) hp_5 fun v_ hp_6 =>
      ∃ (x50p_ : Option Addr) (x50n_ x50c_ : Nat), v_ = (Value.slice x50p_ x50n_ x50c_) ∧
      SemH Tryz.prog (Builtin.append_ #[25, 25] 25 #[(Value.slice lp_ ln_ lc_), (Value.slice x50p_ x50n_ x50c_)]) hp_6 fun v_1 hp_7 =>
      ∃ (x51p_ : Option Addr) (x51n_ x51c_ : Nat), v_1 = (Value.slice x51p_ x51n_ x51c_) ∧
      ∃ x25_, IntKind.i64.wrap (k_ + (1 : Int)) = x25_ ∧
      (Iv_ [(Value.slice x51p_ x51n_ x51c_), (Value.int .i64 x25_)] hp_7 ∧ m_ [(Value.slice x51p_ x51n_ x51c_), (Value.int .i64 x25_)] hp_7 < m_ [(Value.slice lp_ ln_ lc_), (Value.int .i64 k_)] hp_2))) ∧
    ((decide (k_ < (2 : Int))) = false →
     ∃ (Iv_1 : List Value → Hp → Prop) (m_1 : List Value → Hp → Nat), Iv_1 [(Value.int .i64 (0 : Int))] hp_2 ∧
     (∀ (i_ : Int) hp_8, Iv_1 [(Value.int .i64 i_)] hp_8 →
      (((decide (i_ < ((scriptn_ : Nat) : Int))) = true →
        ∃ b_ o_, scriptp_ = some ⟨b_, o_, none⟩ ∧ 0 ≤ i_ ∧ i_ < (scriptn_ : Int) ∧
        ∃ x63_ : Int, cellsAt hp_8 b_ ((o_ + Int.toNat i_ * 10) + 1) [(Value.int .i64 x63_)] ∧
        CallsH Tryz.prog 5 #[(Value.int .i64 x63_), (Value.int .i64 (2 : Int))] hp_8 fun en_4 hp_9 =>
        ∃ x64_ : Int, en_4 = .returned (Value.int .i64 x64_) ∧
        ∃ b_1 o_1, lp_ = some ⟨b_1, o_1, none⟩ ∧ 0 ≤ x64_ ∧ x64_ < (ln_ : Int) ∧
        ∃ x66f0_ : Option Addr, ∃ x66f1_ : Option Addr, cellsAt hp_9 b_1 (o_1 + Int.toNat x64_ * 2) [(Value.pointer x66f0_), (Value.pointer x66f1_)] ∧
        ∀ b_2 hp_10, b_2 = Array.size hp_9 → hp_10 = Array.push hp_9 (.cells (zeros Tryz.prog 34) 34) → (∃ i z, Tryz.prog.info? 34 = some i ∧ i.zero = some z) ∧
        List.length [(Value.pointer x66f0_), (Value.pointer x66f1_)] = 2 ∧ (∀ c ∈ [(Value.pointer x66f0_), (Value.pointer x66f1_)], c.oneCell' = true) ∧ wrAt hp_10 b_2 0 2 ∧ ∀ hp_11, hp_11 = setsH hp_10 b_2 0 [(Value.pointer x66f0_), (Value.pointer x66f1_)] →
        ∃ x67f0_ : Option Addr, ∃ x67f1_ : Option Addr, cellsAt hp_11 b_2 0 [(Value.pointer x67f0_), (Value.pointer x67f1_)] ∧
        ∃ b_3 o_2, scriptp_ = some ⟨b_3, o_2, none⟩ ∧ 0 ≤ i_ ∧ i_ < (scriptn_ : Int) ∧
        ∃ x71f0_ : Int, ∃ x71f1_ : Int, ∃ x71f2_ : Int, ∃ x71f3_ : Int, ∃ x71f4_ : Int, ∃ x71f5_ : Int, ∃ x71f6_ : Int, ∃ x71f7_ : Int, ∃ x71f8_ : ByteArray, ∃ (x71f9p_ : Option Addr) (x71f9n_ x71f9c_ : Nat), cellsAt hp_11 b_3 (o_2 + Int.toNat i_ * 10) [(Value.int .i64 x71f0_), (Value.int .i64 x71f1_), (Value.int .i64 x71f2_), (Value.int .i64 x71f3_), (Value.int .u64 x71f4_), (Value.int .u64 x71f5_), (Value.int .i64 x71f6_), (Value.int .i64 x71f7_), (Value.string x71f8_), (Value.slice x71f9p_ x71f9n_ x71f9c_)] ∧
        CallsH Tryz.prog 8 #[(Value.agg #[(Value.pointer x67f0_), (Value.pointer x67f1_)]), (Value.agg #[(Value.int .i64 x71f0_), (Value.int .i64 x71f1_), (Value.int .i64 x71f2_), (Value.int .i64 x71f3_), (Value.int .u64 x71f4_), (Value.int .u64 x71f5_), (Value.int .i64 x71f6_), (Value.int .i64 x71f7_), (Value.string x71f8_), (Value.slice x71f9p_ x71f9n_ x71f9c_)])] hp_11 fun en_5 hp_12 =>
        ∃ x72_ : Bool, en_5 = .returned (Value.bool x72_) ∧
        (((!x72_) = true →
          R (.returned (Value.bool false)) hp_12) ∧
         ((!x72_) = false →
          ∃ b_4 o_3, lp_ = some ⟨b_4, o_3, none⟩ ∧ 0 ≤ (0 : Int) ∧ (0 : Int) < (ln_ : Int) ∧
          ∃ x77f0_ : Option Addr, ∃ x77f1_ : Option Addr, cellsAt hp_12 b_4 (o_3 + Int.toNat (0 : Int) * 2) [(Value.pointer x77f0_), (Value.pointer x77f1_)] ∧
          CallsH Tryz.prog 9 #[(Value.agg #[(Value.pointer x77f0_), (Value.pointer x77f1_)])] hp_12 fun en_6 hp_13 =>
          ∃ x78_ : Bool, en_6 = .returned (Value.bool x78_) ∧
          ∃ b_5 o_4, lp_ = some ⟨b_5, o_4, none⟩ ∧ 0 ≤ (1 : Int) ∧ (1 : Int) < (ln_ : Int) ∧
          ∃ x81f0_ : Option Addr, ∃ x81f1_ : Option Addr, cellsAt hp_13 b_5 (o_4 + Int.toNat (1 : Int) * 2) [(Value.pointer x81f0_), (Value.pointer x81f1_)] ∧
          CallsH Tryz.prog 9 #[(Value.agg #[(Value.pointer x81f0_), (Value.pointer x81f1_)])] hp_13 fun en_7 hp_14 =>
          ∃ x82_ : Bool, en_7 = .returned (Value.bool x82_) ∧
          ∃ B_1 : Bool, ((((!x78_) = true →
             hp_14 = hp_14 ∧ B_1 = true) ∧
            ((!x78_) = false →
             hp_14 = hp_14 ∧ B_1 = (!x82_)))) ∧
          ((B_1 = true →
            R (.returned (Value.bool false)) hp_14) ∧
           (B_1 = false →
            ∃ x57_, IntKind.i64.wrap (i_ + (1 : Int)) = x57_ ∧
            (Iv_1 [(Value.int .i64 x57_)] hp_14 ∧ m_1 [(Value.int .i64 x57_)] hp_14 < m_1 [(Value.int .i64 i_)] hp_8)))))) ∧
       ((decide (i_ < ((scriptn_ : Nat) : Int))) = false →
        ∃ b_6 o_5, lp_ = some ⟨b_6, o_5, none⟩ ∧ 0 ≤ (0 : Int) ∧ (0 : Int) < (ln_ : Int) ∧
        ∃ x92_ : Option Addr, cellsAt hp_8 b_6 ((o_5 + Int.toNat (0 : Int) * 2) + 0) [(Value.pointer x92_)] ∧
        CallsH Tryz.prog 10 #[(Value.pointer x92_), (Value.slice none 0 0)] hp_8 fun en_8 hp_15 =>
        en_8 = .returned (Value.tuple #[]) ∧
        ∃ b_7 o_6, lp_ = some ⟨b_7, o_6, none⟩ ∧ 0 ≤ (0 : Int) ∧ (0 : Int) < (ln_ : Int) ∧
        ∃ x97_ : Option Addr, cellsAt hp_15 b_7 ((o_6 + Int.toNat (0 : Int) * 2) + 1) [(Value.pointer x97_)] ∧
        CallsH Tryz.prog 11 #[(Value.pointer x97_), (Value.slice none 0 0)] hp_15 fun en_9 hp_16 =>
        en_9 = .returned (Value.tuple #[]) ∧
        ∃ b_8 o_7, lp_ = some ⟨b_8, o_7, none⟩ ∧ 0 ≤ (0 : Int) ∧ (0 : Int) < (ln_ : Int) ∧
        ∃ x101f0_ : Option Addr, ∃ x101f1_ : Option Addr, cellsAt hp_16 b_8 (o_7 + Int.toNat (0 : Int) * 2) [(Value.pointer x101f0_), (Value.pointer x101f1_)] ∧
        CallsH Tryz.prog 12 #[(Value.agg #[(Value.pointer x101f0_), (Value.pointer x101f1_)])] hp_16 fun en_10 hp_17 =>
        ∃ x102_ : Bool, en_10 = .returned (Value.bool x102_) ∧
        R (.returned (Value.bool x102_)) hp_17))))))) :
  CallsH Tryz.prog 3 #[(Value.int .i64 sectors_), (Value.slice scriptp_ scriptn_ scriptc_)] h R := calls_vc fine false Tryz.func3 (ann := A3) (args := [(Value.int .i64 sectors_), (Value.slice scriptp_ scriptn_ scriptc_)]) (by kernel_rfl) (Eq.mpr (by kernel_rfl) H)
/-- turnout/turnoutlaw20.awake -/
def A4 : Ann := (.seq .nil (.seq .nil (.seq .nil (.cut (.seq (.join 35) (.cond (.seq .nil .nil) .nil)) [] (.seq .nil (.seq (.drawLast [1]) (.seq .nil (.seq .nil (.seq .nil (.seq .nil (.seq .nil (.seq .nil .nil))))))))))))
theorem V4  (h : Hp) (R : Ending → Hp → Prop) (H :
  CallsH Tryz.prog 6 #[(Value.int .i64 (10 : Int))] h fun en_ hp_ =>
  ∃ x14r0_ : Option Addr, ∃ x14r1_ : Int, en_ = .returned (Value.tuple #[(Value.pointer x14r0_), (Value.int .i64 x14r1_)]) ∧
  CallsH Tryz.prog 13 #[(Value.int .i64 (10 : Int)), (Value.int .i64 (2 : Int))] hp_ fun en_1 hp_1 =>
  ∃ x18r0f0_ : Int, ∃ x18r0f1_ : Int, ∃ x18r1_ : Int, en_1 = .returned (Value.tuple #[(Value.agg #[(Value.int .i64 x18r0f0_), (Value.int .i64 x18r0f1_)]), (Value.int .i64 x18r1_)]) ∧
  ∀ b_ hp_2, b_ = Array.size hp_1 → hp_2 = Array.push hp_1 (.cells (zeros Tryz.prog 37) 37) → (∃ i z, Tryz.prog.info? 37 = some i ∧ i.zero = some z) ∧
  List.length [(Value.int .i64 x18r0f0_), (Value.int .i64 x18r0f1_)] = 2 ∧ (∀ c ∈ [(Value.int .i64 x18r0f0_), (Value.int .i64 x18r0f1_)], c.oneCell' = true) ∧ wrAt hp_2 b_ 0 2 ∧ ∀ hp_3, hp_3 = setsH hp_2 b_ 0 [(Value.int .i64 x18r0f0_), (Value.int .i64 x18r0f1_)] →
  ∃ Jv_ : List Value → Hp → Prop,
  (∃ B_ : Bool, (∃ x22_, EqV Tryz.prog 26 (Value.pointer x14r0_) (Value.pointer none) x22_ ∧
    ((x22_ = true →
      hp_3 = hp_3 ∧ B_ = true) ∧
     (x22_ = false →
      (((decide (x14r1_ ≠ (0 : Int))) = true →
        hp_3 = hp_3 ∧ B_ = true) ∧
       ((decide (x14r1_ ≠ (0 : Int))) = false →
        (((decide (x18r1_ ≠ (0 : Int))) = true →
          hp_3 = hp_3 ∧ B_ = true) ∧
         ((decide (x18r1_ ≠ (0 : Int))) = false →
          ∃ x32f0_ : Int, ∃ x32f1_ : Int, cellsAt hp_3 b_ 0 [(Value.int .i64 x32f0_), (Value.int .i64 x32f1_)] ∧
          ∃ x34_, EqV Tryz.prog 37 (Value.agg #[(Value.int .i64 x32f0_), (Value.int .i64 x32f1_)]) (Value.agg #[(Value.int .i64 (2 : Int)), (Value.int .i64 (4 : Int))]) x34_ ∧
          hp_3 = hp_3 ∧ B_ = (!x34_)))))))) ∧
   ((B_ = true →
     R (.returned (Value.bool false)) hp_3) ∧
    (B_ = false →
     Jv_ [] hp_3))) ∧
  (∀  hp_4, Jv_ [] hp_4 →
   ∃ x36f0_ : Int, ∃ x36f1_ : Int, cellsAt hp_4 b_ 0 [(Value.int .i64 x36f0_), (Value.int .i64 x36f1_)] ∧
   ∀ b_1 hp_5, b_1 = Array.size hp_4 → hp_5 = Array.push hp_4 (.cells (zeros Tryz.prog 39) 39) → (∃ i z, Tryz.prog.info? 39 = some i ∧ i.zero = some z) ∧
   List.length [(Value.int .i64 (0 : Int)), (Value.int .u64 (1 : Int)), (Value.int .u64 (1 : Int)), (Value.int .i64 x36f0_), (Value.int .i64 x36f1_)] = 5 ∧ (∀ c ∈ [(Value.int .i64 (0 : Int)), (Value.int .u64 (1 : Int)), (Value.int .u64 (1 : Int)), (Value.int .i64 x36f0_), (Value.int .i64 x36f1_)], c.oneCell' = true) ∧ wrAt hp_5 b_1 0 5 ∧ ∀ hp_6, hp_6 = setsH hp_5 b_1 0 [(Value.int .i64 (0 : Int)), (Value.int .u64 (1 : Int)), (Value.int .u64 (1 : Int)), (Value.int .i64 x36f0_), (Value.int .i64 x36f1_)] →
   ∃ Cv_ : Hp → Prop, Cv_ hp_6 ∧
   ∃ x39f0_ : Int, ∃ x39f1_ : Int, ∃ x39f2_ : Int, ∃ x39f3_ : Int, ∃ x39f4_ : Int, (∀ h', Cv_ h' → cellsAt h' b_1 0 [(Value.int .i64 x39f0_), (Value.int .u64 x39f1_), (Value.int .u64 x39f2_), (Value.int .i64 x39f3_), (Value.int .i64 x39f4_)]) ∧
   CallsH Tryz.prog 15 #[(Value.int .i64 (500 : Int)), (Value.int .i64 (1 : Int))] hp_6 fun en_2 hp_7 =>
   ∃ x40_ : ByteArray, en_2 = .returned (Value.string x40_) ∧
   Cv_ hp_7 ∧
   CallsH Tryz.prog 14 #[(Value.pointer x14r0_), (Value.agg #[(Value.int .i64 x39f0_), (Value.int .u64 x39f1_), (Value.int .u64 x39f2_), (Value.int .i64 x39f3_), (Value.int .i64 x39f4_)]), (Value.string x40_)] hp_7 fun en_3 hp_8 =>
   ∃ x41_ : Int, en_3 = .returned (Value.int .i64 x41_) ∧
   Cv_ hp_8 ∧
   CallsH Tryz.prog 16 #[(Value.pointer x14r0_), (Value.int .i64 (3 : Int))] hp_8 fun en_4 hp_9 =>
   en_4 = .returned (Value.tuple #[]) ∧
   ∃ x45f0_ : Int, ∃ x45f1_ : Int, ∃ x45f2_ : Int, ∃ x45f3_ : Int, ∃ x45f4_ : Int, cellsAt hp_9 b_1 0 [(Value.int .i64 x45f0_), (Value.int .u64 x45f1_), (Value.int .u64 x45f2_), (Value.int .i64 x45f3_), (Value.int .i64 x45f4_)] ∧
   CallsH Tryz.prog 17 #[(Value.agg #[(Value.int .i64 x45f0_), (Value.int .u64 x45f1_), (Value.int .u64 x45f2_), (Value.int .i64 x45f3_), (Value.int .i64 x45f4_)]), (Value.int .u64 (0 : Int))] hp_9 fun en_5 hp_10 =>
   ∃ x46r0f0_ : Int, ∃ x46r0f1_ : Int, ∃ x46r0f2_ : Int, ∃ x46r0f3_ : Int, ∃ x46r0f4_ : Int, ∃ x46r1_ : Int, en_5 = .returned (Value.tuple #[(Value.agg #[(Value.int .i64 x46r0f0_), (Value.int .u64 x46r0f1_), (Value.int .u64 x46r0f2_), (Value.int .i64 x46r0f3_), (Value.int .i64 x46r0f4_)]), (Value.int .i64 x46r1_)]) ∧
   ∀ b_2 hp_11, b_2 = Array.size hp_10 → hp_11 = Array.push hp_10 (.cells (zeros Tryz.prog 39) 39) → (∃ i z, Tryz.prog.info? 39 = some i ∧ i.zero = some z) ∧
   List.length [(Value.int .i64 x46r0f0_), (Value.int .u64 x46r0f1_), (Value.int .u64 x46r0f2_), (Value.int .i64 x46r0f3_), (Value.int .i64 x46r0f4_)] = 5 ∧ (∀ c ∈ [(Value.int .i64 x46r0f0_), (Value.int .u64 x46r0f1_), (Value.int .u64 x46r0f2_), (Value.int .i64 x46r0f3_), (Value.int .i64 x46r0f4_)], c.oneCell' = true) ∧ wrAt hp_11 b_2 0 5 ∧ ∀ hp_12, hp_12 = setsH hp_11 b_2 0 [(Value.int .i64 x46r0f0_), (Value.int .u64 x46r0f1_), (Value.int .u64 x46r0f2_), (Value.int .i64 x46r0f3_), (Value.int .i64 x46r0f4_)] →
   ∃ x50f0_ : Int, ∃ x50f1_ : Int, ∃ x50f2_ : Int, ∃ x50f3_ : Int, ∃ x50f4_ : Int, cellsAt hp_12 b_2 0 [(Value.int .i64 x50f0_), (Value.int .u64 x50f1_), (Value.int .u64 x50f2_), (Value.int .i64 x50f3_), (Value.int .i64 x50f4_)] ∧
   CallsH Tryz.prog 14 #[(Value.pointer x14r0_), (Value.agg #[(Value.int .i64 x50f0_), (Value.int .u64 x50f1_), (Value.int .u64 x50f2_), (Value.int .i64 x50f3_), (Value.int .i64 x50f4_)]), (Value.string (⟨#[120]⟩ : ByteArray))] hp_12 fun en_6 hp_13 =>
   ∃ x51_ : Int, en_6 = .returned (Value.int .i64 x51_) ∧
   CallsH Tryz.prog 10 #[(Value.pointer x14r0_), (Value.slice none 0 0)] hp_13 fun en_7 hp_14 =>
   en_7 = .returned (Value.tuple #[]) ∧
   CallsH Tryz.prog 18 #[(Value.pointer x14r0_)] hp_14 fun en_8 hp_15 =>
   ∃ x56r0f0_ : Int, ∃ x56r0f1_ : Int, ∃ x56r0f2_ : Int, ∃ x56r0f3_ : Int, ∃ x56r0f4_ : Int, ∃ x56r1_ : ByteArray, ∃ x56r2_ : Int, en_8 = .returned (Value.tuple #[(Value.agg #[(Value.int .i64 x56r0f0_), (Value.int .u64 x56r0f1_), (Value.int .u64 x56r0f2_), (Value.int .i64 x56r0f3_), (Value.int .i64 x56r0f4_)]), (Value.string x56r1_), (Value.int .i64 x56r2_)]) ∧
   ∀ b_3 hp_16, b_3 = Array.size hp_15 → hp_16 = Array.push hp_15 (.cells (zeros Tryz.prog 39) 39) → (∃ i z, Tryz.prog.info? 39 = some i ∧ i.zero = some z) ∧
   List.length [(Value.int .i64 x56r0f0_), (Value.int .u64 x56r0f1_), (Value.int .u64 x56r0f2_), (Value.int .i64 x56r0f3_), (Value.int .i64 x56r0f4_)] = 5 ∧ (∀ c ∈ [(Value.int .i64 x56r0f0_), (Value.int .u64 x56r0f1_), (Value.int .u64 x56r0f2_), (Value.int .i64 x56r0f3_), (Value.int .i64 x56r0f4_)], c.oneCell' = true) ∧ wrAt hp_16 b_3 0 5 ∧ ∀ hp_17, hp_17 = setsH hp_16 b_3 0 [(Value.int .i64 x56r0f0_), (Value.int .u64 x56r0f1_), (Value.int .u64 x56r0f2_), (Value.int .i64 x56r0f3_), (Value.int .i64 x56r0f4_)] →
   (((decide (x41_ = (0 : Int))) = true →
     (((decide (x46r1_ = (0 : Int))) = true →
       ∃ x67f0_ : Int, ∃ x67f1_ : Int, ∃ x67f2_ : Int, ∃ x67f3_ : Int, ∃ x67f4_ : Int, cellsAt hp_17 b_2 0 [(Value.int .i64 x67f0_), (Value.int .u64 x67f1_), (Value.int .u64 x67f2_), (Value.int .i64 x67f3_), (Value.int .i64 x67f4_)] ∧
       ∃ x68f0_ : Int, ∃ x68f1_ : Int, cellsAt hp_17 b_ 0 [(Value.int .i64 x68f0_), (Value.int .i64 x68f1_)] ∧
       ∃ x70_, EqV Tryz.prog 39 (Value.agg #[(Value.int .i64 x67f0_), (Value.int .u64 x67f1_), (Value.int .u64 x67f2_), (Value.int .i64 x67f3_), (Value.int .i64 x67f4_)]) (Value.agg #[(Value.int .i64 (1 : Int)), (Value.int .u64 (2 : Int)), (Value.int .u64 (2 : Int)), (Value.int .i64 x68f0_), (Value.int .i64 x68f1_)]) x70_ ∧
       ((x70_ = true →
         (((decide (x51_ = (40 : Int))) = true →
           (((decide (x56r2_ = (0 : Int))) = true →
             ∃ x81f0_ : Int, ∃ x81f1_ : Int, ∃ x81f2_ : Int, ∃ x81f3_ : Int, ∃ x81f4_ : Int, cellsAt hp_17 b_3 0 [(Value.int .i64 x81f0_), (Value.int .u64 x81f1_), (Value.int .u64 x81f2_), (Value.int .i64 x81f3_), (Value.int .i64 x81f4_)] ∧
             ∃ x82f0_ : Int, ∃ x82f1_ : Int, ∃ x82f2_ : Int, ∃ x82f3_ : Int, ∃ x82f4_ : Int, cellsAt hp_17 b_1 0 [(Value.int .i64 x82f0_), (Value.int .u64 x82f1_), (Value.int .u64 x82f2_), (Value.int .i64 x82f3_), (Value.int .i64 x82f4_)] ∧
             ∃ x83_, EqV Tryz.prog 39 (Value.agg #[(Value.int .i64 x81f0_), (Value.int .u64 x81f1_), (Value.int .u64 x81f2_), (Value.int .i64 x81f3_), (Value.int .i64 x81f4_)]) (Value.agg #[(Value.int .i64 x82f0_), (Value.int .u64 x82f1_), (Value.int .u64 x82f2_), (Value.int .i64 x82f3_), (Value.int .i64 x82f4_)]) x83_ ∧
             ((x83_ = true →
               CallsH Tryz.prog 15 #[(Value.int .i64 (500 : Int)), (Value.int .i64 (1 : Int))] hp_17 fun en_9 hp_18 =>
               ∃ x87_ : ByteArray, en_9 = .returned (Value.string x87_) ∧
               R (.returned (Value.bool (decide (x56r1_ = x87_)))) hp_18) ∧
              (x83_ = false →
               R (.returned (Value.bool false)) hp_17))) ∧
            ((decide (x56r2_ = (0 : Int))) = false →
             R (.returned (Value.bool false)) hp_17))) ∧
          ((decide (x51_ = (40 : Int))) = false →
           R (.returned (Value.bool false)) hp_17))) ∧
        (x70_ = false →
         R (.returned (Value.bool false)) hp_17))) ∧
      ((decide (x46r1_ = (0 : Int))) = false →
       R (.returned (Value.bool false)) hp_17))) ∧
    ((decide (x41_ = (0 : Int))) = false →
     R (.returned (Value.bool false)) hp_17)))) :
  CallsH Tryz.prog 4 #[] h R := calls_vc fine false Tryz.func4 (ann := A4) (args := []) (by kernel_rfl) (Eq.mpr (by kernel_rfl) H)
/-- turnout/turnoutlaw20.pick -/
def A5 : Ann := (.seq .nil (.seq (.seq .nil (.cond .nil .nil)) (.seq .nil .nil)))
theorem V5 (c_ : Int) (n_ : Int) (h : Hp) (R : Ending → Hp → Prop) (H :
  (((decide (c_ < (0 : Int))) = true →
    ∃ x8_, IntKind.i64.wrap (c_ + (1 : Int)) = x8_ ∧
    ∃ x9_, IntKind.i64.wrap (0 - x8_) = x9_ ∧
    n_ ≠ 0 ∧ ∃ x12_, Int.tmod x9_ n_ = x12_ ∧
    R (.returned (Value.int .i64 x12_)) h) ∧
   ((decide (c_ < (0 : Int))) = false →
    n_ ≠ 0 ∧ ∃ x12_1, Int.tmod c_ n_ = x12_1 ∧
    R (.returned (Value.int .i64 x12_1)) h))) :
  CallsH Tryz.prog 5 #[(Value.int .i64 c_), (Value.int .i64 n_)] h R := calls_vc fine false Tryz.func5 (ann := A5) (args := [(Value.int .i64 c_), (Value.int .i64 n_)]) (by kernel_rfl) (Eq.mpr (by kernel_rfl) H)
/-- turnout/disk.New -/
def A6 : Ann := (.seq .nil (.cut (.seq (.join 12) (.cond (.seq .nil .nil) .nil)) [] (.seq .nil (.seq .nil (.seq (.seq .nil (.block (.loop [(25, (.int .i64))] (.seq .nil (.seq (.cond .nil .nil) (.seq (.block (.seq .nil .nil)) .nil)))))) (.seq .nil .nil))))))
theorem V6 (sectors_ : Int) (h : Hp) (R : Ending → Hp → Prop) (H :
  ∃ Jv_ : List Value → Hp → Prop,
  (∃ B_ : Bool, ((((decide (sectors_ < (1 : Int))) = true →
      h = h ∧ B_ = true) ∧
     ((decide (sectors_ < (1 : Int))) = false →
      h = h ∧ B_ = (decide ((4096 : Int) < sectors_))))) ∧
   ((B_ = true →
     R (.returned (Value.tuple #[(Value.pointer none), (Value.int .i64 (1 : Int))])) h) ∧
    (B_ = false →
     Jv_ [] h))) ∧
  (∀  hp_, Jv_ [] hp_ →
   SemH Tryz.prog (Instr.makeSlice 56 (Value.int .i64 (512 : Int)) (Value.int .i64 (512 : Int))) hp_ fun v_ hp_1 =>
   ∃ (x13p_ : Option Addr) (x13n_ x13c_ : Nat), v_ = (Value.slice x13p_ x13n_ x13c_) ∧
   SemH Tryz.prog (convert 56 9 (Value.slice x13p_ x13n_ x13c_)) hp_1 fun v_1 hp_2 =>
   ∃ x14_ : ByteArray, v_1 = (Value.string x14_) ∧
   SemH Tryz.prog (Instr.makeSlice 57 (Value.int .i64 sectors_) (Value.int .i64 sectors_)) hp_2 fun v_2 hp_3 =>
   ∃ (x16p_ : Option Addr) (x16n_ x16c_ : Nat), v_2 = (Value.slice x16p_ x16n_ x16c_) ∧
   ∀ r_ hp_4, r_ = Array.size hp_3 → hp_4 = Array.push hp_3 (.map #[] 0) →
   ∀ b_ hp_5, b_ = Array.size hp_4 → hp_5 = Array.push hp_4 (.cells #[(Value.slice x16p_ x16n_ x16c_), (Value.map (some r_)), (Value.slice none 0 0), (Value.slice none 0 0), (Value.bool false), (Value.int .i64 (0 : Int)), (Value.int .i64 (0 : Int)), (Value.int .i64 (0 : Int)), (Value.int .i64 (0 : Int))] 64) →
   ∃ (x23p_ : Option Addr) (x23n_ x23c_ : Nat), cellsAt hp_5 b_ (0 + 0) [(Value.slice x23p_ x23n_ x23c_)] ∧
   ∃ (Iv_ : List Value → Hp → Prop) (m_ : List Value → Hp → Nat), Iv_ [(Value.int .i64 (0 : Int))] hp_5 ∧
   (∀ (x25_ : Int) hp_6, Iv_ [(Value.int .i64 x25_)] hp_6 →
    (((decide (x25_ < ((x23n_ : Nat) : Int))) = true →
      ∃ (x31p_ : Option Addr) (x31n_ x31c_ : Nat), cellsAt hp_6 b_ (0 + 0) [(Value.slice x31p_ x31n_ x31c_)] ∧
      ∃ b_1 o_, x31p_ = some ⟨b_1, o_, none⟩ ∧ 0 ≤ x25_ ∧ x25_ < (x31n_ : Int) ∧
      Value.oneCell' (Value.string x14_) = true ∧ wrAt hp_6 b_1 (o_ + Int.toNat x25_ * 1) 1 ∧ ∀ hp_7, hp_7 = setsH hp_6 b_1 (o_ + Int.toNat x25_ * 1) [(Value.string x14_)] →
      ∃ x35_, IntKind.i64.wrap (x25_ + (1 : Int)) = x35_ ∧
      (Iv_ [(Value.int .i64 x35_)] hp_7 ∧ m_ [(Value.int .i64 x35_)] hp_7 < m_ [(Value.int .i64 x25_)] hp_6)) ∧
     ((decide (x25_ < ((x23n_ : Nat) : Int))) = false →
      R (.returned (Value.tuple #[(Value.pointer (some ⟨b_, 0, none⟩)), (Value.int .i64 (0 : Int))])) hp_6))))) :
  CallsH Tryz.prog 6 #[(Value.int .i64 sectors_)] h R := calls_vc fine false Tryz.func6 (ann := A6) (args := [(Value.int .i64 sectors_)]) (by kernel_rfl) (Eq.mpr (by kernel_rfl) H)
/-- turnout/turnoutref04.New -/
def A7 : Ann := (.seq .nil (.cut (.seq (.join 11) (.cond (.seq .nil .nil) .nil)) [] (.seq .nil (.seq (.seq .nil (.block (.loop [(5, (.int .i64))] (.seq (.seq .nil (.cond .nil .nil)) (.seq (.block (.drawLast [4])) .nil))))) (.seq .nil .nil)))))
theorem V7 (sectors_ : Int) (h : Hp) (R : Ending → Hp → Prop) (H :
  ∃ Jv_ : List Value → Hp → Prop,
  (∃ B_ : Bool, ((((decide (sectors_ < (1 : Int))) = true →
      h = h ∧ B_ = true) ∧
     ((decide (sectors_ < (1 : Int))) = false →
      h = h ∧ B_ = (decide ((4096 : Int) < sectors_))))) ∧
   ((B_ = true →
     R (.returned (Value.tuple #[(Value.pointer none), (Value.int .i64 (1 : Int))])) h) ∧
    (B_ = false →
     Jv_ [] h))) ∧
  (∀  hp_, Jv_ [] hp_ →
   ∀ b_ hp_1, b_ = Array.size hp_ → hp_1 = Array.push hp_ (.cells #[(Value.slice none 0 0), (Value.slice none 0 0), (Value.bool false), (Value.int .i64 (0 : Int)), (Value.int .i64 (0 : Int)), (Value.int .i64 (0 : Int)), (Value.int .i64 (0 : Int))] 67) →
   ∃ (Iv_ : List Value → Hp → Prop) (m_ : List Value → Hp → Nat), Iv_ [(Value.int .i64 (0 : Int))] hp_1 ∧
   (∀ (i_ : Int) hp_2, Iv_ [(Value.int .i64 i_)] hp_2 →
    (((decide (i_ < sectors_)) = true →
      ∃ Cv_ : Hp → Prop, Cv_ hp_2 ∧
      ∃ (x23p_ : Option Addr) (x23n_ x23c_ : Nat), (∀ h', Cv_ h' → cellsAt h' b_ (0 + 0) [(Value.slice x23p_ x23n_ x23c_)]) ∧
      CallsH Tryz.prog 19 #[] hp_2 fun en_ hp_3 =>
      ∃ x24_ : ByteArray, en_ = .returned (Value.string x24_) ∧
      Cv_ hp_3 ∧
      SemH Tryz.prog (Instr.buildSlice 57 1 #[(0, (Value.string x24_))]) hp_3 fun v_ hp_4 =>
      ∃ (x25p_ : Option Addr) (x25n_ x25c_ : Nat), v_ = (Value.slice x25p_ x25n_ x25c_) ∧
      Cv_ hp_4 ∧
      SemH Tryz.prog (Builtin.append_ #[57, 57] 57 #[(Value.slice x23p_ x23n_ x23c_), (Value.slice x25p_ x25n_ x25c_)]) hp_4 fun v_1 hp_5 =>
      ∃ (x26p_ : Option Addr) (x26n_ x26c_ : Nat), v_1 = (Value.slice x26p_ x26n_ x26c_) ∧
      Cv_ hp_5 ∧
      Value.oneCell' (Value.slice x26p_ x26n_ x26c_) = true ∧ wrAt hp_5 b_ (0 + 0) 1 ∧ ∀ hp_6, hp_6 = setsH hp_5 b_ (0 + 0) [(Value.slice x26p_ x26n_ x26c_)] →
      ∃ x18_, IntKind.i64.wrap (i_ + (1 : Int)) = x18_ ∧
      (Iv_ [(Value.int .i64 x18_)] hp_6 ∧ m_ [(Value.int .i64 x18_)] hp_6 < m_ [(Value.int .i64 i_)] hp_2)) ∧
     ((decide (i_ < sectors_)) = false →
      R (.returned (Value.tuple #[(Value.pointer (some ⟨b_, 0, none⟩)), (Value.int .i64 (0 : Int))])) hp_2))))) :
  CallsH Tryz.prog 7 #[(Value.int .i64 sectors_)] h R := calls_vc fine false Tryz.func7 (ann := A7) (args := [(Value.int .i64 sectors_)]) (by kernel_rfl) (Eq.mpr (by kernel_rfl) H)
/-- (turnout/turnoutlaw20.pair).play -/
def A8 : Ann := (.seq .nil (.seq (.seq .nil (.block (.seq .nil (.cond (.seq .nil .nil) (.seq .nil (.cond (.seq .nil (.seq .nil .nil)) (.seq .nil (.cond (.seq .nil .nil) (.seq .nil (.cond (.seq .nil .nil) (.seq .nil (.cond (.seq .nil .nil) (.seq .nil (.cond (.seq .nil .nil) (.seq .nil (.cond (.seq .nil .nil) (.seq .nil (.cond (.seq (.drawLast [4]) .nil) .nil)))))))))))))))))) (.seq .nil .nil)))
theorem V8 (pf0_ : Option Addr) (pf1_ : Option Addr) (of0_ : Int) (of1_ : Int) (of2_ : Int) (of3_ : Int) (of4_ : Int) (of5_ : Int) (of6_ : Int) (of7_ : Int) (of8_ : ByteArray) (of9p_ : Option Addr) (of9n_ of9c_ : Nat) (h : Hp) (R : Ending → Hp → Prop) (H :
  ∀ b_ hp_, b_ = Array.size h → hp_ = Array.push h (.cells #[(Value.pointer pf0_), (Value.pointer pf1_)] 34) →
  ∀ b_1 hp_1, b_1 = Array.size hp_ → hp_1 = Array.push hp_ (.cells #[(Value.int .i64 of0_), (Value.int .i64 of1_), (Value.int .i64 of2_), (Value.int .i64 of3_), (Value.int .u64 of4_), (Value.int .u64 of5_), (Value.int .i64 of6_), (Value.int .i64 of7_), (Value.string of8_), (Value.slice of9p_ of9n_ of9c_)] 42) →
  ∃ x8_ : Int, cellsAt hp_1 b_1 (0 + 0) [(Value.int .i64 x8_)] ∧
  (((decide (x8_ = (1 : Int))) = true →
    ∃ x11f0_ : Option Addr, ∃ x11f1_ : Option Addr, cellsAt hp_1 b_ 0 [(Value.pointer x11f0_), (Value.pointer x11f1_)] ∧
    ∃ x13f0_ : Int, ∃ x13f1_ : Int, ∃ x13f2_ : Int, ∃ x13f3_ : Int, ∃ x13f4_ : Int, cellsAt hp_1 b_1 (0 + 3) [(Value.int .i64 x13f0_), (Value.int .u64 x13f1_), (Value.int .u64 x13f2_), (Value.int .i64 x13f3_), (Value.int .i64 x13f4_)] ∧
    ∃ x15_ : ByteArray, cellsAt hp_1 b_1 (0 + 8) [(Value.string x15_)] ∧
    CallsH Tryz.prog 20 #[(Value.agg #[(Value.pointer x11f0_), (Value.pointer x11f1_)]), (Value.agg #[(Value.int .i64 x13f0_), (Value.int .u64 x13f1_), (Value.int .u64 x13f2_), (Value.int .i64 x13f3_), (Value.int .i64 x13f4_)]), (Value.string x15_)] hp_1 fun en_ hp_2 =>
    ∃ x16_ : Bool, en_ = .returned (Value.bool x16_) ∧
    R (.returned (Value.bool x16_)) hp_2) ∧
   ((decide (x8_ = (1 : Int))) = false →
    (((decide (x8_ = (2 : Int))) = true →
      ∃ x20f0_ : Option Addr, ∃ x20f1_ : Option Addr, cellsAt hp_1 b_ 0 [(Value.pointer x20f0_), (Value.pointer x20f1_)] ∧
      ∃ x21f0_ : Int, ∃ x21f1_ : Int, ∃ x21f2_ : Int, ∃ x21f3_ : Int, ∃ x21f4_ : Int, ∃ x21f5_ : Int, ∃ x21f6_ : Int, ∃ x21f7_ : Int, ∃ x21f8_ : ByteArray, ∃ (x21f9p_ : Option Addr) (x21f9n_ x21f9c_ : Nat), cellsAt hp_1 b_1 0 [(Value.int .i64 x21f0_), (Value.int .i64 x21f1_), (Value.int .i64 x21f2_), (Value.int .i64 x21f3_), (Value.int .u64 x21f4_), (Value.int .u64 x21f5_), (Value.int .i64 x21f6_), (Value.int .i64 x21f7_), (Value.string x21f8_), (Value.slice x21f9p_ x21f9n_ x21f9c_)] ∧
      CallsH Tryz.prog 21 #[(Value.agg #[(Value.pointer x20f0_), (Value.pointer x20f1_)]), (Value.agg #[(Value.int .i64 x21f0_), (Value.int .i64 x21f1_), (Value.int .i64 x21f2_), (Value.int .i64 x21f3_), (Value.int .u64 x21f4_), (Value.int .u64 x21f5_), (Value.int .i64 x21f6_), (Value.int .i64 x21f7_), (Value.string x21f8_), (Value.slice x21f9p_ x21f9n_ x21f9c_)])] hp_1 fun en_1 hp_3 =>
      ∃ x22r0f0_ : Int, ∃ x22r0f1_ : Int, ∃ x22r0f2_ : Int, ∃ x22r0f3_ : Int, ∃ x22r0f4_ : Int, ∃ x22r1_ : ByteArray, en_1 = .returned (Value.tuple #[(Value.agg #[(Value.int .i64 x22r0f0_), (Value.int .u64 x22r0f1_), (Value.int .u64 x22r0f2_), (Value.int .i64 x22r0f3_), (Value.int .i64 x22r0f4_)]), (Value.string x22r1_)]) ∧
      ∀ b_2 hp_4, b_2 = Array.size hp_3 → hp_4 = Array.push hp_3 (.cells (zeros Tryz.prog 39) 39) → (∃ i z, Tryz.prog.info? 39 = some i ∧ i.zero = some z) ∧
      List.length [(Value.int .i64 x22r0f0_), (Value.int .u64 x22r0f1_), (Value.int .u64 x22r0f2_), (Value.int .i64 x22r0f3_), (Value.int .i64 x22r0f4_)] = 5 ∧ (∀ c ∈ [(Value.int .i64 x22r0f0_), (Value.int .u64 x22r0f1_), (Value.int .u64 x22r0f2_), (Value.int .i64 x22r0f3_), (Value.int .i64 x22r0f4_)], c.oneCell' = true) ∧ wrAt hp_4 b_2 0 5 ∧ ∀ hp_5, hp_5 = setsH hp_4 b_2 0 [(Value.int .i64 x22r0f0_), (Value.int .u64 x22r0f1_), (Value.int .u64 x22r0f2_), (Value.int .i64 x22r0f3_), (Value.int .i64 x22r0f4_)] →
      ∃ x25f0_ : Option Addr, ∃ x25f1_ : Option Addr, cellsAt hp_5 b_ 0 [(Value.pointer x25f0_), (Value.pointer x25f1_)] ∧
      ∃ x26f0_ : Int, ∃ x26f1_ : Int, ∃ x26f2_ : Int, ∃ x26f3_ : Int, ∃ x26f4_ : Int, cellsAt hp_5 b_2 0 [(Value.int .i64 x26f0_), (Value.int .u64 x26f1_), (Value.int .u64 x26f2_), (Value.int .i64 x26f3_), (Value.int .i64 x26f4_)] ∧
      CallsH Tryz.prog 20 #[(Value.agg #[(Value.pointer x25f0_), (Value.pointer x25f1_)]), (Value.agg #[(Value.int .i64 x26f0_), (Value.int .u64 x26f1_), (Value.int .u64 x26f2_), (Value.int .i64 x26f3_), (Value.int .i64 x26f4_)]), (Value.string x22r1_)] hp_5 fun en_2 hp_6 =>
      ∃ x28_ : Bool, en_2 = .returned (Value.bool x28_) ∧
      R (.returned (Value.bool x28_)) hp_6) ∧
     ((decide (x8_ = (2 : Int))) = false →
      (((decide (x8_ = (3 : Int))) = true →
        ∃ x31f0_ : Option Addr, ∃ x31f1_ : Option Addr, cellsAt hp_1 b_ 0 [(Value.pointer x31f0_), (Value.pointer x31f1_)] ∧
        ∃ x33_ : ByteArray, cellsAt hp_1 b_1 (0 + 8) [(Value.string x33_)] ∧
        CallsH Tryz.prog 22 #[(Value.agg #[(Value.pointer x31f0_), (Value.pointer x31f1_)]), (Value.string x33_)] hp_1 fun en_3 hp_7 =>
        ∃ x34_ : Bool, en_3 = .returned (Value.bool x34_) ∧
        R (.returned (Value.bool x34_)) hp_7) ∧
       ((decide (x8_ = (3 : Int))) = false →
        (((decide (x8_ = (4 : Int))) = true →
          ∃ x37f0_ : Option Addr, ∃ x37f1_ : Option Addr, cellsAt hp_1 b_ 0 [(Value.pointer x37f0_), (Value.pointer x37f1_)] ∧
          CallsH Tryz.prog 12 #[(Value.agg #[(Value.pointer x37f0_), (Value.pointer x37f1_)])] hp_1 fun en_4 hp_8 =>
          ∃ x38_ : Bool, en_4 = .returned (Value.bool x38_) ∧
          R (.returned (Value.bool x38_)) hp_8) ∧
         ((decide (x8_ = (4 : Int))) = false →
          (((decide (x8_ = (5 : Int))) = true →
            ∃ x42_ : Option Addr, cellsAt hp_1 b_ (0 + 0) [(Value.pointer x42_)] ∧
            ∃ x44_ : Int, cellsAt hp_1 b_1 (0 + 2) [(Value.int .i64 x44_)] ∧
            CallsH Tryz.prog 16 #[(Value.pointer x42_), (Value.int .i64 x44_)] hp_1 fun en_5 hp_9 =>
            en_5 = .returned (Value.tuple #[]) ∧
            ∃ x47_ : Option Addr, cellsAt hp_9 b_ (0 + 1) [(Value.pointer x47_)] ∧
            ∃ x49_ : Int, cellsAt hp_9 b_1 (0 + 2) [(Value.int .i64 x49_)] ∧
            CallsH Tryz.prog 23 #[(Value.pointer x47_), (Value.int .i64 x49_)] hp_9 fun en_6 hp_10 =>
            en_6 = .returned (Value.tuple #[]) ∧
            R (.returned (Value.bool true)) hp_10) ∧
           ((decide (x8_ = (5 : Int))) = false →
            (((decide (x8_ = (6 : Int))) = true →
              ∃ x54_ : Option Addr, cellsAt hp_1 b_ (0 + 0) [(Value.pointer x54_)] ∧
              ∃ (x56p_ : Option Addr) (x56n_ x56c_ : Nat), cellsAt hp_1 b_1 (0 + 9) [(Value.slice x56p_ x56n_ x56c_)] ∧
              CallsH Tryz.prog 10 #[(Value.pointer x54_), (Value.slice x56p_ x56n_ x56c_)] hp_1 fun en_7 hp_11 =>
              en_7 = .returned (Value.tuple #[]) ∧
              ∃ x59_ : Option Addr, cellsAt hp_11 b_ (0 + 1) [(Value.pointer x59_)] ∧
              ∃ (x61p_ : Option Addr) (x61n_ x61c_ : Nat), cellsAt hp_11 b_1 (0 + 9) [(Value.slice x61p_ x61n_ x61c_)] ∧
              CallsH Tryz.prog 11 #[(Value.pointer x59_), (Value.slice x61p_ x61n_ x61c_)] hp_11 fun en_8 hp_12 =>
              en_8 = .returned (Value.tuple #[]) ∧
              R (.returned (Value.bool true)) hp_12) ∧
             ((decide (x8_ = (6 : Int))) = false →
              (((decide (x8_ = (7 : Int))) = true →
                ∃ x65f0_ : Option Addr, ∃ x65f1_ : Option Addr, cellsAt hp_1 b_ 0 [(Value.pointer x65f0_), (Value.pointer x65f1_)] ∧
                ∃ x66f0_ : Int, ∃ x66f1_ : Int, ∃ x66f2_ : Int, ∃ x66f3_ : Int, ∃ x66f4_ : Int, ∃ x66f5_ : Int, ∃ x66f6_ : Int, ∃ x66f7_ : Int, ∃ x66f8_ : ByteArray, ∃ (x66f9p_ : Option Addr) (x66f9n_ x66f9c_ : Nat), cellsAt hp_1 b_1 0 [(Value.int .i64 x66f0_), (Value.int .i64 x66f1_), (Value.int .i64 x66f2_), (Value.int .i64 x66f3_), (Value.int .u64 x66f4_), (Value.int .u64 x66f5_), (Value.int .i64 x66f6_), (Value.int .i64 x66f7_), (Value.string x66f8_), (Value.slice x66f9p_ x66f9n_ x66f9c_)] ∧
                CallsH Tryz.prog 24 #[(Value.agg #[(Value.pointer x65f0_), (Value.pointer x65f1_)]), (Value.agg #[(Value.int .i64 x66f0_), (Value.int .i64 x66f1_), (Value.int .i64 x66f2_), (Value.int .i64 x66f3_), (Value.int .u64 x66f4_), (Value.int .u64 x66f5_), (Value.int .i64 x66f6_), (Value.int .i64 x66f7_), (Value.string x66f8_), (Value.slice x66f9p_ x66f9n_ x66f9c_)])] hp_1 fun en_9 hp_13 =>
                ∃ x67_ : Bool, en_9 = .returned (Value.bool x67_) ∧
                R (.returned (Value.bool x67_)) hp_13) ∧
               ((decide (x8_ = (7 : Int))) = false →
                (((decide (x8_ = (8 : Int))) = true →
                  ∃ Cv_ : Hp → Prop, Cv_ hp_1 ∧
                  ∃ x71_ : Option Addr, cellsAt hp_1 b_ (0 + 0) [(Value.pointer x71_)] ∧
                  CallsH Tryz.prog 25 #[(Value.pointer x71_)] hp_1 fun en_10 hp_14 =>
                  ∃ x72_ : Int, en_10 = .returned (Value.int .i64 x72_) ∧
                  Cv_ hp_14 ∧
                  ∃ x74_ : Option Addr, (∀ h', Cv_ h' → cellsAt h' b_ (0 + 1) [(Value.pointer x74_)]) ∧
                  CallsH Tryz.prog 26 #[(Value.pointer x74_)] hp_14 fun en_11 hp_15 =>
                  ∃ x75_ : Int, en_11 = .returned (Value.int .i64 x75_) ∧
                  Cv_ hp_15 ∧
                  R (.returned (Value.bool (decide (x72_ = x75_)))) hp_15) ∧
                 ((decide (x8_ = (8 : Int))) = false →
                  R (.returned (Value.bool true)) hp_1))))))))))))))))) :
  CallsH Tryz.prog 8 #[(Value.agg #[(Value.pointer pf0_), (Value.pointer pf1_)]), (Value.agg #[(Value.int .i64 of0_), (Value.int .i64 of1_), (Value.int .i64 of2_), (Value.int .i64 of3_), (Value.int .u64 of4_), (Value.int .u64 of5_), (Value.int .i64 of6_), (Value.int .i64 of7_), (Value.string of8_), (Value.slice of9p_ of9n_ of9c_)])] h R := calls_vc fine false Tryz.func8 (ann := A8) (args := [(Value.agg #[(Value.pointer pf0_), (Value.pointer pf1_)]), (Value.agg #[(Value.int .i64 of0_), (Value.int .i64 of1_), (Value.int .i64 of2_), (Value.int .i64 of3_), (Value.int .u64 of4_), (Value.int .u64 of5_), (Value.int .i64 of6_), (Value.int .i64 of7_), (Value.string of8_), (Value.slice of9p_ of9n_ of9c_)])]) (by kernel_rfl) (Eq.mpr (by kernel_rfl) H)
/-- (turnout/turnoutlaw20.pair).lies -/
def A9 : Ann := (.seq .nil (.seq .nil (.seq .nil (.seq .nil (.seq .nil (.cut (.seq (.drawLast [10, 33]) (.cond (.seq .nil .nil) .nil)) [] (.seq (.seq .nil (.block (.loop [(7, (.int .i64))] (.seq (.seq .nil (.cond .nil .nil)) (.seq (.block (.seq .nil (.cond (.seq .nil .nil) .nil))) .nil))))) (.seq .nil .nil))))))))
theorem V9 (pf0_ : Option Addr) (pf1_ : Option Addr) (h : Hp) (R : Ending → Hp → Prop) (H :
  ∀ b_ hp_, b_ = Array.size h → hp_ = Array.push h (.cells #[(Value.pointer pf0_), (Value.pointer pf1_)] 34) →
  ∃ x9_ : Option Addr, cellsAt hp_ b_ (0 + 0) [(Value.pointer x9_)] ∧
  CallsH Tryz.prog 27 #[(Value.pointer x9_)] hp_ fun en_ hp_1 =>
  ∃ (x10p_ : Option Addr) (x10n_ x10c_ : Nat), en_ = .returned (Value.slice x10p_ x10n_ x10c_) ∧
  ∃ x12_ : Option Addr, cellsAt hp_1 b_ (0 + 1) [(Value.pointer x12_)] ∧
  CallsH Tryz.prog 28 #[(Value.pointer x12_)] hp_1 fun en_1 hp_2 =>
  ∃ (x13p_ : Option Addr) (x13n_ x13c_ : Nat), en_1 = .returned (Value.slice x13p_ x13n_ x13c_) ∧
  ∃ x15_ : Option Addr, cellsAt hp_2 b_ (0 + 0) [(Value.pointer x15_)] ∧
  CallsH Tryz.prog 29 #[(Value.pointer x15_)] hp_2 fun en_2 hp_3 =>
  ∃ x16f0_ : Int, ∃ x16f1_ : Int, ∃ x16f2_ : Int, en_2 = .returned (Value.agg #[(Value.int .i64 x16f0_), (Value.int .i64 x16f1_), (Value.int .i64 x16f2_)]) ∧
  ∀ b_1 hp_4, b_1 = Array.size hp_3 → hp_4 = Array.push hp_3 (.cells (zeros Tryz.prog 62) 62) → (∃ i z, Tryz.prog.info? 62 = some i ∧ i.zero = some z) ∧
  List.length [(Value.int .i64 x16f0_), (Value.int .i64 x16f1_), (Value.int .i64 x16f2_)] = 3 ∧ (∀ c ∈ [(Value.int .i64 x16f0_), (Value.int .i64 x16f1_), (Value.int .i64 x16f2_)], c.oneCell' = true) ∧ wrAt hp_4 b_1 0 3 ∧ ∀ hp_5, hp_5 = setsH hp_4 b_1 0 [(Value.int .i64 x16f0_), (Value.int .i64 x16f1_), (Value.int .i64 x16f2_)] →
  ∃ x18_ : Option Addr, cellsAt hp_5 b_ (0 + 1) [(Value.pointer x18_)] ∧
  CallsH Tryz.prog 30 #[(Value.pointer x18_)] hp_5 fun en_3 hp_6 =>
  ∃ x19f0_ : Int, ∃ x19f1_ : Int, ∃ x19f2_ : Int, en_3 = .returned (Value.agg #[(Value.int .i64 x19f0_), (Value.int .i64 x19f1_), (Value.int .i64 x19f2_)]) ∧
  ∀ b_2 hp_7, b_2 = Array.size hp_6 → hp_7 = Array.push hp_6 (.cells (zeros Tryz.prog 62) 62) → (∃ i z, Tryz.prog.info? 62 = some i ∧ i.zero = some z) ∧
  List.length [(Value.int .i64 x19f0_), (Value.int .i64 x19f1_), (Value.int .i64 x19f2_)] = 3 ∧ (∀ c ∈ [(Value.int .i64 x19f0_), (Value.int .i64 x19f1_), (Value.int .i64 x19f2_)], c.oneCell' = true) ∧ wrAt hp_7 b_2 0 3 ∧ ∀ hp_8, hp_8 = setsH hp_7 b_2 0 [(Value.int .i64 x19f0_), (Value.int .i64 x19f1_), (Value.int .i64 x19f2_)] →
  ∃ Jv_ : List Value → Hp → Prop,
  (∃ Cv_ : Hp → Prop, Cv_ hp_8 ∧
   (((decide (((x10n_ : Nat) : Int) ≠ ((x13n_ : Nat) : Int))) = true →
     R (.returned (Value.bool false)) hp_8) ∧
    ((decide (((x10n_ : Nat) : Int) ≠ ((x13n_ : Nat) : Int))) = false →
     ∃ x27_ : Option Addr, cellsAt hp_8 b_ (0 + 0) [(Value.pointer x27_)] ∧
     CallsH Tryz.prog 31 #[(Value.pointer x27_)] hp_8 fun en_4 hp_9 =>
     ∃ x28_ : ByteArray, en_4 = .returned (Value.string x28_) ∧
     Cv_ hp_9 ∧
     ∃ x30_ : Option Addr, (∀ h', Cv_ h' → cellsAt h' b_ (0 + 1) [(Value.pointer x30_)]) ∧
     CallsH Tryz.prog 32 #[(Value.pointer x30_)] hp_9 fun en_5 hp_10 =>
     ∃ x31_ : ByteArray, en_5 = .returned (Value.string x31_) ∧
     Cv_ hp_10 ∧
     (((decide (x28_ ≠ x31_)) = true →
       R (.returned (Value.bool false)) hp_10) ∧
      ((decide (x28_ ≠ x31_)) = false →
       ∃ x36_ : Int, cellsAt hp_10 b_1 (0 + 1) [(Value.int .i64 x36_)] ∧
       ∃ x38_ : Int, cellsAt hp_10 b_2 (0 + 1) [(Value.int .i64 x38_)] ∧
       (((decide (x36_ ≠ x38_)) = true →
         R (.returned (Value.bool false)) hp_10) ∧
        ((decide (x36_ ≠ x38_)) = false →
         ∃ x43_ : Int, cellsAt hp_10 b_1 (0 + 2) [(Value.int .i64 x43_)] ∧
         ∃ x45_ : Int, cellsAt hp_10 b_2 (0 + 2) [(Value.int .i64 x45_)] ∧
         (((decide (x43_ ≠ x45_)) = true →
           R (.returned (Value.bool false)) hp_10) ∧
          ((decide (x43_ ≠ x45_)) = false →
           ∃ x50_ : Option Addr, cellsAt hp_10 b_ (0 + 0) [(Value.pointer x50_)] ∧
           CallsH Tryz.prog 33 #[(Value.pointer x50_)] hp_10 fun en_6 hp_11 =>
           ∃ x51_ : Bool, en_6 = .returned (Value.bool x51_) ∧
           Cv_ hp_11 ∧
           ∃ x53_ : Option Addr, (∀ h', Cv_ h' → cellsAt h' b_ (0 + 1) [(Value.pointer x53_)]) ∧
           CallsH Tryz.prog 34 #[(Value.pointer x53_)] hp_11 fun en_7 hp_12 =>
           ∃ x54_ : Bool, en_7 = .returned (Value.bool x54_) ∧
           Cv_ hp_12 ∧
           ∃ x55_, EqV Tryz.prog 4 (Value.bool x51_) (Value.bool x54_) x55_ ∧
           (((!x55_) = true →
             R (.returned (Value.bool false)) hp_12) ∧
            ((!x55_) = false →
             Jv_ [] hp_12))))))))))) ∧
  (∀  hp_13, Jv_ [] hp_13 →
   ∃ (Iv_ : List Value → Hp → Prop) (m_ : List Value → Hp → Nat), Iv_ [(Value.int .i64 (0 : Int))] hp_13 ∧
   (∀ (i_ : Int) hp_14, Iv_ [(Value.int .i64 i_)] hp_14 →
    (((decide (i_ < ((x10n_ : Nat) : Int))) = true →
      ∃ b_3 o_, x10p_ = some ⟨b_3, o_, none⟩ ∧ 0 ≤ i_ ∧ i_ < (x10n_ : Int) ∧
      ∃ x66_ : Int, cellsAt hp_14 b_3 (o_ + Int.toNat i_ * 1) [(Value.int .i64 x66_)] ∧
      ∃ b_4 o_1, x13p_ = some ⟨b_4, o_1, none⟩ ∧ 0 ≤ i_ ∧ i_ < (x13n_ : Int) ∧
      ∃ x70_ : Int, cellsAt hp_14 b_4 (o_1 + Int.toNat i_ * 1) [(Value.int .i64 x70_)] ∧
      (((decide (x66_ ≠ x70_)) = true →
        R (.returned (Value.bool false)) hp_14) ∧
       ((decide (x66_ ≠ x70_)) = false →
        ∃ x62_, IntKind.i64.wrap (i_ + (1 : Int)) = x62_ ∧
        (Iv_ [(Value.int .i64 x62_)] hp_14 ∧ m_ [(Value.int .i64 x62_)] hp_14 < m_ [(Value.int .i64 i_)] hp_14)))) ∧
     ((decide (i_ < ((x10n_ : Nat) : Int))) = false →
      R (.returned (Value.bool true)) hp_14))))) :
  CallsH Tryz.prog 9 #[(Value.agg #[(Value.pointer pf0_), (Value.pointer pf1_)])] h R := calls_vc fine false Tryz.func9 (ann := A9) (args := [(Value.agg #[(Value.pointer pf0_), (Value.pointer pf1_)])]) (by kernel_rfl) (Eq.mpr (by kernel_rfl) H)
/-- (*turnout/disk.Disk).Crash -/
def A10 : Ann := (.seq (.seq .nil (.cond .nil .nil)) (.cut (.seq .nil (.block (.loop [(13, (.int .i64))] (.seq .nil (.seq (.cond .nil .nil) (.seq (.block (.seq .nil (.seq (.seq .nil (.cond .nil .nil)) (.drawLast [4])))) .nil)))))) [] (.seq .nil (.seq .nil .nil))))
theorem V10 (d_ : Option Addr) (fatesp_ : Option Addr) (fatesn_ fatesc_ : Nat) (h : Hp) (R : Ending → Hp → Prop) (H :
  ∃ x7_, EqV Tryz.prog 26 (Value.pointer d_) (Value.pointer none) x7_ ∧
  ((x7_ = true →
    R (.returned (Value.tuple #[])) h) ∧
   (x7_ = false →
    ∃ Jv_ : List Value → Hp → Prop,
    (∃ b_ o_, d_ = some ⟨b_, o_, none⟩ ∧
     ∃ (x11p_ : Option Addr) (x11n_ x11c_ : Nat), cellsAt h b_ (o_ + 3) [(Value.slice x11p_ x11n_ x11c_)] ∧
     ∃ (Iv_ : List Value → Hp → Prop) (m_ : List Value → Hp → Nat), Iv_ [(Value.int .i64 (0 : Int))] h ∧
     (∀ (x13_ : Int) hp_, Iv_ [(Value.int .i64 x13_)] hp_ →
      (((decide (x13_ < ((x11n_ : Nat) : Int))) = true →
        ∃ b_1 o_1, x11p_ = some ⟨b_1, o_1, none⟩ ∧ 0 ≤ x13_ ∧ x13_ < (x11n_ : Int) ∧
        ∃ x17_ : Value, cellsAt hp_ b_1 (o_1 + Int.toNat x13_ * 1) [x17_] ∧
        (((decide (((fatesn_ : Nat) : Int) ≤ x13_)) = true →
          Jv_ [] hp_) ∧
         ((decide (((fatesn_ : Nat) : Int) ≤ x13_)) = false →
          ∃ Cv_ : Hp → Prop, Cv_ hp_ ∧
          ∃ b_2 o_2, d_ = some ⟨b_2, o_2, none⟩ ∧
          ∃ (x26p_ : Option Addr) (x26n_ x26c_ : Nat), (∀ h', Cv_ h' → cellsAt h' b_2 (o_2 + 0) [(Value.slice x26p_ x26n_ x26c_)]) ∧
          ∃ b_3 o_3, fatesp_ = some ⟨b_3, o_3, none⟩ ∧ 0 ≤ x13_ ∧ x13_ < (fatesn_ : Int) ∧
          ∃ x30f0_ : Int, ∃ x30f1_ : Int, cellsAt hp_ b_3 (o_3 + Int.toNat x13_ * 2) [(Value.int .i64 x30f0_), (Value.int .i64 x30f1_)] ∧
          CallsH Tryz.prog 35 #[(Value.agg #[(Value.int .i64 x30f0_), (Value.int .i64 x30f1_)])] hp_ fun en_ hp_1 =>
          ∃ x31_ : Int, en_ = .returned (Value.int .i64 x31_) ∧
          Cv_ hp_1 ∧
          ∃ fn_ fst_ cap_, x17_ = Value.func (.func fn_) fst_ cap_ ∧ bodied Tryz.prog fn_ = true ∧
          CallsH Tryz.prog fn_ (fst_.toList ++ [(Value.slice x26p_ x26n_ x26c_), (Value.int .i64 x31_)] ++ cap_.toList).toArray hp_1 fun en_1 hp_2 =>
          en_1 = .returned (Value.tuple #[]) ∧
          ∃ x33_, IntKind.i64.wrap (x13_ + (1 : Int)) = x33_ ∧
          (Iv_ [(Value.int .i64 x33_)] hp_2 ∧ m_ [(Value.int .i64 x33_)] hp_2 < m_ [(Value.int .i64 x13_)] hp_)))) ∧
       ((decide (x13_ < ((x11n_ : Nat) : Int))) = false →
        Jv_ [] hp_)))) ∧
    (∀  hp_3, Jv_ [] hp_3 →
     CallsH Tryz.prog 36 #[(Value.pointer d_)] hp_3 fun en_2 hp_4 =>
     en_2 = .returned (Value.tuple #[]) ∧
     ∃ b_4 o_4, d_ = some ⟨b_4, o_4, none⟩ ∧
     Value.oneCell' (Value.bool false) = true ∧ wrAt hp_4 b_4 (o_4 + 4) 1 ∧ ∀ hp_5, hp_5 = setsH hp_4 b_4 (o_4 + 4) [(Value.bool false)] →
     ∃ b_5 o_5, d_ = some ⟨b_5, o_5, none⟩ ∧
     Value.oneCell' (Value.int .i64 (0 : Int)) = true ∧ wrAt hp_5 b_5 (o_5 + 5) 1 ∧ ∀ hp_6, hp_6 = setsH hp_5 b_5 (o_5 + 5) [(Value.int .i64 (0 : Int))] →
     R (.returned (Value.tuple #[])) hp_6)))) :
  CallsH Tryz.prog 10 #[(Value.pointer d_), (Value.slice fatesp_ fatesn_ fatesc_)] h R := calls_vc fine false Tryz.func10 (ann := A10) (args := [(Value.pointer d_), (Value.slice fatesp_ fatesn_ fatesc_)]) (by kernel_rfl) (Eq.mpr (by kernel_rfl) H)
/-- (*turnout/turnoutref04.Disk).Crash -/
def A11 : Ann := (.cut (.seq .nil (.block (.loop [(4, (.int .i64))] (.cut (.seq (.join 19) (.cond .nil .nil)) [] (.seq (.block (.seq .nil (.seq .nil (.cut (.seq .nil (.block (.seq .nil (.cond .nil (.seq .nil (.cond .nil .nil)))))) [(6, (.int .i64))] .nil)))) .nil))))) [] (.seq .nil (.seq .nil .nil)))
theorem V11 (d_ : Option Addr) (fatesp_ : Option Addr) (fatesn_ fatesc_ : Nat) (h : Hp) (R : Ending → Hp → Prop) (H :
  ∃ Jv_ : List Value → Hp → Prop,
  (∃ (Iv_ : List Value → Hp → Prop) (m_ : List Value → Hp → Nat), Iv_ [(Value.int .i64 (0 : Int))] h ∧
   (∀ (i_ : Int) hp_, Iv_ [(Value.int .i64 i_)] hp_ →
    ∃ Jv_1 : List Value → Hp → Prop,
    (∃ B_ : Bool, (∃ b_ o_, d_ = some ⟨b_, o_, none⟩ ∧
      ∃ (x11p_ : Option Addr) (x11n_ x11c_ : Nat), cellsAt hp_ b_ (o_ + 1) [(Value.slice x11p_ x11n_ x11c_)] ∧
      (((decide (i_ < ((x11n_ : Nat) : Int))) = true →
        hp_ = hp_ ∧ B_ = (decide (i_ < ((fatesn_ : Nat) : Int)))) ∧
       ((decide (i_ < ((x11n_ : Nat) : Int))) = false →
        hp_ = hp_ ∧ B_ = false))) ∧
     ((B_ = true →
       Jv_1 [] hp_) ∧
      (B_ = false →
       Jv_ [] hp_))) ∧
    (∀  hp_1, Jv_1 [] hp_1 →
     ∃ b_1 o_1, d_ = some ⟨b_1, o_1, none⟩ ∧
     ∃ (x25p_ : Option Addr) (x25n_ x25c_ : Nat), cellsAt hp_1 b_1 (o_1 + 1) [(Value.slice x25p_ x25n_ x25c_)] ∧
     ∃ b_2 o_2, x25p_ = some ⟨b_2, o_2, none⟩ ∧ 0 ≤ i_ ∧ i_ < (x25n_ : Int) ∧
     ∃ x28f0_ : Int, ∃ x28f1_ : ByteArray, cellsAt hp_1 b_2 (o_2 + Int.toNat i_ * 2) [(Value.int .i64 x28f0_), (Value.string x28f1_)] ∧
     ∀ b_3 hp_2, b_3 = Array.size hp_1 → hp_2 = Array.push hp_1 (.cells (zeros Tryz.prog 82) 82) → (∃ i z, Tryz.prog.info? 82 = some i ∧ i.zero = some z) ∧
     List.length [(Value.int .i64 x28f0_), (Value.string x28f1_)] = 2 ∧ (∀ c ∈ [(Value.int .i64 x28f0_), (Value.string x28f1_)], c.oneCell' = true) ∧ wrAt hp_2 b_3 0 2 ∧ ∀ hp_3, hp_3 = setsH hp_2 b_3 0 [(Value.int .i64 x28f0_), (Value.string x28f1_)] →
     ∃ Jv_2 : List Value → Hp → Prop,
     (∃ b_4 o_3, fatesp_ = some ⟨b_4, o_3, none⟩ ∧ 0 ≤ i_ ∧ i_ < (fatesn_ : Int) ∧
      ∃ x33_ : Int, cellsAt hp_3 b_4 ((o_3 + Int.toNat i_ * 2) + 0) [(Value.int .i64 x33_)] ∧
      (((decide (x33_ = (1 : Int))) = true →
        Jv_2 [(Value.int .i64 (512 : Int))] hp_3) ∧
       ((decide (x33_ = (1 : Int))) = false →
        (((decide (x33_ = (2 : Int))) = true →
          ∃ b_5 o_4, fatesp_ = some ⟨b_5, o_4, none⟩ ∧ 0 ≤ i_ ∧ i_ < (fatesn_ : Int) ∧
          ∃ x42_ : Int, cellsAt hp_3 b_5 ((o_4 + Int.toNat i_ * 2) + 1) [(Value.int .i64 x42_)] ∧
          Jv_2 [(Value.int .i64 (min (max x42_ (0 : Int)) (512 : Int)))] hp_3) ∧
         ((decide (x33_ = (2 : Int))) = false →
          Jv_2 [(Value.int .i64 (0 : Int))] hp_3))))) ∧
     (∀ (k_ : Int) hp_4, Jv_2 [(Value.int .i64 k_)] hp_4 →
      ∃ b_6 o_5, d_ = some ⟨b_6, o_5, none⟩ ∧
      ∃ (x48p_ : Option Addr) (x48n_ x48c_ : Nat), cellsAt hp_4 b_6 (o_5 + 0) [(Value.slice x48p_ x48n_ x48c_)] ∧
      ∃ x50_ : Int, cellsAt hp_4 b_3 (0 + 0) [(Value.int .i64 x50_)] ∧
      ∃ x52_ : ByteArray, cellsAt hp_4 b_3 (0 + 1) [(Value.string x52_)] ∧
      ∃ u_ : Nat, k_ = (u_ : Int) ∧
      0 ≤ u_ ∧ u_ ≤ ByteArray.size x52_ ∧ ∃ x54_, ByteArray.extract x52_ 0 u_ = x54_ ∧
      ∃ b_7 o_6, d_ = some ⟨b_7, o_6, none⟩ ∧
      ∃ (x58p_ : Option Addr) (x58n_ x58c_ : Nat), cellsAt hp_4 b_7 (o_6 + 0) [(Value.slice x58p_ x58n_ x58c_)] ∧
      ∃ x60_ : Int, cellsAt hp_4 b_3 (0 + 0) [(Value.int .i64 x60_)] ∧
      ∃ b_8 o_7, x58p_ = some ⟨b_8, o_7, none⟩ ∧ 0 ≤ x60_ ∧ x60_ < (x58n_ : Int) ∧
      ∃ x62_ : ByteArray, cellsAt hp_4 b_8 (o_7 + Int.toNat x60_ * 1) [(Value.string x62_)] ∧
      ∃ l_ : Nat, k_ = (l_ : Int) ∧
      l_ ≤ (ByteArray.size x62_) ∧ (ByteArray.size x62_) ≤ ByteArray.size x62_ ∧ ∃ x64_, ByteArray.extract x62_ l_ (ByteArray.size x62_) = x64_ ∧
      ByteArray.size x54_ + ByteArray.size x64_ ≤ 9223372036854775807 ∧ ∃ x65_, x54_ ++ x64_ = x65_ ∧
      ∃ b_9 o_8, x48p_ = some ⟨b_9, o_8, none⟩ ∧ 0 ≤ x50_ ∧ x50_ < (x48n_ : Int) ∧
      Value.oneCell' (Value.string x65_) = true ∧ wrAt hp_4 b_9 (o_8 + Int.toNat x50_ * 1) 1 ∧ ∀ hp_5, hp_5 = setsH hp_4 b_9 (o_8 + Int.toNat x50_ * 1) [(Value.string x65_)] →
      ∃ x21_, IntKind.i64.wrap (i_ + (1 : Int)) = x21_ ∧
      (Iv_ [(Value.int .i64 x21_)] hp_5 ∧ m_ [(Value.int .i64 x21_)] hp_5 < m_ [(Value.int .i64 i_)] hp_))))) ∧
  (∀  hp_6, Jv_ [] hp_6 →
   ∃ b_10 o_9, d_ = some ⟨b_10, o_9, none⟩ ∧
   Value.oneCell' (Value.slice none 0 0) = true ∧ wrAt hp_6 b_10 (o_9 + 1) 1 ∧ ∀ hp_7, hp_7 = setsH hp_6 b_10 (o_9 + 1) [(Value.slice none 0 0)] →
   ∃ b_11 o_10, d_ = some ⟨b_11, o_10, none⟩ ∧
   Value.oneCell' (Value.bool false) = true ∧ wrAt hp_7 b_11 (o_10 + 2) 1 ∧ ∀ hp_8, hp_8 = setsH hp_7 b_11 (o_10 + 2) [(Value.bool false)] →
   ∃ b_12 o_11, d_ = some ⟨b_12, o_11, none⟩ ∧
   Value.oneCell' (Value.int .i64 (0 : Int)) = true ∧ wrAt hp_8 b_12 (o_11 + 3) 1 ∧ ∀ hp_9, hp_9 = setsH hp_8 b_12 (o_11 + 3) [(Value.int .i64 (0 : Int))] →
   R (.returned (Value.tuple #[])) hp_9)) :
  CallsH Tryz.prog 11 #[(Value.pointer d_), (Value.slice fatesp_ fatesn_ fatesc_)] h R := calls_vc fine false Tryz.func11 (ann := A11) (args := [(Value.pointer d_), (Value.slice fatesp_ fatesn_ fatesc_)]) (by kernel_rfl) (Eq.mpr (by kernel_rfl) H)
/-- (turnout/turnoutlaw20.pair).finds -/
def A12 : Ann := (.seq .nil (.seq .nil (.seq .nil (.seq .nil (.seq .nil (.seq .nil (.cut (.seq (.join 86) (.cond (.seq .nil .nil) .nil)) [] (.seq (.seq .nil (.block (.loop [(15, (.int .i64))] (.seq (.seq .nil (.cond .nil .nil)) (.seq (.block (.seq (.seq .nil (.cond (.seq .nil .nil) .nil)) .nil)) .nil))))) (.seq (.seq .nil (.block (.loop [(9, .slice), (16, (.int .i64))] (.seq (.seq .nil (.cond .nil .nil)) (.seq (.block .nil) .nil))))) (.seq (.seq .nil (.block (.loop [(17, (.int .i64))] (.seq (.seq .nil (.cond .nil .nil)) (.seq (.block (.seq .nil (.cond (.seq .nil .nil) .nil))) .nil))))) (.seq .nil .nil)))))))))))
theorem V12 (pf0_ : Option Addr) (pf1_ : Option Addr) (h : Hp) (R : Ending → Hp → Prop) (H :
  ∀ b_ hp_, b_ = Array.size h → hp_ = Array.push h (.cells #[(Value.pointer pf0_), (Value.pointer pf1_)] 34) →
  ∃ x20_ : Option Addr, cellsAt hp_ b_ (0 + 0) [(Value.pointer x20_)] ∧
  CallsH Tryz.prog 18 #[(Value.pointer x20_)] hp_ fun en_ hp_1 =>
  ∃ x21r0f0_ : Int, ∃ x21r0f1_ : Int, ∃ x21r0f2_ : Int, ∃ x21r0f3_ : Int, ∃ x21r0f4_ : Int, ∃ x21r1_ : ByteArray, ∃ x21r2_ : Int, en_ = .returned (Value.tuple #[(Value.agg #[(Value.int .i64 x21r0f0_), (Value.int .u64 x21r0f1_), (Value.int .u64 x21r0f2_), (Value.int .i64 x21r0f3_), (Value.int .i64 x21r0f4_)]), (Value.string x21r1_), (Value.int .i64 x21r2_)]) ∧
  ∀ b_1 hp_2, b_1 = Array.size hp_1 → hp_2 = Array.push hp_1 (.cells (zeros Tryz.prog 39) 39) → (∃ i z, Tryz.prog.info? 39 = some i ∧ i.zero = some z) ∧
  List.length [(Value.int .i64 x21r0f0_), (Value.int .u64 x21r0f1_), (Value.int .u64 x21r0f2_), (Value.int .i64 x21r0f3_), (Value.int .i64 x21r0f4_)] = 5 ∧ (∀ c ∈ [(Value.int .i64 x21r0f0_), (Value.int .u64 x21r0f1_), (Value.int .u64 x21r0f2_), (Value.int .i64 x21r0f3_), (Value.int .i64 x21r0f4_)], c.oneCell' = true) ∧ wrAt hp_2 b_1 0 5 ∧ ∀ hp_3, hp_3 = setsH hp_2 b_1 0 [(Value.int .i64 x21r0f0_), (Value.int .u64 x21r0f1_), (Value.int .u64 x21r0f2_), (Value.int .i64 x21r0f3_), (Value.int .i64 x21r0f4_)] →
  ∃ x27_ : Option Addr, cellsAt hp_3 b_ (0 + 1) [(Value.pointer x27_)] ∧
  CallsH Tryz.prog 37 #[(Value.pointer x27_)] hp_3 fun en_1 hp_4 =>
  ∃ x28r0f0_ : Int, ∃ x28r0f1_ : Int, ∃ x28r0f2_ : Int, ∃ x28r0f3_ : Int, ∃ x28r0f4_ : Int, ∃ x28r1_ : ByteArray, ∃ x28r2_ : Int, en_1 = .returned (Value.tuple #[(Value.agg #[(Value.int .i64 x28r0f0_), (Value.int .u64 x28r0f1_), (Value.int .u64 x28r0f2_), (Value.int .i64 x28r0f3_), (Value.int .i64 x28r0f4_)]), (Value.string x28r1_), (Value.int .i64 x28r2_)]) ∧
  ∀ b_2 hp_5, b_2 = Array.size hp_4 → hp_5 = Array.push hp_4 (.cells (zeros Tryz.prog 39) 39) → (∃ i z, Tryz.prog.info? 39 = some i ∧ i.zero = some z) ∧
  List.length [(Value.int .i64 x28r0f0_), (Value.int .u64 x28r0f1_), (Value.int .u64 x28r0f2_), (Value.int .i64 x28r0f3_), (Value.int .i64 x28r0f4_)] = 5 ∧ (∀ c ∈ [(Value.int .i64 x28r0f0_), (Value.int .u64 x28r0f1_), (Value.int .u64 x28r0f2_), (Value.int .i64 x28r0f3_), (Value.int .i64 x28r0f4_)], c.oneCell' = true) ∧ wrAt hp_5 b_2 0 5 ∧ ∀ hp_6, hp_6 = setsH hp_5 b_2 0 [(Value.int .i64 x28r0f0_), (Value.int .u64 x28r0f1_), (Value.int .u64 x28r0f2_), (Value.int .i64 x28r0f3_), (Value.int .i64 x28r0f4_)] →
  ∃ x34_ : Option Addr, cellsAt hp_6 b_ (0 + 0) [(Value.pointer x34_)] ∧
  CallsH Tryz.prog 38 #[(Value.pointer x34_)] hp_6 fun en_2 hp_7 =>
  ∃ (x35r0p_ : Option Addr) (x35r0n_ x35r0c_ : Nat), ∃ x35r1_ : Int, en_2 = .returned (Value.tuple #[(Value.slice x35r0p_ x35r0n_ x35r0c_), (Value.int .i64 x35r1_)]) ∧
  ∃ x40_ : Option Addr, cellsAt hp_7 b_ (0 + 0) [(Value.pointer x40_)] ∧
  CallsH Tryz.prog 38 #[(Value.pointer x40_)] hp_7 fun en_3 hp_8 =>
  ∃ (x41r0p_ : Option Addr) (x41r0n_ x41r0c_ : Nat), ∃ x41r1_ : Int, en_3 = .returned (Value.tuple #[(Value.slice x41r0p_ x41r0n_ x41r0c_), (Value.int .i64 x41r1_)]) ∧
  ∃ x46_ : Option Addr, cellsAt hp_8 b_ (0 + 1) [(Value.pointer x46_)] ∧
  CallsH Tryz.prog 39 #[(Value.pointer x46_)] hp_8 fun en_4 hp_9 =>
  ∃ (x47r0p_ : Option Addr) (x47r0n_ x47r0c_ : Nat), ∃ x47r1_ : Int, en_4 = .returned (Value.tuple #[(Value.slice x47r0p_ x47r0n_ x47r0c_), (Value.int .i64 x47r1_)]) ∧
  ∃ Jv_ : List Value → Hp → Prop,
  (∃ B_ : Bool, (∃ x50f0_ : Int, ∃ x50f1_ : Int, ∃ x50f2_ : Int, ∃ x50f3_ : Int, ∃ x50f4_ : Int, cellsAt hp_9 b_1 0 [(Value.int .i64 x50f0_), (Value.int .u64 x50f1_), (Value.int .u64 x50f2_), (Value.int .i64 x50f3_), (Value.int .i64 x50f4_)] ∧
    ∃ x51f0_ : Int, ∃ x51f1_ : Int, ∃ x51f2_ : Int, ∃ x51f3_ : Int, ∃ x51f4_ : Int, cellsAt hp_9 b_2 0 [(Value.int .i64 x51f0_), (Value.int .u64 x51f1_), (Value.int .u64 x51f2_), (Value.int .i64 x51f3_), (Value.int .i64 x51f4_)] ∧
    ∃ x52_, EqV Tryz.prog 39 (Value.agg #[(Value.int .i64 x50f0_), (Value.int .u64 x50f1_), (Value.int .u64 x50f2_), (Value.int .i64 x50f3_), (Value.int .i64 x50f4_)]) (Value.agg #[(Value.int .i64 x51f0_), (Value.int .u64 x51f1_), (Value.int .u64 x51f2_), (Value.int .i64 x51f3_), (Value.int .i64 x51f4_)]) x52_ ∧
    (((!x52_) = true →
      hp_9 = hp_9 ∧ B_ = true) ∧
     ((!x52_) = false →
      (((decide (x21r1_ ≠ x28r1_)) = true →
        hp_9 = hp_9 ∧ B_ = true) ∧
       ((decide (x21r1_ ≠ x28r1_)) = false →
        (((decide (x21r2_ ≠ x28r2_)) = true →
          hp_9 = hp_9 ∧ B_ = true) ∧
         ((decide (x21r2_ ≠ x28r2_)) = false →
          (((decide (x35r1_ ≠ x47r1_)) = true →
            hp_9 = hp_9 ∧ B_ = true) ∧
           ((decide (x35r1_ ≠ x47r1_)) = false →
            (((decide (x41r1_ ≠ x47r1_)) = true →
              hp_9 = hp_9 ∧ B_ = true) ∧
             ((decide (x41r1_ ≠ x47r1_)) = false →
              (((decide (((x35r0n_ : Nat) : Int) ≠ ((x47r0n_ : Nat) : Int))) = true →
                hp_9 = hp_9 ∧ B_ = true) ∧
               ((decide (((x35r0n_ : Nat) : Int) ≠ ((x47r0n_ : Nat) : Int))) = false →
                hp_9 = hp_9 ∧ B_ = (decide (((x41r0n_ : Nat) : Int) ≠ ((x47r0n_ : Nat) : Int)))))))))))))))) ∧
   ((B_ = true →
     R (.returned (Value.bool false)) hp_9) ∧
    (B_ = false →
     Jv_ [] hp_9))) ∧
  (∀  hp_10, Jv_ [] hp_10 →
   ∃ (Iv_ : List Value → Hp → Prop) (m_ : List Value → Hp → Nat), Iv_ [(Value.int .i64 (0 : Int))] hp_10 ∧
   (∀ (n_ : Int) hp_11, Iv_ [(Value.int .i64 n_)] hp_11 →
    (((decide (n_ < ((x35r0n_ : Nat) : Int))) = true →
      ∃ b_3 o_, x35r0p_ = some ⟨b_3, o_, none⟩ ∧ 0 ≤ n_ ∧ n_ < (x35r0n_ : Int) ∧
      ∃ x96f0_ : Int, ∃ x96f1_ : Int, ∃ x96f2_ : Int, ∃ x96f3_ : Int, ∃ x96f4_ : Int, cellsAt hp_11 b_3 (o_ + Int.toNat n_ * 5) [(Value.int .i64 x96f0_), (Value.int .u64 x96f1_), (Value.int .u64 x96f2_), (Value.int .i64 x96f3_), (Value.int .i64 x96f4_)] ∧
      ∃ b_4 o_1, x47r0p_ = some ⟨b_4, o_1, none⟩ ∧ 0 ≤ n_ ∧ n_ < (x47r0n_ : Int) ∧
      ∃ x100f0_ : Int, ∃ x100f1_ : Int, ∃ x100f2_ : Int, ∃ x100f3_ : Int, ∃ x100f4_ : Int, cellsAt hp_11 b_4 (o_1 + Int.toNat n_ * 5) [(Value.int .i64 x100f0_), (Value.int .u64 x100f1_), (Value.int .u64 x100f2_), (Value.int .i64 x100f3_), (Value.int .i64 x100f4_)] ∧
      ∃ x101_, EqV Tryz.prog 39 (Value.agg #[(Value.int .i64 x96f0_), (Value.int .u64 x96f1_), (Value.int .u64 x96f2_), (Value.int .i64 x96f3_), (Value.int .i64 x96f4_)]) (Value.agg #[(Value.int .i64 x100f0_), (Value.int .u64 x100f1_), (Value.int .u64 x100f2_), (Value.int .i64 x100f3_), (Value.int .i64 x100f4_)]) x101_ ∧
      (((!x101_) = true →
        R (.returned (Value.bool false)) hp_11) ∧
       ((!x101_) = false →
        ∃ b_5 o_2, x35r0p_ = some ⟨b_5, o_2, none⟩ ∧ 0 ≤ n_ ∧ n_ < (x35r0n_ : Int) ∧
        List.length [(Value.int .i64 (0 : Int)), (Value.int .u64 (0 : Int)), (Value.int .u64 (0 : Int)), (Value.int .i64 (0 : Int)), (Value.int .i64 (0 : Int))] = 5 ∧ (∀ c ∈ [(Value.int .i64 (0 : Int)), (Value.int .u64 (0 : Int)), (Value.int .u64 (0 : Int)), (Value.int .i64 (0 : Int)), (Value.int .i64 (0 : Int))], c.oneCell' = true) ∧ wrAt hp_11 b_5 (o_2 + Int.toNat n_ * 5) 5 ∧ ∀ hp_12, hp_12 = setsH hp_11 b_5 (o_2 + Int.toNat n_ * 5) [(Value.int .i64 (0 : Int)), (Value.int .u64 (0 : Int)), (Value.int .u64 (0 : Int)), (Value.int .i64 (0 : Int)), (Value.int .i64 (0 : Int))] →
        ∃ x92_, IntKind.i64.wrap (n_ + (1 : Int)) = x92_ ∧
        (Iv_ [(Value.int .i64 x92_)] hp_12 ∧ m_ [(Value.int .i64 x92_)] hp_12 < m_ [(Value.int .i64 n_)] hp_11)))) ∧
     ((decide (n_ < ((x35r0n_ : Nat) : Int))) = false →
      ∃ (Iv_1 : List Value → Hp → Prop) (m_1 : List Value → Hp → Nat), Iv_1 [(Value.slice x35r0p_ x35r0n_ x35r0c_), (Value.int .i64 (0 : Int))] hp_11 ∧
      (∀ (lp_ : Option Addr) (ln_ lc_ : Nat) (n_1 : Int) hp_13, Iv_1 [(Value.slice lp_ ln_ lc_), (Value.int .i64 n_1)] hp_13 →
       (((decide (n_1 < (4 : Int))) = true →
         SemH Tryz.prog (Instr.buildSlice 84 1 #[(0, (Value.agg #[(Value.int .i64 (0 : Int)), (Value.int .u64 (0 : Int)), (Value.int .u64 (0 : Int)), (Value.int .i64 (0 : Int)), (Value.int .i64 (0 : Int))]))]) hp_13 fun v_ hp_14 =>
         ∃ (x112p_ : Option Addr) (x112n_ x112c_ : Nat), v_ = (Value.slice x112p_ x112n_ x112c_) ∧
         SemH Tryz.prog (Builtin.append_ #[84, 84] 84 #[(Value.slice lp_ ln_ lc_), (Value.slice x112p_ x112n_ x112c_)]) hp_14 fun v_1 hp_15 =>
         ∃ (x113p_ : Option Addr) (x113n_ x113c_ : Nat), v_1 = (Value.slice x113p_ x113n_ x113c_) ∧
         ∃ x109_, IntKind.i64.wrap (n_1 + (1 : Int)) = x109_ ∧
         (Iv_1 [(Value.slice x113p_ x113n_ x113c_), (Value.int .i64 x109_)] hp_15 ∧ m_1 [(Value.slice x113p_ x113n_ x113c_), (Value.int .i64 x109_)] hp_15 < m_1 [(Value.slice lp_ ln_ lc_), (Value.int .i64 n_1)] hp_13)) ∧
        ((decide (n_1 < (4 : Int))) = false →
         ∃ (Iv_2 : List Value → Hp → Prop) (m_2 : List Value → Hp → Nat), Iv_2 [(Value.int .i64 (0 : Int))] hp_13 ∧
         (∀ (n_2 : Int) hp_16, Iv_2 [(Value.int .i64 n_2)] hp_16 →
          (((decide (n_2 < ((x41r0n_ : Nat) : Int))) = true →
            ∃ b_6 o_3, x41r0p_ = some ⟨b_6, o_3, none⟩ ∧ 0 ≤ n_2 ∧ n_2 < (x41r0n_ : Int) ∧
            ∃ x123f0_ : Int, ∃ x123f1_ : Int, ∃ x123f2_ : Int, ∃ x123f3_ : Int, ∃ x123f4_ : Int, cellsAt hp_16 b_6 (o_3 + Int.toNat n_2 * 5) [(Value.int .i64 x123f0_), (Value.int .u64 x123f1_), (Value.int .u64 x123f2_), (Value.int .i64 x123f3_), (Value.int .i64 x123f4_)] ∧
            ∃ b_7 o_4, x47r0p_ = some ⟨b_7, o_4, none⟩ ∧ 0 ≤ n_2 ∧ n_2 < (x47r0n_ : Int) ∧
            ∃ x127f0_ : Int, ∃ x127f1_ : Int, ∃ x127f2_ : Int, ∃ x127f3_ : Int, ∃ x127f4_ : Int, cellsAt hp_16 b_7 (o_4 + Int.toNat n_2 * 5) [(Value.int .i64 x127f0_), (Value.int .u64 x127f1_), (Value.int .u64 x127f2_), (Value.int .i64 x127f3_), (Value.int .i64 x127f4_)] ∧
            ∃ x128_, EqV Tryz.prog 39 (Value.agg #[(Value.int .i64 x123f0_), (Value.int .u64 x123f1_), (Value.int .u64 x123f2_), (Value.int .i64 x123f3_), (Value.int .i64 x123f4_)]) (Value.agg #[(Value.int .i64 x127f0_), (Value.int .u64 x127f1_), (Value.int .u64 x127f2_), (Value.int .i64 x127f3_), (Value.int .i64 x127f4_)]) x128_ ∧
            (((!x128_) = true →
              R (.returned (Value.bool false)) hp_16) ∧
             ((!x128_) = false →
              ∃ x119_, IntKind.i64.wrap (n_2 + (1 : Int)) = x119_ ∧
              (Iv_2 [(Value.int .i64 x119_)] hp_16 ∧ m_2 [(Value.int .i64 x119_)] hp_16 < m_2 [(Value.int .i64 n_2)] hp_16)))) ∧
           ((decide (n_2 < ((x41r0n_ : Nat) : Int))) = false →
            R (.returned (Value.bool true)) hp_16))))))))))) :
  CallsH Tryz.prog 12 #[(Value.agg #[(Value.pointer pf0_), (Value.pointer pf1_)])] h R := calls_vc fine false Tryz.func12 (ann := A12) (args := [(Value.agg #[(Value.pointer pf0_), (Value.pointer pf1_)])]) (by kernel_rfl) (Eq.mpr (by kernel_rfl) H)
/-- turnout/ckpt.Lay -/
def A13 : Ann := (.seq .nil (.cut (.seq (.join 15) (.cond (.seq .nil .nil) .nil)) [] (.cut (.seq (.join 25) (.cond (.seq .nil .nil) .nil)) [] (.seq .nil .nil))))
theorem V13 (sectors_ : Int) (slot_ : Int) (h : Hp) (R : Ending → Hp → Prop) (H :
  ∀ b_ hp_, b_ = Array.size h → hp_ = Array.push h (.cells (zeros Tryz.prog 37) 37) → (∃ i z, Tryz.prog.info? 37 = some i ∧ i.zero = some z) ∧
  ∃ Jv_ : List Value → Hp → Prop,
  (∃ B_ : Bool, ((((decide (sectors_ < (1 : Int))) = true →
      hp_ = hp_ ∧ B_ = true) ∧
     ((decide (sectors_ < (1 : Int))) = false →
      (((decide ((4096 : Int) < sectors_)) = true →
        hp_ = hp_ ∧ B_ = true) ∧
       ((decide ((4096 : Int) < sectors_)) = false →
        hp_ = hp_ ∧ B_ = (decide (slot_ < (1 : Int)))))))) ∧
   ((B_ = true →
     List.length [(Value.int .i64 (0 : Int)), (Value.int .i64 (0 : Int))] = 2 ∧ (∀ c ∈ [(Value.int .i64 (0 : Int)), (Value.int .i64 (0 : Int))], c.oneCell' = true) ∧ wrAt hp_ b_ 0 2 ∧ ∀ hp_1, hp_1 = setsH hp_ b_ 0 [(Value.int .i64 (0 : Int)), (Value.int .i64 (0 : Int))] →
     ∃ resf0_ : Int, ∃ resf1_ : Int, cellsAt hp_1 b_ 0 [(Value.int .i64 resf0_), (Value.int .i64 resf1_)] ∧
     R (.returned (Value.tuple #[(Value.agg #[(Value.int .i64 resf0_), (Value.int .i64 resf1_)]), (Value.int .i64 (1 : Int))])) hp_1) ∧
    (B_ = false →
     Jv_ [] hp_))) ∧
  (∀  hp_2, Jv_ [] hp_2 →
   ∃ Jv_1 : List Value → Hp → Prop,
   (∃ B_1 : Bool, (∃ x19_, IntKind.i64.wrap (sectors_ - (3 : Int)) = x19_ ∧
     (2 : Int) ≠ 0 ∧ ∃ x20_, IntKind.i64.wrap (Int.tdiv x19_ (2 : Int)) = x20_ ∧
     (((decide (x20_ < slot_)) = true →
       hp_2 = hp_2 ∧ B_1 = true) ∧
      ((decide (x20_ < slot_)) = false →
       hp_2 = hp_2 ∧ B_1 = (decide (sectors_ < (3 : Int)))))) ∧
    ((B_1 = true →
      List.length [(Value.int .i64 (0 : Int)), (Value.int .i64 (0 : Int))] = 2 ∧ (∀ c ∈ [(Value.int .i64 (0 : Int)), (Value.int .i64 (0 : Int))], c.oneCell' = true) ∧ wrAt hp_2 b_ 0 2 ∧ ∀ hp_3, hp_3 = setsH hp_2 b_ 0 [(Value.int .i64 (0 : Int)), (Value.int .i64 (0 : Int))] →
      ∃ resf0_1 : Int, ∃ resf1_1 : Int, cellsAt hp_3 b_ 0 [(Value.int .i64 resf0_1), (Value.int .i64 resf1_1)] ∧
      R (.returned (Value.tuple #[(Value.agg #[(Value.int .i64 resf0_1), (Value.int .i64 resf1_1)]), (Value.int .i64 (202 : Int))])) hp_3) ∧
     (B_1 = false →
      Jv_1 [] hp_2))) ∧
   (∀  hp_4, Jv_1 [] hp_4 →
    ∃ x29_, IntKind.i64.wrap (sectors_ - (2 : Int)) = x29_ ∧
    ∃ x31_, IntKind.i64.wrap ((2 : Int) * slot_) = x31_ ∧
    ∃ x32_, IntKind.i64.wrap (x29_ - x31_) = x32_ ∧
    List.length [(Value.int .i64 slot_), (Value.int .i64 x32_)] = 2 ∧ (∀ c ∈ [(Value.int .i64 slot_), (Value.int .i64 x32_)], c.oneCell' = true) ∧ wrAt hp_4 b_ 0 2 ∧ ∀ hp_5, hp_5 = setsH hp_4 b_ 0 [(Value.int .i64 slot_), (Value.int .i64 x32_)] →
    ∃ resf0_2 : Int, ∃ resf1_2 : Int, cellsAt hp_5 b_ 0 [(Value.int .i64 resf0_2), (Value.int .i64 resf1_2)] ∧
    R (.returned (Value.tuple #[(Value.agg #[(Value.int .i64 resf0_2), (Value.int .i64 resf1_2)]), (Value.int .i64 (0 : Int))])) hp_5))) :
  CallsH Tryz.prog 13 #[(Value.int .i64 sectors_), (Value.int .i64 slot_)] h R := calls_vc fine false Tryz.func13 (ann := A13) (args := [(Value.int .i64 sectors_), (Value.int .i64 slot_)]) (by kernel_rfl) (Eq.mpr (by kernel_rfl) H)
/-- turnout/ckpt.Write -/
def A14 : Ann := (.seq .nil (.cut (.seq .nil (.cond (.seq .nil .nil) .nil)) [] (.seq (.seq .nil (.cond (.seq .nil .nil) .nil)) (.seq .nil (.seq (.seq .nil (.cond (.seq .nil .nil) .nil)) (.seq .nil (.seq (.seq .nil (.block (.loop [(9, .slice), (10, .ptr)] (.seq (.seq .nil (.cond .nil .nil)) (.seq (.block (.seq .nil .nil)) (.seq (.seq .nil .nil) .nil)))))) (.seq .nil (.seq (.seq .nil (.block (.loop [(73, (.int .i64))] (.seq .nil (.seq (.cond .nil .nil) (.seq (.block (.seq .nil (.seq .nil (.seq .nil (.cond (.seq .nil .nil) .nil))))) .nil)))))) (.seq .nil .nil))))))))))
theorem V14 (d_ : Option Addr) (hf0_ : Int) (hf1_ : Int) (hf2_ : Int) (hf3_ : Int) (hf4_ : Int) (image_ : ByteArray) (h : Hp) (R : Ending → Hp → Prop) (H :
  ∀ b_ hp_, b_ = Array.size h → hp_ = Array.push h (.cells #[(Value.pointer d_)] 26) →
  ∀ b_1 hp_1, b_1 = Array.size hp_ → hp_1 = Array.push hp_ (.cells #[(Value.int .i64 hf0_), (Value.int .u64 hf1_), (Value.int .u64 hf2_), (Value.int .i64 hf3_), (Value.int .i64 hf4_)] 39) →
  ∃ Jv_ : List Value → Hp → Prop,
  (∃ x15_ : Option Addr, cellsAt hp_1 b_ 0 [(Value.pointer x15_)] ∧
   ∃ x16_, EqV Tryz.prog 26 (Value.pointer x15_) (Value.pointer none) x16_ ∧
   ((x16_ = true →
     R (.returned (Value.int .i64 (1 : Int))) hp_1) ∧
    (x16_ = false →
     ∃ x18_ : Option Addr, cellsAt hp_1 b_ 0 [(Value.pointer x18_)] ∧
     ∃ x19f0_ : Int, ∃ x19f1_ : Int, ∃ x19f2_ : Int, ∃ x19f3_ : Int, ∃ x19f4_ : Int, cellsAt hp_1 b_1 0 [(Value.int .i64 x19f0_), (Value.int .u64 x19f1_), (Value.int .u64 x19f2_), (Value.int .i64 x19f3_), (Value.int .i64 x19f4_)] ∧
     CallsH Tryz.prog 40 #[(Value.pointer x18_), (Value.agg #[(Value.int .i64 x19f0_), (Value.int .u64 x19f1_), (Value.int .u64 x19f2_), (Value.int .i64 x19f3_), (Value.int .i64 x19f4_)])] hp_1 fun en_ hp_2 =>
     ∃ x20_ : Bool, en_ = .returned (Value.bool x20_) ∧
     (((!x20_) = true →
       R (.returned (Value.int .i64 (1 : Int))) hp_2) ∧
      ((!x20_) = false →
       (((decide (image_ = (⟨#[]⟩ : ByteArray))) = true →
         R (.returned (Value.int .i64 (1 : Int))) hp_2) ∧
        ((decide (image_ = (⟨#[]⟩ : ByteArray))) = false →
         Jv_ [] hp_2))))))) ∧
  (∀  hp_3, Jv_ [] hp_3 →
   ∃ x29f0_ : Int, ∃ x29f1_ : Int, ∃ x29f2_ : Int, ∃ x29f3_ : Int, ∃ x29f4_ : Int, cellsAt hp_3 b_1 0 [(Value.int .i64 x29f0_), (Value.int .u64 x29f1_), (Value.int .u64 x29f2_), (Value.int .i64 x29f3_), (Value.int .i64 x29f4_)] ∧
   CallsH Tryz.prog 41 #[(Value.agg #[(Value.int .i64 x29f0_), (Value.int .u64 x29f1_), (Value.int .u64 x29f2_), (Value.int .i64 x29f3_), (Value.int .i64 x29f4_)])] hp_3 fun en_1 hp_4 =>
   ∃ x30_ : Int, en_1 = .returned (Value.int .i64 x30_) ∧
   (((decide (x30_ < (ByteArray.size image_ : Int))) = true →
     R (.returned (Value.int .i64 (2 : Int))) hp_4) ∧
    ((decide (x30_ < (ByteArray.size image_ : Int))) = false →
     ∃ x33f0_ : Int, ∃ x33f1_ : Int, ∃ x33f2_ : Int, ∃ x33f3_ : Int, ∃ x33f4_ : Int, cellsAt hp_4 b_1 0 [(Value.int .i64 x33f0_), (Value.int .u64 x33f1_), (Value.int .u64 x33f2_), (Value.int .i64 x33f3_), (Value.int .i64 x33f4_)] ∧
     CallsH Tryz.prog 42 #[(Value.agg #[(Value.int .i64 x33f0_), (Value.int .u64 x33f1_), (Value.int .u64 x33f2_), (Value.int .i64 x33f3_), (Value.int .i64 x33f4_)]), (Value.string image_)] hp_4 fun en_2 hp_5 =>
     ∃ x35r0_ : ByteArray, ∃ x35r1_ : Int, en_2 = .returned (Value.tuple #[(Value.string x35r0_), (Value.int .i64 x35r1_)]) ∧
     ∀ b_2 hp_6, b_2 = Array.size hp_5 → hp_6 = Array.push hp_5 (.cells (zeros Tryz.prog 9) 9) → (∃ i z, Tryz.prog.info? 9 = some i ∧ i.zero = some z) ∧
     Value.oneCell' (Value.string x35r0_) = true ∧ wrAt hp_6 b_2 0 1 ∧ ∀ hp_7, hp_7 = setsH hp_6 b_2 0 [(Value.string x35r0_)] →
     (((decide (x35r1_ ≠ (0 : Int))) = true →
       R (.returned (Value.int .i64 x35r1_)) hp_7) ∧
      ((decide (x35r1_ ≠ (0 : Int))) = false →
       ∀ b_3 hp_8, b_3 = Array.size hp_7 → hp_8 = Array.push hp_7 (.cells (zeros Tryz.prog 3) 3) → (∃ i z, Tryz.prog.info? 3 = some i ∧ i.zero = some z) ∧
       Value.oneCell' (Value.int .i64 (0 : Int)) = true ∧ wrAt hp_8 b_3 0 1 ∧ ∀ hp_9, hp_9 = setsH hp_8 b_3 0 [(Value.int .i64 (0 : Int))] →
       ∃ (Iv_ : List Value → Hp → Prop) (m_ : List Value → Hp → Nat), Iv_ [(Value.slice none 0 0), (Value.pointer (some ⟨b_3, 0, none⟩))] hp_9 ∧
       (∀ (todop_ : Option Addr) (todon_ todoc_ : Nat) (k_ : Option Addr) hp_10, Iv_ [(Value.slice todop_ todon_ todoc_), (Value.pointer k_)] hp_10 →
        ∃ b_4 o_, k_ = some ⟨b_4, o_, none⟩ ∧
        ∃ x41_ : Int, cellsAt hp_10 b_4 o_ [(Value.int .i64 x41_)] ∧
        ∃ x42_, IntKind.i64.wrap (x41_ * (491 : Int)) = x42_ ∧
        (((decide (x42_ < (ByteArray.size image_ : Int))) = true →
          ∃ b_5 o_1, k_ = some ⟨b_5, o_1, none⟩ ∧
          ∃ x49_ : Int, cellsAt hp_10 b_5 o_1 [(Value.int .i64 x49_)] ∧
          ∃ x50_, IntKind.i64.wrap (x49_ * (491 : Int)) = x50_ ∧
          ∃ b_6 o_2, k_ = some ⟨b_6, o_2, none⟩ ∧
          ∃ x51_ : Int, cellsAt hp_10 b_6 o_2 [(Value.int .i64 x51_)] ∧
          ∃ x52_, IntKind.i64.wrap (x51_ + (1 : Int)) = x52_ ∧
          ∃ x53_, IntKind.i64.wrap (x52_ * (491 : Int)) = x53_ ∧
          ∃ l_ : Nat, x50_ = (l_ : Int) ∧
          ∃ u_ : Nat, (min x53_ (ByteArray.size image_ : Int)) = (u_ : Int) ∧
          l_ ≤ u_ ∧ u_ ≤ ByteArray.size image_ ∧ ∃ x57_, ByteArray.extract image_ l_ u_ = x57_ ∧
          ∀ b_7 hp_11, b_7 = Array.size hp_10 → hp_11 = Array.push hp_10 (.cells (zeros Tryz.prog 9) 9) → (∃ i z, Tryz.prog.info? 9 = some i ∧ i.zero = some z) ∧
          Value.oneCell' (Value.string x57_) = true ∧ wrAt hp_11 b_7 0 1 ∧ ∀ hp_12, hp_12 = setsH hp_11 b_7 0 [(Value.string x57_)] →
          SemH Tryz.prog (Instr.buildSlice 92 1 #[(0, (Value.func (.func 43) #[] #[(Value.pointer (some ⟨b_, 0, none⟩)), (Value.pointer (some ⟨b_1, 0, none⟩)), (Value.pointer k_), (Value.pointer (some ⟨b_7, 0, none⟩))]))]) hp_12 fun v_ hp_13 =>
          ∃ (x60p_ : Option Addr) (x60n_ x60c_ : Nat), v_ = (Value.slice x60p_ x60n_ x60c_) ∧
          SemH Tryz.prog (Builtin.append_ #[92, 92] 92 #[(Value.slice todop_ todon_ todoc_), (Value.slice x60p_ x60n_ x60c_)]) hp_13 fun v_1 hp_14 =>
          ∃ (x61p_ : Option Addr) (x61n_ x61c_ : Nat), v_1 = (Value.slice x61p_ x61n_ x61c_) ∧
          ∃ b_8 o_3, k_ = some ⟨b_8, o_3, none⟩ ∧
          ∃ x62_ : Int, cellsAt hp_14 b_8 o_3 [(Value.int .i64 x62_)] ∧
          ∀ b_9 hp_15, b_9 = Array.size hp_14 → hp_15 = Array.push hp_14 (.cells (zeros Tryz.prog 3) 3) → (∃ i z, Tryz.prog.info? 3 = some i ∧ i.zero = some z) ∧
          Value.oneCell' (Value.int .i64 x62_) = true ∧ wrAt hp_15 b_9 0 1 ∧ ∀ hp_16, hp_16 = setsH hp_15 b_9 0 [(Value.int .i64 x62_)] →
          ∃ x46_ : Int, cellsAt hp_16 b_9 0 [(Value.int .i64 x46_)] ∧
          ∃ x47_, IntKind.i64.wrap (x46_ + (1 : Int)) = x47_ ∧
          Value.oneCell' (Value.int .i64 x47_) = true ∧ wrAt hp_16 b_9 0 1 ∧ ∀ hp_17, hp_17 = setsH hp_16 b_9 0 [(Value.int .i64 x47_)] →
          (Iv_ [(Value.slice x61p_ x61n_ x61c_), (Value.pointer (some ⟨b_9, 0, none⟩))] hp_17 ∧ m_ [(Value.slice x61p_ x61n_ x61c_), (Value.pointer (some ⟨b_9, 0, none⟩))] hp_17 < m_ [(Value.slice todop_ todon_ todoc_), (Value.pointer k_)] hp_10)) ∧
         ((decide (x42_ < (ByteArray.size image_ : Int))) = false →
          ∃ x64_ : Option Addr, cellsAt hp_10 b_ 0 [(Value.pointer x64_)] ∧
          ∃ x67_ : Option Addr, cellsAt hp_10 b_ 0 [(Value.pointer x67_)] ∧
          SemH Tryz.prog (Instr.buildSlice 92 3 #[(0, (Value.func (.func 25) #[(Value.pointer x64_)] #[])), (1, (Value.func (.func 46) #[] #[(Value.pointer (some ⟨b_, 0, none⟩)), (Value.pointer (some ⟨b_1, 0, none⟩)), (Value.pointer (some ⟨b_2, 0, none⟩))])), (2, (Value.func (.func 25) #[(Value.pointer x67_)] #[]))]) hp_10 fun v_2 hp_18 =>
          ∃ (x69p_ : Option Addr) (x69n_ x69c_ : Nat), v_2 = (Value.slice x69p_ x69n_ x69c_) ∧
          SemH Tryz.prog (Builtin.append_ #[92, 92] 92 #[(Value.slice todop_ todon_ todoc_), (Value.slice x69p_ x69n_ x69c_)]) hp_18 fun v_3 hp_19 =>
          ∃ (x70p_ : Option Addr) (x70n_ x70c_ : Nat), v_3 = (Value.slice x70p_ x70n_ x70c_) ∧
          ∃ (Iv_1 : List Value → Hp → Prop) (m_1 : List Value → Hp → Nat), Iv_1 [(Value.int .i64 (0 : Int))] hp_19 ∧
          (∀ (x73_ : Int) hp_20, Iv_1 [(Value.int .i64 x73_)] hp_20 →
           (((decide (x73_ < ((x70n_ : Nat) : Int))) = true →
             ∃ b_10 o_4, x70p_ = some ⟨b_10, o_4, none⟩ ∧ 0 ≤ x73_ ∧ x73_ < (x70n_ : Int) ∧
             ∃ x76_ : Value, cellsAt hp_20 b_10 (o_4 + Int.toNat x73_ * 1) [x76_] ∧
             ∃ fn_ fst_ cap_, x76_ = Value.func (.func fn_) fst_ cap_ ∧ bodied Tryz.prog fn_ = true ∧
             CallsH Tryz.prog fn_ (fst_.toList ++ [] ++ cap_.toList).toArray hp_20 fun en_3 hp_21 =>
             ∃ x78_ : Int, en_3 = .returned (Value.int .i64 x78_) ∧
             (((decide (x78_ ≠ (0 : Int))) = true →
               R (.returned (Value.int .i64 x78_)) hp_21) ∧
              ((decide (x78_ ≠ (0 : Int))) = false →
               ∃ x82_, IntKind.i64.wrap (x73_ + (1 : Int)) = x82_ ∧
               (Iv_1 [(Value.int .i64 x82_)] hp_21 ∧ m_1 [(Value.int .i64 x82_)] hp_21 < m_1 [(Value.int .i64 x73_)] hp_20)))) ∧
            ((decide (x73_ < ((x70n_ : Nat) : Int))) = false →
             R (.returned (Value.int .i64 (0 : Int))) hp_20)))))))))))) :
  CallsH Tryz.prog 14 #[(Value.pointer d_), (Value.agg #[(Value.int .i64 hf0_), (Value.int .u64 hf1_), (Value.int .u64 hf2_), (Value.int .i64 hf3_), (Value.int .i64 hf4_)]), (Value.string image_)] h R := calls_vc fine false Tryz.func14 (ann := A14) (args := [(Value.pointer d_), (Value.agg #[(Value.int .i64 hf0_), (Value.int .u64 hf1_), (Value.int .u64 hf2_), (Value.int .i64 hf3_), (Value.int .i64 hf4_)]), (Value.string image_)]) (by kernel_rfl) (Eq.mpr (by kernel_rfl) H)
/-- turnout/turnoutlaw20.long -/
def A15 : Ann := (.seq .nil (.seq .nil (.seq (.seq .nil (.block (.loop [(6, (.int .i64))] (.seq (.seq .nil (.cond .nil .nil)) (.seq (.block .nil) .nil))))) (.seq .nil .nil))))
theorem V15 (n_ : Int) (which_ : Int) (h : Hp) (R : Ending → Hp → Prop) (H :
  SemH Tryz.prog (Instr.makeSlice 56 (Value.int .i64 n_) (Value.int .i64 n_)) h fun v_ hp_ =>
  ∃ (x8p_ : Option Addr) (x8n_ x8c_ : Nat), v_ = (Value.slice x8p_ x8n_ x8c_) ∧
  ∃ (Iv_ : List Value → Hp → Prop) (m_ : List Value → Hp → Nat), Iv_ [(Value.int .i64 (0 : Int))] hp_ ∧
  (∀ (i_ : Int) hp_1, Iv_ [(Value.int .i64 i_)] hp_1 →
   (((decide (i_ < n_)) = true →
     (5 : Int) ≠ 0 ∧ ∃ x18_, IntKind.i64.wrap (Int.tdiv i_ (5 : Int)) = x18_ ∧
     ∃ x19_, IntKind.i64.wrap (which_ + x18_) = x19_ ∧
     ∃ x20_, IntKind.u8.wrap x19_ = x20_ ∧
     ∃ b_ o_, x8p_ = some ⟨b_, o_, none⟩ ∧ 0 ≤ i_ ∧ i_ < (x8n_ : Int) ∧
     Value.oneCell' (Value.int .u8 x20_) = true ∧ wrAt hp_1 b_ (o_ + Int.toNat i_ * 1) 1 ∧ ∀ hp_2, hp_2 = setsH hp_1 b_ (o_ + Int.toNat i_ * 1) [(Value.int .u8 x20_)] →
     ∃ x13_, IntKind.i64.wrap (i_ + (1 : Int)) = x13_ ∧
     (Iv_ [(Value.int .i64 x13_)] hp_2 ∧ m_ [(Value.int .i64 x13_)] hp_2 < m_ [(Value.int .i64 i_)] hp_1)) ∧
    ((decide (i_ < n_)) = false →
     SemH Tryz.prog (convert 56 9 (Value.slice x8p_ x8n_ x8c_)) hp_1 fun v_1 hp_3 =>
     ∃ x23_ : ByteArray, v_1 = (Value.string x23_) ∧
     R (.returned (Value.string x23_)) hp_3)))) :
  CallsH Tryz.prog 15 #[(Value.int .i64 n_), (Value.int .i64 which_)] h R := calls_vc fine false Tryz.func15 (ann := A15) (args := [(Value.int .i64 n_), (Value.int .i64 which_)]) (by kernel_rfl) (Eq.mpr (by kernel_rfl) H)
/-- (*turnout/disk.Disk).Cut -/
def A16 : Ann := (.seq (.seq (.join 11) (.cond .nil .nil)) .nil)
theorem V16 (d_ : Option Addr) (steps_ : Int) (h : Hp) (R : Ending → Hp → Prop) (H :
  ∃ B_ : Bool, (∃ x5_, EqV Tryz.prog 26 (Value.pointer d_) (Value.pointer none) x5_ ∧
   ((x5_ = true →
     h = h ∧ B_ = true) ∧
    (x5_ = false →
     ∃ b_ o_, d_ = some ⟨b_, o_, none⟩ ∧
     ∃ x10_ : Bool, cellsAt h b_ (o_ + 4) [(Value.bool x10_)] ∧
     h = h ∧ B_ = x10_))) ∧
  ((B_ = true →
    R (.returned (Value.tuple #[])) h) ∧
   (B_ = false →
    ∃ b_1 o_1, d_ = some ⟨b_1, o_1, none⟩ ∧
    Value.oneCell' (Value.int .i64 (max steps_ (0 : Int))) = true ∧ wrAt h b_1 (o_1 + 5) 1 ∧ ∀ hp_, hp_ = setsH h b_1 (o_1 + 5) [(Value.int .i64 (max steps_ (0 : Int)))] →
    R (.returned (Value.tuple #[])) hp_))) :
  CallsH Tryz.prog 16 #[(Value.pointer d_), (Value.int .i64 steps_)] h R := calls_vc fine false Tryz.func16 (ann := A16) (args := [(Value.pointer d_), (Value.int .i64 steps_)]) (by kernel_rfl) (Eq.mpr (by kernel_rfl) H)
/-- turnout/ckpt.Next -/
def A17 : Ann := (.seq .nil (.cut (.seq (.join 13) (.cond (.seq .nil .nil) .nil)) [] (.seq .nil (.cut (.seq (.join 25) (.cond (.seq .nil .nil) .nil)) [] (.seq .nil .nil)))))
theorem V17 (hf0_ : Int) (hf1_ : Int) (hf2_ : Int) (hf3_ : Int) (hf4_ : Int) (above_ : Int) (h : Hp) (R : Ending → Hp → Prop) (H :
  ∀ b_ hp_, b_ = Array.size h → hp_ = Array.push h (.cells #[(Value.int .i64 hf0_), (Value.int .u64 hf1_), (Value.int .u64 hf2_), (Value.int .i64 hf3_), (Value.int .i64 hf4_)] 39) →
  ∀ b_1 hp_1, b_1 = Array.size hp_ → hp_1 = Array.push hp_ (.cells (zeros Tryz.prog 39) 39) → (∃ i z, Tryz.prog.info? 39 = some i ∧ i.zero = some z) ∧
  ∃ Jv_ : List Value → Hp → Prop,
  (∃ B_ : Bool, (∃ x7_ : Int, cellsAt hp_1 b_ (0 + 0) [(Value.int .i64 x7_)] ∧
    (((decide (x7_ ≠ (0 : Int))) = true →
      ∃ x11_ : Int, cellsAt hp_1 b_ (0 + 0) [(Value.int .i64 x11_)] ∧
      hp_1 = hp_1 ∧ B_ = (decide (x11_ ≠ (1 : Int)))) ∧
     ((decide (x7_ ≠ (0 : Int))) = false →
      hp_1 = hp_1 ∧ B_ = false))) ∧
   ((B_ = true →
     List.length [(Value.int .i64 (0 : Int)), (Value.int .u64 (0 : Int)), (Value.int .u64 (0 : Int)), (Value.int .i64 (0 : Int)), (Value.int .i64 (0 : Int))] = 5 ∧ (∀ c ∈ [(Value.int .i64 (0 : Int)), (Value.int .u64 (0 : Int)), (Value.int .u64 (0 : Int)), (Value.int .i64 (0 : Int)), (Value.int .i64 (0 : Int))], c.oneCell' = true) ∧ wrAt hp_1 b_1 0 5 ∧ ∀ hp_2, hp_2 = setsH hp_1 b_1 0 [(Value.int .i64 (0 : Int)), (Value.int .u64 (0 : Int)), (Value.int .u64 (0 : Int)), (Value.int .i64 (0 : Int)), (Value.int .i64 (0 : Int))] →
     ∃ resf0_ : Int, ∃ resf1_ : Int, ∃ resf2_ : Int, ∃ resf3_ : Int, ∃ resf4_ : Int, cellsAt hp_2 b_1 0 [(Value.int .i64 resf0_), (Value.int .u64 resf1_), (Value.int .u64 resf2_), (Value.int .i64 resf3_), (Value.int .i64 resf4_)] ∧
     R (.returned (Value.tuple #[(Value.agg #[(Value.int .i64 resf0_), (Value.int .u64 resf1_), (Value.int .u64 resf2_), (Value.int .i64 resf3_), (Value.int .i64 resf4_)]), (Value.int .i64 (1 : Int))])) hp_2) ∧
    (B_ = false →
     Jv_ [] hp_1))) ∧
  (∀  hp_3, Jv_ [] hp_3 →
   ∃ x17_ : Int, cellsAt hp_3 b_ (0 + 2) [(Value.int .u64 x17_)] ∧
   ∃ Jv_1 : List Value → Hp → Prop,
   (∃ B_1 : Bool, (∃ x20_ : Int, cellsAt hp_3 b_ (0 + 1) [(Value.int .u64 x20_)] ∧
     (((decide ((9223372036854775807 : Int) ≤ x20_)) = true →
       hp_3 = hp_3 ∧ B_1 = true) ∧
      ((decide ((9223372036854775807 : Int) ≤ x20_)) = false →
       hp_3 = hp_3 ∧ B_1 = (decide ((9223372036854775807 : Int) ≤ (max above_ x17_)))))) ∧
    ((B_1 = true →
      List.length [(Value.int .i64 (0 : Int)), (Value.int .u64 (0 : Int)), (Value.int .u64 (0 : Int)), (Value.int .i64 (0 : Int)), (Value.int .i64 (0 : Int))] = 5 ∧ (∀ c ∈ [(Value.int .i64 (0 : Int)), (Value.int .u64 (0 : Int)), (Value.int .u64 (0 : Int)), (Value.int .i64 (0 : Int)), (Value.int .i64 (0 : Int))], c.oneCell' = true) ∧ wrAt hp_3 b_1 0 5 ∧ ∀ hp_4, hp_4 = setsH hp_3 b_1 0 [(Value.int .i64 (0 : Int)), (Value.int .u64 (0 : Int)), (Value.int .u64 (0 : Int)), (Value.int .i64 (0 : Int)), (Value.int .i64 (0 : Int))] →
      ∃ resf0_1 : Int, ∃ resf1_1 : Int, ∃ resf2_1 : Int, ∃ resf3_1 : Int, ∃ resf4_1 : Int, cellsAt hp_4 b_1 0 [(Value.int .i64 resf0_1), (Value.int .u64 resf1_1), (Value.int .u64 resf2_1), (Value.int .i64 resf3_1), (Value.int .i64 resf4_1)] ∧
      R (.returned (Value.tuple #[(Value.agg #[(Value.int .i64 resf0_1), (Value.int .u64 resf1_1), (Value.int .u64 resf2_1), (Value.int .i64 resf3_1), (Value.int .i64 resf4_1)]), (Value.int .i64 (201 : Int))])) hp_4) ∧
     (B_1 = false →
      Jv_1 [] hp_3))) ∧
   (∀  hp_5, Jv_1 [] hp_5 →
    ∃ x28_ : Int, cellsAt hp_5 b_ (0 + 0) [(Value.int .i64 x28_)] ∧
    ∃ x29_, IntKind.i64.wrap ((1 : Int) - x28_) = x29_ ∧
    ∃ x31_ : Int, cellsAt hp_5 b_ (0 + 1) [(Value.int .u64 x31_)] ∧
    ∃ x32_, IntKind.u64.wrap (x31_ + (1 : Int)) = x32_ ∧
    ∃ x34_, IntKind.u64.wrap ((max above_ x17_) + (1 : Int)) = x34_ ∧
    ∃ x36f0_ : Int, ∃ x36f1_ : Int, cellsAt hp_5 b_ (0 + 3) [(Value.int .i64 x36f0_), (Value.int .i64 x36f1_)] ∧
    List.length [(Value.int .i64 x29_), (Value.int .u64 x32_), (Value.int .u64 x34_), (Value.int .i64 x36f0_), (Value.int .i64 x36f1_)] = 5 ∧ (∀ c ∈ [(Value.int .i64 x29_), (Value.int .u64 x32_), (Value.int .u64 x34_), (Value.int .i64 x36f0_), (Value.int .i64 x36f1_)], c.oneCell' = true) ∧ wrAt hp_5 b_1 0 5 ∧ ∀ hp_6, hp_6 = setsH hp_5 b_1 0 [(Value.int .i64 x29_), (Value.int .u64 x32_), (Value.int .u64 x34_), (Value.int .i64 x36f0_), (Value.int .i64 x36f1_)] →
    ∃ resf0_2 : Int, ∃ resf1_2 : Int, ∃ resf2_2 : Int, ∃ resf3_2 : Int, ∃ resf4_2 : Int, cellsAt hp_6 b_1 0 [(Value.int .i64 resf0_2), (Value.int .u64 resf1_2), (Value.int .u64 resf2_2), (Value.int .i64 resf3_2), (Value.int .i64 resf4_2)] ∧
    R (.returned (Value.tuple #[(Value.agg #[(Value.int .i64 resf0_2), (Value.int .u64 resf1_2), (Value.int .u64 resf2_2), (Value.int .i64 resf3_2), (Value.int .i64 resf4_2)]), (Value.int .i64 (0 : Int))])) hp_6))) :
  CallsH Tryz.prog 17 #[(Value.agg #[(Value.int .i64 hf0_), (Value.int .u64 hf1_), (Value.int .u64 hf2_), (Value.int .i64 hf3_), (Value.int .i64 hf4_)]), (Value.int .u64 above_)] h R := calls_vc fine false Tryz.func17 (ann := A17) (args := [(Value.agg #[(Value.int .i64 hf0_), (Value.int .u64 hf1_), (Value.int .u64 hf2_), (Value.int .i64 hf3_), (Value.int .i64 hf4_)]), (Value.int .u64 above_)]) (by kernel_rfl) (Eq.mpr (by kernel_rfl) H)
/-- turnout/ckpt.Find -/
def A18 : Ann := (.seq .nil (.seq .nil (.seq (.seq .nil (.cond (.seq .nil .nil) .nil)) (.seq (.seq .nil (.cond (.seq .nil .nil) .nil)) (.seq .nil (.seq .nil (.seq (.seq .nil (.block (.loop [(8, .slice), (9, (.int .i64))] (.seq (.seq .nil (.cond .nil .nil)) (.seq (.block (.seq .nil (.seq (.seq .nil (.cond (.seq .nil .nil) .nil)) (.seq (.seq (.join 85) (.cond (.seq .nil .nil) .nil)) .nil)))) .nil))))) (.seq .nil (.seq (.seq (.drawLast [4]) (.cond (.seq .nil .nil) .nil)) (.seq .nil .nil))))))))))
theorem V18 (d_ : Option Addr) (h : Hp) (R : Ending → Hp → Prop) (H :
  ∀ b_ hp_, b_ = Array.size h → hp_ = Array.push h (.cells (zeros Tryz.prog 39) 39) → (∃ i z, Tryz.prog.info? 39 = some i ∧ i.zero = some z) ∧
  CallsH Tryz.prog 47 #[(Value.pointer d_)] hp_ fun en_ hp_1 =>
  ∃ (x15r0p_ : Option Addr) (x15r0n_ x15r0c_ : Nat), ∃ x15r1_ : Int, en_ = .returned (Value.tuple #[(Value.slice x15r0p_ x15r0n_ x15r0c_), (Value.int .i64 x15r1_)]) ∧
  (((decide (x15r1_ ≠ (0 : Int))) = true →
    List.length [(Value.int .i64 (0 : Int)), (Value.int .u64 (0 : Int)), (Value.int .u64 (0 : Int)), (Value.int .i64 (0 : Int)), (Value.int .i64 (0 : Int))] = 5 ∧ (∀ c ∈ [(Value.int .i64 (0 : Int)), (Value.int .u64 (0 : Int)), (Value.int .u64 (0 : Int)), (Value.int .i64 (0 : Int)), (Value.int .i64 (0 : Int))], c.oneCell' = true) ∧ wrAt hp_1 b_ 0 5 ∧ ∀ hp_2, hp_2 = setsH hp_1 b_ 0 [(Value.int .i64 (0 : Int)), (Value.int .u64 (0 : Int)), (Value.int .u64 (0 : Int)), (Value.int .i64 (0 : Int)), (Value.int .i64 (0 : Int))] →
    ∃ resf0_ : Int, ∃ resf1_ : Int, ∃ resf2_ : Int, ∃ resf3_ : Int, ∃ resf4_ : Int, cellsAt hp_2 b_ 0 [(Value.int .i64 resf0_), (Value.int .u64 resf1_), (Value.int .u64 resf2_), (Value.int .i64 resf3_), (Value.int .i64 resf4_)] ∧
    R (.returned (Value.tuple #[(Value.agg #[(Value.int .i64 resf0_), (Value.int .u64 resf1_), (Value.int .u64 resf2_), (Value.int .i64 resf3_), (Value.int .i64 resf4_)]), (Value.string (⟨#[]⟩ : ByteArray)), (Value.int .i64 x15r1_)])) hp_2) ∧
   ((decide (x15r1_ ≠ (0 : Int))) = false →
    (((decide (((x15r0n_ : Nat) : Int) = (0 : Int))) = true →
      List.length [(Value.int .i64 (0 : Int)), (Value.int .u64 (0 : Int)), (Value.int .u64 (0 : Int)), (Value.int .i64 (0 : Int)), (Value.int .i64 (0 : Int))] = 5 ∧ (∀ c ∈ [(Value.int .i64 (0 : Int)), (Value.int .u64 (0 : Int)), (Value.int .u64 (0 : Int)), (Value.int .i64 (0 : Int)), (Value.int .i64 (0 : Int))], c.oneCell' = true) ∧ wrAt hp_1 b_ 0 5 ∧ ∀ hp_3, hp_3 = setsH hp_1 b_ 0 [(Value.int .i64 (0 : Int)), (Value.int .u64 (0 : Int)), (Value.int .u64 (0 : Int)), (Value.int .i64 (0 : Int)), (Value.int .i64 (0 : Int))] →
      ∃ resf0_1 : Int, ∃ resf1_1 : Int, ∃ resf2_1 : Int, ∃ resf3_1 : Int, ∃ resf4_1 : Int, cellsAt hp_3 b_ 0 [(Value.int .i64 resf0_1), (Value.int .u64 resf1_1), (Value.int .u64 resf2_1), (Value.int .i64 resf3_1), (Value.int .i64 resf4_1)] ∧
      R (.returned (Value.tuple #[(Value.agg #[(Value.int .i64 resf0_1), (Value.int .u64 resf1_1), (Value.int .u64 resf2_1), (Value.int .i64 resf3_1), (Value.int .i64 resf4_1)]), (Value.string (⟨#[]⟩ : ByteArray)), (Value.int .i64 (200 : Int))])) hp_3) ∧
     ((decide (((x15r0n_ : Nat) : Int) = (0 : Int))) = false →
      ∃ b_1 o_, x15r0p_ = some ⟨b_1, o_, none⟩ ∧ 0 ≤ (0 : Int) ∧ (0 : Int) < (x15r0n_ : Int) ∧
      ∃ x28f0_ : Int, ∃ x28f1_ : Int, ∃ x28f2_ : Int, ∃ x28f3_ : Int, ∃ x28f4_ : Int, ∃ x28f5_ : Int, ∃ x28f6_ : Int, cellsAt hp_1 b_1 (o_ + Int.toNat (0 : Int) * 7) [(Value.int .i64 x28f0_), (Value.int .u64 x28f1_), (Value.int .u64 x28f2_), (Value.int .i64 x28f3_), (Value.int .i64 x28f4_), (Value.int .i64 x28f5_), (Value.int .u32 x28f6_)] ∧
      ∀ b_2 hp_4, b_2 = Array.size hp_1 → hp_4 = Array.push hp_1 (.cells (zeros Tryz.prog 101) 101) → (∃ i z, Tryz.prog.info? 101 = some i ∧ i.zero = some z) ∧
      List.length [(Value.int .i64 x28f0_), (Value.int .u64 x28f1_), (Value.int .u64 x28f2_), (Value.int .i64 x28f3_), (Value.int .i64 x28f4_), (Value.int .i64 x28f5_), (Value.int .u32 x28f6_)] = 7 ∧ (∀ c ∈ [(Value.int .i64 x28f0_), (Value.int .u64 x28f1_), (Value.int .u64 x28f2_), (Value.int .i64 x28f3_), (Value.int .i64 x28f4_), (Value.int .i64 x28f5_), (Value.int .u32 x28f6_)], c.oneCell' = true) ∧ wrAt hp_4 b_2 0 7 ∧ ∀ hp_5, hp_5 = setsH hp_4 b_2 0 [(Value.int .i64 x28f0_), (Value.int .u64 x28f1_), (Value.int .u64 x28f2_), (Value.int .i64 x28f3_), (Value.int .i64 x28f4_), (Value.int .i64 x28f5_), (Value.int .u32 x28f6_)] →
      ∃ x30_ : Int, cellsAt hp_5 b_2 (0 + 5) [(Value.int .i64 x30_)] ∧
      SemH Tryz.prog (Instr.makeSlice 56 (Value.int .i64 (0 : Int)) (Value.int .i64 x30_)) hp_5 fun v_ hp_6 =>
      ∃ (x31p_ : Option Addr) (x31n_ x31c_ : Nat), v_ = (Value.slice x31p_ x31n_ x31c_) ∧
      ∃ (Iv_ : List Value → Hp → Prop) (m_ : List Value → Hp → Nat), Iv_ [(Value.slice x31p_ x31n_ x31c_), (Value.int .i64 (0 : Int))] hp_6 ∧
      (∀ (bp_ : Option Addr) (bn_ bc_ : Nat) (k_ : Int) hp_7, Iv_ [(Value.slice bp_ bn_ bc_), (Value.int .i64 k_)] hp_7 →
       ∃ x35_ : Int, cellsAt hp_7 b_2 (0 + 5) [(Value.int .i64 x35_)] ∧
       (((decide (((bn_ : Nat) : Int) < x35_)) = true →
         ∃ x42f0_ : Int, ∃ x42f1_ : Int, ∃ x42f2_ : Int, ∃ x42f3_ : Int, ∃ x42f4_ : Int, cellsAt hp_7 b_2 (0 + 0) [(Value.int .i64 x42f0_), (Value.int .u64 x42f1_), (Value.int .u64 x42f2_), (Value.int .i64 x42f3_), (Value.int .i64 x42f4_)] ∧
         CallsH Tryz.prog 45 #[(Value.agg #[(Value.int .i64 x42f0_), (Value.int .u64 x42f1_), (Value.int .u64 x42f2_), (Value.int .i64 x42f3_), (Value.int .i64 x42f4_)])] hp_7 fun en_1 hp_8 =>
         ∃ x43_ : Int, en_1 = .returned (Value.int .i64 x43_) ∧
         ∃ x45_, IntKind.i64.wrap (x43_ + k_) = x45_ ∧
         CallsH Tryz.prog 48 #[(Value.pointer d_), (Value.int .i64 x45_)] hp_8 fun en_2 hp_9 =>
         ∃ x46r0f0_ : Int, ∃ x46r0f1_ : Int, ∃ x46r0f2_ : Int, ∃ x46r0f3_ : ByteArray, ∃ x46r1_ : Int, en_2 = .returned (Value.tuple #[(Value.agg #[(Value.int .i64 x46r0f0_), (Value.int .u64 x46r0f1_), (Value.int .i64 x46r0f2_), (Value.string x46r0f3_)]), (Value.int .i64 x46r1_)]) ∧
         ∀ b_3 hp_10, b_3 = Array.size hp_9 → hp_10 = Array.push hp_9 (.cells (zeros Tryz.prog 95) 95) → (∃ i z, Tryz.prog.info? 95 = some i ∧ i.zero = some z) ∧
         List.length [(Value.int .i64 x46r0f0_), (Value.int .u64 x46r0f1_), (Value.int .i64 x46r0f2_), (Value.string x46r0f3_)] = 4 ∧ (∀ c ∈ [(Value.int .i64 x46r0f0_), (Value.int .u64 x46r0f1_), (Value.int .i64 x46r0f2_), (Value.string x46r0f3_)], c.oneCell' = true) ∧ wrAt hp_10 b_3 0 4 ∧ ∀ hp_11, hp_11 = setsH hp_10 b_3 0 [(Value.int .i64 x46r0f0_), (Value.int .u64 x46r0f1_), (Value.int .i64 x46r0f2_), (Value.string x46r0f3_)] →
         (((decide (x46r1_ = (40 : Int))) = true →
           List.length [(Value.int .i64 (0 : Int)), (Value.int .u64 (0 : Int)), (Value.int .u64 (0 : Int)), (Value.int .i64 (0 : Int)), (Value.int .i64 (0 : Int))] = 5 ∧ (∀ c ∈ [(Value.int .i64 (0 : Int)), (Value.int .u64 (0 : Int)), (Value.int .u64 (0 : Int)), (Value.int .i64 (0 : Int)), (Value.int .i64 (0 : Int))], c.oneCell' = true) ∧ wrAt hp_11 b_ 0 5 ∧ ∀ hp_12, hp_12 = setsH hp_11 b_ 0 [(Value.int .i64 (0 : Int)), (Value.int .u64 (0 : Int)), (Value.int .u64 (0 : Int)), (Value.int .i64 (0 : Int)), (Value.int .i64 (0 : Int))] →
           ∃ resf0_2 : Int, ∃ resf1_2 : Int, ∃ resf2_2 : Int, ∃ resf3_2 : Int, ∃ resf4_2 : Int, cellsAt hp_12 b_ 0 [(Value.int .i64 resf0_2), (Value.int .u64 resf1_2), (Value.int .u64 resf2_2), (Value.int .i64 resf3_2), (Value.int .i64 resf4_2)] ∧
           R (.returned (Value.tuple #[(Value.agg #[(Value.int .i64 resf0_2), (Value.int .u64 resf1_2), (Value.int .u64 resf2_2), (Value.int .i64 resf3_2), (Value.int .i64 resf4_2)]), (Value.string (⟨#[]⟩ : ByteArray)), (Value.int .i64 x46r1_)])) hp_12) ∧
          ((decide (x46r1_ = (40 : Int))) = false →
           ∃ B_ : Bool, ((((decide (x46r1_ ≠ (0 : Int))) = true →
              hp_11 = hp_11 ∧ B_ = true) ∧
             ((decide (x46r1_ ≠ (0 : Int))) = false →
              ∃ x57_ : Int, cellsAt hp_11 b_3 (0 + 0) [(Value.int .i64 x57_)] ∧
              (((decide (x57_ ≠ (2 : Int))) = true →
                hp_11 = hp_11 ∧ B_ = true) ∧
               ((decide (x57_ ≠ (2 : Int))) = false →
                ∃ x62_ : Int, cellsAt hp_11 b_3 (0 + 1) [(Value.int .u64 x62_)] ∧
                ∃ x65_ : Int, cellsAt hp_11 b_2 ((0 + 0) + 1) [(Value.int .u64 x65_)] ∧
                (((decide (x62_ ≠ x65_)) = true →
                  hp_11 = hp_11 ∧ B_ = true) ∧
                 ((decide (x62_ ≠ x65_)) = false →
                  ∃ x70_ : Int, cellsAt hp_11 b_3 (0 + 2) [(Value.int .i64 x70_)] ∧
                  (((decide (x70_ ≠ k_)) = true →
                    hp_11 = hp_11 ∧ B_ = true) ∧
                   ((decide (x70_ ≠ k_)) = false →
                    ∃ x76_ : ByteArray, cellsAt hp_11 b_3 (0 + 3) [(Value.string x76_)] ∧
                    ∃ x79_ : Int, cellsAt hp_11 b_2 (0 + 5) [(Value.int .i64 x79_)] ∧
                    ∃ x82_, IntKind.i64.wrap (x79_ - ((bn_ : Nat) : Int)) = x82_ ∧
                    hp_11 = hp_11 ∧ B_ = (decide ((ByteArray.size x76_ : Int) ≠ (min x82_ (491 : Int))))))))))))) ∧
           ((B_ = true →
             List.length [(Value.int .i64 (0 : Int)), (Value.int .u64 (0 : Int)), (Value.int .u64 (0 : Int)), (Value.int .i64 (0 : Int)), (Value.int .i64 (0 : Int))] = 5 ∧ (∀ c ∈ [(Value.int .i64 (0 : Int)), (Value.int .u64 (0 : Int)), (Value.int .u64 (0 : Int)), (Value.int .i64 (0 : Int)), (Value.int .i64 (0 : Int))], c.oneCell' = true) ∧ wrAt hp_11 b_ 0 5 ∧ ∀ hp_13, hp_13 = setsH hp_11 b_ 0 [(Value.int .i64 (0 : Int)), (Value.int .u64 (0 : Int)), (Value.int .u64 (0 : Int)), (Value.int .i64 (0 : Int)), (Value.int .i64 (0 : Int))] →
             ∃ resf0_3 : Int, ∃ resf1_3 : Int, ∃ resf2_3 : Int, ∃ resf3_3 : Int, ∃ resf4_3 : Int, cellsAt hp_13 b_ 0 [(Value.int .i64 resf0_3), (Value.int .u64 resf1_3), (Value.int .u64 resf2_3), (Value.int .i64 resf3_3), (Value.int .i64 resf4_3)] ∧
             R (.returned (Value.tuple #[(Value.agg #[(Value.int .i64 resf0_3), (Value.int .u64 resf1_3), (Value.int .u64 resf2_3), (Value.int .i64 resf3_3), (Value.int .i64 resf4_3)]), (Value.string (⟨#[]⟩ : ByteArray)), (Value.int .i64 (180 : Int))])) hp_13) ∧
            (B_ = false →
             ∃ x89_ : ByteArray, cellsAt hp_11 b_3 (0 + 3) [(Value.string x89_)] ∧
             SemH Tryz.prog (Builtin.append_ #[56, 9] 56 #[(Value.slice bp_ bn_ bc_), (Value.string x89_)]) hp_11 fun v_1 hp_14 =>
             ∃ (x90p_ : Option Addr) (x90n_ x90c_ : Nat), v_1 = (Value.slice x90p_ x90n_ x90c_) ∧
             ∃ x38_, IntKind.i64.wrap (k_ + (1 : Int)) = x38_ ∧
             (Iv_ [(Value.slice x90p_ x90n_ x90c_), (Value.int .i64 x38_)] hp_14 ∧ m_ [(Value.slice x90p_ x90n_ x90c_), (Value.int .i64 x38_)] hp_14 < m_ [(Value.slice bp_ bn_ bc_), (Value.int .i64 k_)] hp_7)))))) ∧
        ((decide (((bn_ : Nat) : Int) < x35_)) = false →
         SemH Tryz.prog (convert 56 9 (Value.slice bp_ bn_ bc_)) hp_7 fun v_2 hp_15 =>
         ∃ x92_ : ByteArray, v_2 = (Value.string x92_) ∧
         ∃ Cv_ : Hp → Prop, Cv_ hp_15 ∧
         SemH Tryz.prog (Instr.buildSlice 57 1 #[(0, (Value.string x92_))]) hp_15 fun v_3 hp_16 =>
         ∃ (x94p_ : Option Addr) (x94n_ x94c_ : Nat), v_3 = (Value.slice x94p_ x94n_ x94c_) ∧
         Cv_ hp_16 ∧
         CallsH Tryz.prog 49 #[(Value.slice x94p_ x94n_ x94c_)] hp_16 fun en_3 hp_17 =>
         ∃ x95_ : Int, en_3 = .returned (Value.int .u32 x95_) ∧
         Cv_ hp_17 ∧
         ∃ x97_ : Int, (∀ h', Cv_ h' → cellsAt h' b_2 (0 + 6) [(Value.int .u32 x97_)]) ∧
         (((decide (x95_ ≠ x97_)) = true →
           List.length [(Value.int .i64 (0 : Int)), (Value.int .u64 (0 : Int)), (Value.int .u64 (0 : Int)), (Value.int .i64 (0 : Int)), (Value.int .i64 (0 : Int))] = 5 ∧ (∀ c ∈ [(Value.int .i64 (0 : Int)), (Value.int .u64 (0 : Int)), (Value.int .u64 (0 : Int)), (Value.int .i64 (0 : Int)), (Value.int .i64 (0 : Int))], c.oneCell' = true) ∧ wrAt hp_17 b_ 0 5 ∧ ∀ hp_18, hp_18 = setsH hp_17 b_ 0 [(Value.int .i64 (0 : Int)), (Value.int .u64 (0 : Int)), (Value.int .u64 (0 : Int)), (Value.int .i64 (0 : Int)), (Value.int .i64 (0 : Int))] →
           ∃ resf0_4 : Int, ∃ resf1_4 : Int, ∃ resf2_4 : Int, ∃ resf3_4 : Int, ∃ resf4_4 : Int, cellsAt hp_18 b_ 0 [(Value.int .i64 resf0_4), (Value.int .u64 resf1_4), (Value.int .u64 resf2_4), (Value.int .i64 resf3_4), (Value.int .i64 resf4_4)] ∧
           R (.returned (Value.tuple #[(Value.agg #[(Value.int .i64 resf0_4), (Value.int .u64 resf1_4), (Value.int .u64 resf2_4), (Value.int .i64 resf3_4), (Value.int .i64 resf4_4)]), (Value.string (⟨#[]⟩ : ByteArray)), (Value.int .i64 (180 : Int))])) hp_18) ∧
          ((decide (x95_ ≠ x97_)) = false →
           ∃ x101f0_ : Int, ∃ x101f1_ : Int, ∃ x101f2_ : Int, ∃ x101f3_ : Int, ∃ x101f4_ : Int, cellsAt hp_17 b_2 (0 + 0) [(Value.int .i64 x101f0_), (Value.int .u64 x101f1_), (Value.int .u64 x101f2_), (Value.int .i64 x101f3_), (Value.int .i64 x101f4_)] ∧
           List.length [(Value.int .i64 x101f0_), (Value.int .u64 x101f1_), (Value.int .u64 x101f2_), (Value.int .i64 x101f3_), (Value.int .i64 x101f4_)] = 5 ∧ (∀ c ∈ [(Value.int .i64 x101f0_), (Value.int .u64 x101f1_), (Value.int .u64 x101f2_), (Value.int .i64 x101f3_), (Value.int .i64 x101f4_)], c.oneCell' = true) ∧ wrAt hp_17 b_ 0 5 ∧ ∀ hp_19, hp_19 = setsH hp_17 b_ 0 [(Value.int .i64 x101f0_), (Value.int .u64 x101f1_), (Value.int .u64 x101f2_), (Value.int .i64 x101f3_), (Value.int .i64 x101f4_)] →
           ∃ resf0_5 : Int, ∃ resf1_5 : Int, ∃ resf2_5 : Int, ∃ resf3_5 : Int, ∃ resf4_5 : Int, cellsAt hp_19 b_ 0 [(Value.int .i64 resf0_5), (Value.int .u64 resf1_5), (Value.int .u64 resf2_5), (Value.int .i64 resf3_5), (Value.int .i64 resf4_5)] ∧
           R (.returned (Value.tuple #[(Value.agg #[(Value.int .i64 resf0_5), (Value.int .u64 resf1_5), (Value.int .u64 resf2_5), (Value.int .i64 resf3_5), (Value.int .i64 resf4_5)]), (Value.string x92_), (Value.int .i64 (0 : Int))])) hp_19)))))))))) :
  CallsH Tryz.prog 18 #[(Value.pointer d_)] h R := calls_vc fine false Tryz.func18 (ann := A18) (args := [(Value.pointer d_)]) (by kernel_rfl) (Eq.mpr (by kernel_rfl) H)
/-- turnout/turnoutref04.noughts -/
def A19 : Ann := (.seq .nil (.seq .nil .nil))
theorem V19  (h : Hp) (R : Ending → Hp → Prop) (H :
  SemH Tryz.prog (Instr.makeSlice 56 (Value.int .i64 (512 : Int)) (Value.int .i64 (512 : Int))) h fun v_ hp_ =>
  ∃ (x1p_ : Option Addr) (x1n_ x1c_ : Nat), v_ = (Value.slice x1p_ x1n_ x1c_) ∧
  SemH Tryz.prog (convert 56 9 (Value.slice x1p_ x1n_ x1c_)) hp_ fun v_1 hp_1 =>
  ∃ x2_ : ByteArray, v_1 = (Value.string x2_) ∧
  R (.returned (Value.string x2_)) hp_1) :
  CallsH Tryz.prog 19 #[] h R := calls_vc fine false Tryz.func19 (ann := A19) (args := []) (by kernel_rfl) (Eq.mpr (by kernel_rfl) H)
/-- (turnout/turnoutlaw20.pair).writes -/
def A20 : Ann := (.seq .nil (.seq (.drawLast [6, 7]) .nil))
theorem V20 (pf0_ : Option Addr) (pf1_ : Option Addr) (hf0_ : Int) (hf1_ : Int) (hf2_ : Int) (hf3_ : Int) (hf4_ : Int) (s_ : ByteArray) (h : Hp) (R : Ending → Hp → Prop) (H :
  ∀ b_ hp_, b_ = Array.size h → hp_ = Array.push h (.cells #[(Value.pointer pf0_), (Value.pointer pf1_)] 34) →
  ∀ b_1 hp_1, b_1 = Array.size hp_ → hp_1 = Array.push hp_ (.cells #[(Value.int .i64 hf0_), (Value.int .u64 hf1_), (Value.int .u64 hf2_), (Value.int .i64 hf3_), (Value.int .i64 hf4_)] 39) →
  ∃ Cv_ : Hp → Prop, Cv_ hp_1 ∧
  ∃ x8_ : Option Addr, cellsAt hp_1 b_ (0 + 0) [(Value.pointer x8_)] ∧
  ∃ x9f0_ : Int, ∃ x9f1_ : Int, ∃ x9f2_ : Int, ∃ x9f3_ : Int, ∃ x9f4_ : Int, cellsAt hp_1 b_1 0 [(Value.int .i64 x9f0_), (Value.int .u64 x9f1_), (Value.int .u64 x9f2_), (Value.int .i64 x9f3_), (Value.int .i64 x9f4_)] ∧
  CallsH Tryz.prog 14 #[(Value.pointer x8_), (Value.agg #[(Value.int .i64 x9f0_), (Value.int .u64 x9f1_), (Value.int .u64 x9f2_), (Value.int .i64 x9f3_), (Value.int .i64 x9f4_)]), (Value.string s_)] hp_1 fun en_ hp_2 =>
  ∃ x11_ : Int, en_ = .returned (Value.int .i64 x11_) ∧
  Cv_ hp_2 ∧
  ∃ x13_ : Option Addr, (∀ h', Cv_ h' → cellsAt h' b_ (0 + 1) [(Value.pointer x13_)]) ∧
  ∃ x14f0_ : Int, ∃ x14f1_ : Int, ∃ x14f2_ : Int, ∃ x14f3_ : Int, ∃ x14f4_ : Int, (∀ h', Cv_ h' → cellsAt h' b_1 0 [(Value.int .i64 x14f0_), (Value.int .u64 x14f1_), (Value.int .u64 x14f2_), (Value.int .i64 x14f3_), (Value.int .i64 x14f4_)]) ∧
  CallsH Tryz.prog 50 #[(Value.pointer x13_), (Value.agg #[(Value.int .i64 x14f0_), (Value.int .u64 x14f1_), (Value.int .u64 x14f2_), (Value.int .i64 x14f3_), (Value.int .i64 x14f4_)]), (Value.string s_)] hp_2 fun en_1 hp_3 =>
  ∃ x16_ : Int, en_1 = .returned (Value.int .i64 x16_) ∧
  Cv_ hp_3 ∧
  R (.returned (Value.bool (decide (x11_ = x16_)))) hp_3) :
  CallsH Tryz.prog 20 #[(Value.agg #[(Value.pointer pf0_), (Value.pointer pf1_)]), (Value.agg #[(Value.int .i64 hf0_), (Value.int .u64 hf1_), (Value.int .u64 hf2_), (Value.int .i64 hf3_), (Value.int .i64 hf4_)]), (Value.string s_)] h R := calls_vc fine false Tryz.func20 (ann := A20) (args := [(Value.agg #[(Value.pointer pf0_), (Value.pointer pf1_)]), (Value.agg #[(Value.int .i64 hf0_), (Value.int .u64 hf1_), (Value.int .u64 hf2_), (Value.int .i64 hf3_), (Value.int .i64 hf4_)]), (Value.string s_)]) (by kernel_rfl) (Eq.mpr (by kernel_rfl) H)
/-- (turnout/turnoutlaw20.pair).fit -/
def A21 : Ann := (.seq .nil (.seq .nil (.seq (.seq .nil (.cond (.seq (.drawLast [3]) .nil) .nil)) (.seq .nil (.seq (.orders 24 [[0, 1, 2, 3, 4, 5, 6, 7, 8, 9, 10, 11, 12, 13, 14, 15, 16, 17, 18, 19, 20, 21, 22, 23, 24, 25], [0, 1, 2, 24, 3, 4, 5, 6, 7, 8, 9, 10, 11, 12, 13, 14, 15, 16, 17, 18, 19, 20, 21, 22, 23, 25], [0, 1, 2, 3, 4, 5, 6, 7, 8, 9, 10, 11, 12, 13, 14, 15, 16, 24, 17, 18, 19, 20, 21, 22, 23, 25]] [2, 6, 11, 16]) (.seq (.drawLast [0, 10]) .nil))))))
theorem V21 (pf0_ : Option Addr) (pf1_ : Option Addr) (of0_ : Int) (of1_ : Int) (of2_ : Int) (of3_ : Int) (of4_ : Int) (of5_ : Int) (of6_ : Int) (of7_ : Int) (of8_ : ByteArray) (of9p_ : Option Addr) (of9n_ of9c_ : Nat) (h : Hp) (R : Ending → Hp → Prop) (H :
  ∀ b_ hp_, b_ = Array.size h → hp_ = Array.push h (.cells #[(Value.pointer pf0_), (Value.pointer pf1_)] 34) →
  ∀ b_1 hp_1, b_1 = Array.size hp_ → hp_1 = Array.push hp_ (.cells #[(Value.int .i64 of0_), (Value.int .i64 of1_), (Value.int .i64 of2_), (Value.int .i64 of3_), (Value.int .u64 of4_), (Value.int .u64 of5_), (Value.int .i64 of6_), (Value.int .i64 of7_), (Value.string of8_), (Value.slice of9p_ of9n_ of9c_)] 42) →
  ∀ b_2 hp_2, b_2 = Array.size hp_1 → hp_2 = Array.push hp_1 (.cells (zeros Tryz.prog 39) 39) → (∃ i z, Tryz.prog.info? 39 = some i ∧ i.zero = some z) ∧
  ∃ x10_ : Option Addr, cellsAt hp_2 b_ (0 + 1) [(Value.pointer x10_)] ∧
  CallsH Tryz.prog 51 #[(Value.pointer x10_)] hp_2 fun en_ hp_3 =>
  ∃ x11_ : Int, en_ = .returned (Value.int .i64 x11_) ∧
  ∃ x12_, IntKind.i64.wrap (x11_ - (3 : Int)) = x12_ ∧
  (2 : Int) ≠ 0 ∧ ∃ x13_, IntKind.i64.wrap (Int.tdiv x12_ (2 : Int)) = x13_ ∧
  (((decide (x13_ < (1 : Int))) = true →
    ∃ Cv_ : Hp → Prop, Cv_ hp_3 ∧
    ∃ x17f0_ : Int, ∃ x17f1_ : Int, ∃ x17f2_ : Int, ∃ x17f3_ : Int, ∃ x17f4_ : Int, cellsAt hp_3 b_1 (0 + 3) [(Value.int .i64 x17f0_), (Value.int .u64 x17f1_), (Value.int .u64 x17f2_), (Value.int .i64 x17f3_), (Value.int .i64 x17f4_)] ∧
    ∃ x19_ : ByteArray, (∀ h', Cv_ h' → cellsAt h' b_1 (0 + 8) [(Value.string x19_)]) ∧
    List.length [(Value.int .i64 x17f0_), (Value.int .u64 x17f1_), (Value.int .u64 x17f2_), (Value.int .i64 x17f3_), (Value.int .i64 x17f4_)] = 5 ∧ (∀ c ∈ [(Value.int .i64 x17f0_), (Value.int .u64 x17f1_), (Value.int .u64 x17f2_), (Value.int .i64 x17f3_), (Value.int .i64 x17f4_)], c.oneCell' = true) ∧ wrAt hp_3 b_2 0 5 ∧ ∀ hp_4, hp_4 = setsH hp_3 b_2 0 [(Value.int .i64 x17f0_), (Value.int .u64 x17f1_), (Value.int .u64 x17f2_), (Value.int .i64 x17f3_), (Value.int .i64 x17f4_)] →
    Cv_ hp_4 ∧
    ∃ resf0_ : Int, ∃ resf1_ : Int, ∃ resf2_ : Int, ∃ resf3_ : Int, ∃ resf4_ : Int, cellsAt hp_4 b_2 0 [(Value.int .i64 resf0_), (Value.int .u64 resf1_), (Value.int .u64 resf2_), (Value.int .i64 resf3_), (Value.int .i64 resf4_)] ∧
    R (.returned (Value.tuple #[(Value.agg #[(Value.int .i64 resf0_), (Value.int .u64 resf1_), (Value.int .u64 resf2_), (Value.int .i64 resf3_), (Value.int .i64 resf4_)]), (Value.string x19_)])) hp_4) ∧
   ((decide (x13_ < (1 : Int))) = false →
    ∃ x21_ : Int, cellsAt hp_3 b_1 (0 + 2) [(Value.int .i64 x21_)] ∧
    CallsH Tryz.prog 5 #[(Value.int .i64 x21_), (Value.int .i64 x13_)] hp_3 fun en_1 hp_5 =>
    ∃ x23_ : Int, en_1 = .returned (Value.int .i64 x23_) ∧
    ∃ x24_, IntKind.i64.wrap ((1 : Int) + x23_) = x24_ ∧
    (∃ Cv_1 : Hp → Prop, Cv_1 hp_5 ∧
     ∃ x27_ : Int, (∀ h', Cv_1 h' → cellsAt h' b_1 ((0 + 3) + 0) [(Value.int .i64 x27_)]) ∧
     CallsH Tryz.prog 5 #[(Value.int .i64 x27_), (Value.int .i64 (2 : Int))] hp_5 fun en_2 hp_6 =>
     ∃ x28_ : Int, en_2 = .returned (Value.int .i64 x28_) ∧
     Cv_1 hp_6 ∧
     ∃ x31_ : Int, (∀ h', Cv_1 h' → cellsAt h' b_1 ((0 + 3) + 1) [(Value.int .u64 x31_)]) ∧
     (9 : Int) ≠ 0 ∧ ∃ x32_, Int.tmod x31_ (9 : Int) = x32_ ∧
     ∃ x33_, IntKind.u64.wrap ((1 : Int) + x32_) = x33_ ∧
     ∃ x36_ : Int, (∀ h', Cv_1 h' → cellsAt h' b_1 ((0 + 3) + 2) [(Value.int .u64 x36_)]) ∧
     (9 : Int) ≠ 0 ∧ ∃ x37_, Int.tmod x36_ (9 : Int) = x37_ ∧
     ∃ x38_, IntKind.u64.wrap ((1 : Int) + x37_) = x38_ ∧
     ∃ x41_ : Option Addr, (∀ h', Cv_1 h' → cellsAt h' b_ (0 + 1) [(Value.pointer x41_)]) ∧
     CallsH Tryz.prog 51 #[(Value.pointer x41_)] hp_6 fun en_3 hp_7 =>
     ∃ x42_ : Int, en_3 = .returned (Value.int .i64 x42_) ∧
     Cv_1 hp_7 ∧
     ∃ x43_, IntKind.i64.wrap (x42_ - (2 : Int)) = x43_ ∧
     ∃ x45_, IntKind.i64.wrap ((2 : Int) * x24_) = x45_ ∧
     ∃ x46_, IntKind.i64.wrap (x43_ - x45_) = x46_ ∧
     ∀ b_3 hp_8, b_3 = Array.size hp_7 → hp_8 = Array.push hp_7 (.cells (zeros Tryz.prog 39) 39) → (∃ i z, Tryz.prog.info? 39 = some i ∧ i.zero = some z) ∧
     Cv_1 hp_8 ∧
     List.length [(Value.int .i64 x28_), (Value.int .u64 x33_), (Value.int .u64 x38_), (Value.int .i64 x24_), (Value.int .i64 x46_)] = 5 ∧ (∀ c ∈ [(Value.int .i64 x28_), (Value.int .u64 x33_), (Value.int .u64 x38_), (Value.int .i64 x24_), (Value.int .i64 x46_)], c.oneCell' = true) ∧ wrAt hp_8 b_3 0 5 ∧ ∀ hp_9, hp_9 = setsH hp_8 b_3 0 [(Value.int .i64 x28_), (Value.int .u64 x33_), (Value.int .u64 x38_), (Value.int .i64 x24_), (Value.int .i64 x46_)] →
     Cv_1 hp_9 ∧
     ∃ Cv_2 : Hp → Prop, Cv_2 hp_9 ∧
     ∃ x49f0_ : Int, ∃ x49f1_ : Int, ∃ x49f2_ : Int, ∃ x49f3_ : Int, ∃ x49f4_ : Int, (∀ h', Cv_2 h' → cellsAt h' b_3 0 [(Value.int .i64 x49f0_), (Value.int .u64 x49f1_), (Value.int .u64 x49f2_), (Value.int .i64 x49f3_), (Value.int .i64 x49f4_)]) ∧
     ∃ x51_ : ByteArray, cellsAt hp_9 b_1 (0 + 8) [(Value.string x51_)] ∧
     ∃ x54_, IntKind.i64.wrap ((491 : Int) * x24_) = x54_ ∧
     ∃ x55_, IntKind.i64.wrap (x54_ + (1 : Int)) = x55_ ∧
     CallsH Tryz.prog 5 #[(Value.int .i64 (ByteArray.size x51_ : Int)), (Value.int .i64 x55_)] hp_9 fun en_4 hp_10 =>
     ∃ x56_ : Int, en_4 = .returned (Value.int .i64 x56_) ∧
     Cv_2 hp_10 ∧
     ∃ x57_, IntKind.i64.wrap ((1 : Int) + x56_) = x57_ ∧
     ∃ x59_ : Int, (∀ h', Cv_2 h' → cellsAt h' b_1 (0 + 2) [(Value.int .i64 x59_)]) ∧
     CallsH Tryz.prog 15 #[(Value.int .i64 x57_), (Value.int .i64 x59_)] hp_10 fun en_5 hp_11 =>
     ∃ x60_ : ByteArray, en_5 = .returned (Value.string x60_) ∧
     Cv_2 hp_11 ∧
     List.length [(Value.int .i64 x49f0_), (Value.int .u64 x49f1_), (Value.int .u64 x49f2_), (Value.int .i64 x49f3_), (Value.int .i64 x49f4_)] = 5 ∧ (∀ c ∈ [(Value.int .i64 x49f0_), (Value.int .u64 x49f1_), (Value.int .u64 x49f2_), (Value.int .i64 x49f3_), (Value.int .i64 x49f4_)], c.oneCell' = true) ∧ wrAt hp_11 b_2 0 5 ∧ ∀ hp_12, hp_12 = setsH hp_11 b_2 0 [(Value.int .i64 x49f0_), (Value.int .u64 x49f1_), (Value.int .u64 x49f2_), (Value.int .i64 x49f3_), (Value.int .i64 x49f4_)] →
     Cv_2 hp_12 ∧
     ∃ resf0_1 : Int, ∃ resf1_1 : Int, ∃ resf2_1 : Int, ∃ resf3_1 : Int, ∃ resf4_1 : Int, cellsAt hp_12 b_2 0 [(Value.int .i64 resf0_1), (Value.int .u64 resf1_1), (Value.int .u64 resf2_1), (Value.int .i64 resf3_1), (Value.int .i64 resf4_1)] ∧
     R (.returned (Value.tuple #[(Value.agg #[(Value.int .i64 resf0_1), (Value.int .u64 resf1_1), (Value.int .u64 resf2_1), (Value.int .i64 resf3_1), (Value.int .i64 resf4_1)]), (Value.string x60_)])) hp_12) ∧
    (∃ Cv_3 : Hp → Prop, Cv_3 hp_5 ∧
     ∃ x27_1 : Int, (∀ h', Cv_3 h' → cellsAt h' b_1 ((0 + 3) + 0) [(Value.int .i64 x27_1)]) ∧
     ∀ b_4 hp_13, b_4 = Array.size hp_5 → hp_13 = Array.push hp_5 (.cells (zeros Tryz.prog 39) 39) → (∃ i z, Tryz.prog.info? 39 = some i ∧ i.zero = some z) ∧
     Cv_3 hp_13 ∧
     CallsH Tryz.prog 5 #[(Value.int .i64 x27_1), (Value.int .i64 (2 : Int))] hp_13 fun en_6 hp_14 =>
     ∃ x28_1 : Int, en_6 = .returned (Value.int .i64 x28_1) ∧
     Cv_3 hp_14 ∧
     ∃ x31_1 : Int, (∀ h', Cv_3 h' → cellsAt h' b_1 ((0 + 3) + 1) [(Value.int .u64 x31_1)]) ∧
     (9 : Int) ≠ 0 ∧ ∃ x32_1, Int.tmod x31_1 (9 : Int) = x32_1 ∧
     ∃ x33_1, IntKind.u64.wrap ((1 : Int) + x32_1) = x33_1 ∧
     ∃ x36_1 : Int, (∀ h', Cv_3 h' → cellsAt h' b_1 ((0 + 3) + 2) [(Value.int .u64 x36_1)]) ∧
     (9 : Int) ≠ 0 ∧ ∃ x37_1, Int.tmod x36_1 (9 : Int) = x37_1 ∧
     ∃ x38_1, IntKind.u64.wrap ((1 : Int) + x37_1) = x38_1 ∧
     ∃ x41_1 : Option Addr, (∀ h', Cv_3 h' → cellsAt h' b_ (0 + 1) [(Value.pointer x41_1)]) ∧
     CallsH Tryz.prog 51 #[(Value.pointer x41_1)] hp_14 fun en_7 hp_15 =>
     ∃ x42_1 : Int, en_7 = .returned (Value.int .i64 x42_1) ∧
     Cv_3 hp_15 ∧
     ∃ x43_1, IntKind.i64.wrap (x42_1 - (2 : Int)) = x43_1 ∧
     ∃ x45_1, IntKind.i64.wrap ((2 : Int) * x24_) = x45_1 ∧
     ∃ x46_1, IntKind.i64.wrap (x43_1 - x45_1) = x46_1 ∧
     List.length [(Value.int .i64 x28_1), (Value.int .u64 x33_1), (Value.int .u64 x38_1), (Value.int .i64 x24_), (Value.int .i64 x46_1)] = 5 ∧ (∀ c ∈ [(Value.int .i64 x28_1), (Value.int .u64 x33_1), (Value.int .u64 x38_1), (Value.int .i64 x24_), (Value.int .i64 x46_1)], c.oneCell' = true) ∧ wrAt hp_15 b_4 0 5 ∧ ∀ hp_16, hp_16 = setsH hp_15 b_4 0 [(Value.int .i64 x28_1), (Value.int .u64 x33_1), (Value.int .u64 x38_1), (Value.int .i64 x24_), (Value.int .i64 x46_1)] →
     Cv_3 hp_16 ∧
     ∃ Cv_4 : Hp → Prop, Cv_4 hp_16 ∧
     ∃ x49f0_1 : Int, ∃ x49f1_1 : Int, ∃ x49f2_1 : Int, ∃ x49f3_1 : Int, ∃ x49f4_1 : Int, (∀ h', Cv_4 h' → cellsAt h' b_4 0 [(Value.int .i64 x49f0_1), (Value.int .u64 x49f1_1), (Value.int .u64 x49f2_1), (Value.int .i64 x49f3_1), (Value.int .i64 x49f4_1)]) ∧
     ∃ x51_1 : ByteArray, cellsAt hp_16 b_1 (0 + 8) [(Value.string x51_1)] ∧
     ∃ x54_1, IntKind.i64.wrap ((491 : Int) * x24_) = x54_1 ∧
     ∃ x55_1, IntKind.i64.wrap (x54_1 + (1 : Int)) = x55_1 ∧
     CallsH Tryz.prog 5 #[(Value.int .i64 (ByteArray.size x51_1 : Int)), (Value.int .i64 x55_1)] hp_16 fun en_8 hp_17 =>
     ∃ x56_1 : Int, en_8 = .returned (Value.int .i64 x56_1) ∧
     Cv_4 hp_17 ∧
     ∃ x57_1, IntKind.i64.wrap ((1 : Int) + x56_1) = x57_1 ∧
     ∃ x59_1 : Int, (∀ h', Cv_4 h' → cellsAt h' b_1 (0 + 2) [(Value.int .i64 x59_1)]) ∧
     CallsH Tryz.prog 15 #[(Value.int .i64 x57_1), (Value.int .i64 x59_1)] hp_17 fun en_9 hp_18 =>
     ∃ x60_1 : ByteArray, en_9 = .returned (Value.string x60_1) ∧
     Cv_4 hp_18 ∧
     List.length [(Value.int .i64 x49f0_1), (Value.int .u64 x49f1_1), (Value.int .u64 x49f2_1), (Value.int .i64 x49f3_1), (Value.int .i64 x49f4_1)] = 5 ∧ (∀ c ∈ [(Value.int .i64 x49f0_1), (Value.int .u64 x49f1_1), (Value.int .u64 x49f2_1), (Value.int .i64 x49f3_1), (Value.int .i64 x49f4_1)], c.oneCell' = true) ∧ wrAt hp_18 b_2 0 5 ∧ ∀ hp_19, hp_19 = setsH hp_18 b_2 0 [(Value.int .i64 x49f0_1), (Value.int .u64 x49f1_1), (Value.int .u64 x49f2_1), (Value.int .i64 x49f3_1), (Value.int .i64 x49f4_1)] →
     Cv_4 hp_19 ∧
     ∃ resf0_2 : Int, ∃ resf1_2 : Int, ∃ resf2_2 : Int, ∃ resf3_2 : Int, ∃ resf4_2 : Int, cellsAt hp_19 b_2 0 [(Value.int .i64 resf0_2), (Value.int .u64 resf1_2), (Value.int .u64 resf2_2), (Value.int .i64 resf3_2), (Value.int .i64 resf4_2)] ∧
     R (.returned (Value.tuple #[(Value.agg #[(Value.int .i64 resf0_2), (Value.int .u64 resf1_2), (Value.int .u64 resf2_2), (Value.int .i64 resf3_2), (Value.int .i64 resf4_2)]), (Value.string x60_1)])) hp_19) ∧
    (∃ Cv_5 : Hp → Prop, Cv_5 hp_5 ∧
     ∃ x27_2 : Int, (∀ h', Cv_5 h' → cellsAt h' b_1 ((0 + 3) + 0) [(Value.int .i64 x27_2)]) ∧
     CallsH Tryz.prog 5 #[(Value.int .i64 x27_2), (Value.int .i64 (2 : Int))] hp_5 fun en_10 hp_20 =>
     ∃ x28_2 : Int, en_10 = .returned (Value.int .i64 x28_2) ∧
     Cv_5 hp_20 ∧
     ∃ x31_2 : Int, (∀ h', Cv_5 h' → cellsAt h' b_1 ((0 + 3) + 1) [(Value.int .u64 x31_2)]) ∧
     (9 : Int) ≠ 0 ∧ ∃ x32_2, Int.tmod x31_2 (9 : Int) = x32_2 ∧
     ∃ x33_2, IntKind.u64.wrap ((1 : Int) + x32_2) = x33_2 ∧
     ∃ x36_2 : Int, (∀ h', Cv_5 h' → cellsAt h' b_1 ((0 + 3) + 2) [(Value.int .u64 x36_2)]) ∧
     (9 : Int) ≠ 0 ∧ ∃ x37_2, Int.tmod x36_2 (9 : Int) = x37_2 ∧
     ∃ x38_2, IntKind.u64.wrap ((1 : Int) + x37_2) = x38_2 ∧
     ∃ x41_2 : Option Addr, (∀ h', Cv_5 h' → cellsAt h' b_ (0 + 1) [(Value.pointer x41_2)]) ∧
     ∀ b_5 hp_21, b_5 = Array.size hp_20 → hp_21 = Array.push hp_20 (.cells (zeros Tryz.prog 39) 39) → (∃ i z, Tryz.prog.info? 39 = some i ∧ i.zero = some z) ∧
     Cv_5 hp_21 ∧
     CallsH Tryz.prog 51 #[(Value.pointer x41_2)] hp_21 fun en_11 hp_22 =>
     ∃ x42_2 : Int, en_11 = .returned (Value.int .i64 x42_2) ∧
     Cv_5 hp_22 ∧
     ∃ x43_2, IntKind.i64.wrap (x42_2 - (2 : Int)) = x43_2 ∧
     ∃ x45_2, IntKind.i64.wrap ((2 : Int) * x24_) = x45_2 ∧
     ∃ x46_2, IntKind.i64.wrap (x43_2 - x45_2) = x46_2 ∧
     List.length [(Value.int .i64 x28_2), (Value.int .u64 x33_2), (Value.int .u64 x38_2), (Value.int .i64 x24_), (Value.int .i64 x46_2)] = 5 ∧ (∀ c ∈ [(Value.int .i64 x28_2), (Value.int .u64 x33_2), (Value.int .u64 x38_2), (Value.int .i64 x24_), (Value.int .i64 x46_2)], c.oneCell' = true) ∧ wrAt hp_22 b_5 0 5 ∧ ∀ hp_23, hp_23 = setsH hp_22 b_5 0 [(Value.int .i64 x28_2), (Value.int .u64 x33_2), (Value.int .u64 x38_2), (Value.int .i64 x24_), (Value.int .i64 x46_2)] →
     Cv_5 hp_23 ∧
     ∃ Cv_6 : Hp → Prop, Cv_6 hp_23 ∧
     ∃ x49f0_2 : Int, ∃ x49f1_2 : Int, ∃ x49f2_2 : Int, ∃ x49f3_2 : Int, ∃ x49f4_2 : Int, (∀ h', Cv_6 h' → cellsAt h' b_5 0 [(Value.int .i64 x49f0_2), (Value.int .u64 x49f1_2), (Value.int .u64 x49f2_2), (Value.int .i64 x49f3_2), (Value.int .i64 x49f4_2)]) ∧
     ∃ x51_2 : ByteArray, cellsAt hp_23 b_1 (0 + 8) [(Value.string x51_2)] ∧
     ∃ x54_2, IntKind.i64.wrap ((491 : Int) * x24_) = x54_2 ∧
     ∃ x55_2, IntKind.i64.wrap (x54_2 + (1 : Int)) = x55_2 ∧
     CallsH Tryz.prog 5 #[(Value.int .i64 (ByteArray.size x51_2 : Int)), (Value.int .i64 x55_2)] hp_23 fun en_12 hp_24 =>
     ∃ x56_2 : Int, en_12 = .returned (Value.int .i64 x56_2) ∧
     Cv_6 hp_24 ∧
     ∃ x57_2, IntKind.i64.wrap ((1 : Int) + x56_2) = x57_2 ∧
     ∃ x59_2 : Int, (∀ h', Cv_6 h' → cellsAt h' b_1 (0 + 2) [(Value.int .i64 x59_2)]) ∧
     CallsH Tryz.prog 15 #[(Value.int .i64 x57_2), (Value.int .i64 x59_2)] hp_24 fun en_13 hp_25 =>
     ∃ x60_2 : ByteArray, en_13 = .returned (Value.string x60_2) ∧
     Cv_6 hp_25 ∧
     List.length [(Value.int .i64 x49f0_2), (Value.int .u64 x49f1_2), (Value.int .u64 x49f2_2), (Value.int .i64 x49f3_2), (Value.int .i64 x49f4_2)] = 5 ∧ (∀ c ∈ [(Value.int .i64 x49f0_2), (Value.int .u64 x49f1_2), (Value.int .u64 x49f2_2), (Value.int .i64 x49f3_2), (Value.int .i64 x49f4_2)], c.oneCell' = true) ∧ wrAt hp_25 b_2 0 5 ∧ ∀ hp_26, hp_26 = setsH hp_25 b_2 0 [(Value.int .i64 x49f0_2), (Value.int .u64 x49f1_2), (Value.int .u64 x49f2_2), (Value.int .i64 x49f3_2), (Value.int .i64 x49f4_2)] →
     Cv_6 hp_26 ∧
     ∃ resf0_3 : Int, ∃ resf1_3 : Int, ∃ resf2_3 : Int, ∃ resf3_3 : Int, ∃ resf4_3 : Int, cellsAt hp_26 b_2 0 [(Value.int .i64 resf0_3), (Value.int .u64 resf1_3), (Value.int .u64 resf2_3), (Value.int .i64 resf3_3), (Value.int .i64 resf4_3)] ∧
     R (.returned (Value.tuple #[(Value.agg #[(Value.int .i64 resf0_3), (Value.int .u64 resf1_3), (Value.int .u64 resf2_3), (Value.int .i64 resf3_3), (Value.int .i64 resf4_3)]), (Value.string x60_2)])) hp_26)))) :
  CallsH Tryz.prog 21 #[(Value.agg #[(Value.pointer pf0_), (Value.pointer pf1_)]), (Value.agg #[(Value.int .i64 of0_), (Value.int .i64 of1_), (Value.int .i64 of2_), (Value.int .i64 of3_), (Value.int .u64 of4_), (Value.int .u64 of5_), (Value.int .i64 of6_), (Value.int .i64 of7_), (Value.string of8_), (Value.slice of9p_ of9n_ of9c_)])] h R := calls_vc fine false Tryz.func21 (ann := A21) (args := [(Value.agg #[(Value.pointer pf0_), (Value.pointer pf1_)]), (Value.agg #[(Value.int .i64 of0_), (Value.int .i64 of1_), (Value.int .i64 of2_), (Value.int .i64 of3_), (Value.int .u64 of4_), (Value.int .u64 of5_), (Value.int .i64 of6_), (Value.int .i64 of7_), (Value.string of8_), (Value.slice of9p_ of9n_ of9c_)])]) (by kernel_rfl) (Eq.mpr (by kernel_rfl) H)
/-- (turnout/turnoutlaw20.pair).next -/
def A22 : Ann := (.seq .nil (.seq .nil (.seq (.seq .nil (.cond (.seq .nil .nil) .nil)) (.seq .nil (.seq (.seq .nil (.cond (.seq .nil .nil) .nil)) (.seq .nil .nil))))))
theorem V22 (pf0_ : Option Addr) (pf1_ : Option Addr) (s_ : ByteArray) (h : Hp) (R : Ending → Hp → Prop) (H :
  ∀ b_ hp_, b_ = Array.size h → hp_ = Array.push h (.cells #[(Value.pointer pf0_), (Value.pointer pf1_)] 34) →
  ∃ x12_ : Option Addr, cellsAt hp_ b_ (0 + 1) [(Value.pointer x12_)] ∧
  CallsH Tryz.prog 37 #[(Value.pointer x12_)] hp_ fun en_ hp_1 =>
  ∃ x13r0f0_ : Int, ∃ x13r0f1_ : Int, ∃ x13r0f2_ : Int, ∃ x13r0f3_ : Int, ∃ x13r0f4_ : Int, ∃ x13r1_ : ByteArray, ∃ x13r2_ : Int, en_ = .returned (Value.tuple #[(Value.agg #[(Value.int .i64 x13r0f0_), (Value.int .u64 x13r0f1_), (Value.int .u64 x13r0f2_), (Value.int .i64 x13r0f3_), (Value.int .i64 x13r0f4_)]), (Value.string x13r1_), (Value.int .i64 x13r2_)]) ∧
  ∀ b_1 hp_2, b_1 = Array.size hp_1 → hp_2 = Array.push hp_1 (.cells (zeros Tryz.prog 39) 39) → (∃ i z, Tryz.prog.info? 39 = some i ∧ i.zero = some z) ∧
  List.length [(Value.int .i64 x13r0f0_), (Value.int .u64 x13r0f1_), (Value.int .u64 x13r0f2_), (Value.int .i64 x13r0f3_), (Value.int .i64 x13r0f4_)] = 5 ∧ (∀ c ∈ [(Value.int .i64 x13r0f0_), (Value.int .u64 x13r0f1_), (Value.int .u64 x13r0f2_), (Value.int .i64 x13r0f3_), (Value.int .i64 x13r0f4_)], c.oneCell' = true) ∧ wrAt hp_2 b_1 0 5 ∧ ∀ hp_3, hp_3 = setsH hp_2 b_1 0 [(Value.int .i64 x13r0f0_), (Value.int .u64 x13r0f1_), (Value.int .u64 x13r0f2_), (Value.int .i64 x13r0f3_), (Value.int .i64 x13r0f4_)] →
  (((decide (x13r2_ ≠ (0 : Int))) = true →
    R (.returned (Value.bool true)) hp_3) ∧
   ((decide (x13r2_ ≠ (0 : Int))) = false →
    ∃ x20f0_ : Int, ∃ x20f1_ : Int, ∃ x20f2_ : Int, ∃ x20f3_ : Int, ∃ x20f4_ : Int, cellsAt hp_3 b_1 0 [(Value.int .i64 x20f0_), (Value.int .u64 x20f1_), (Value.int .u64 x20f2_), (Value.int .i64 x20f3_), (Value.int .i64 x20f4_)] ∧
    CallsH Tryz.prog 52 #[(Value.agg #[(Value.int .i64 x20f0_), (Value.int .u64 x20f1_), (Value.int .u64 x20f2_), (Value.int .i64 x20f3_), (Value.int .i64 x20f4_)]), (Value.int .u64 (0 : Int))] hp_3 fun en_1 hp_4 =>
    ∃ x21r0f0_ : Int, ∃ x21r0f1_ : Int, ∃ x21r0f2_ : Int, ∃ x21r0f3_ : Int, ∃ x21r0f4_ : Int, ∃ x21r1_ : Int, en_1 = .returned (Value.tuple #[(Value.agg #[(Value.int .i64 x21r0f0_), (Value.int .u64 x21r0f1_), (Value.int .u64 x21r0f2_), (Value.int .i64 x21r0f3_), (Value.int .i64 x21r0f4_)]), (Value.int .i64 x21r1_)]) ∧
    ∀ b_2 hp_5, b_2 = Array.size hp_4 → hp_5 = Array.push hp_4 (.cells (zeros Tryz.prog 39) 39) → (∃ i z, Tryz.prog.info? 39 = some i ∧ i.zero = some z) ∧
    List.length [(Value.int .i64 x21r0f0_), (Value.int .u64 x21r0f1_), (Value.int .u64 x21r0f2_), (Value.int .i64 x21r0f3_), (Value.int .i64 x21r0f4_)] = 5 ∧ (∀ c ∈ [(Value.int .i64 x21r0f0_), (Value.int .u64 x21r0f1_), (Value.int .u64 x21r0f2_), (Value.int .i64 x21r0f3_), (Value.int .i64 x21r0f4_)], c.oneCell' = true) ∧ wrAt hp_5 b_2 0 5 ∧ ∀ hp_6, hp_6 = setsH hp_5 b_2 0 [(Value.int .i64 x21r0f0_), (Value.int .u64 x21r0f1_), (Value.int .u64 x21r0f2_), (Value.int .i64 x21r0f3_), (Value.int .i64 x21r0f4_)] →
    (((decide (x21r1_ ≠ (0 : Int))) = true →
      R (.returned (Value.bool true)) hp_6) ∧
     ((decide (x21r1_ ≠ (0 : Int))) = false →
      ∃ x26f0_ : Option Addr, ∃ x26f1_ : Option Addr, cellsAt hp_6 b_ 0 [(Value.pointer x26f0_), (Value.pointer x26f1_)] ∧
      ∃ x27f0_ : Int, ∃ x27f1_ : Int, ∃ x27f2_ : Int, ∃ x27f3_ : Int, ∃ x27f4_ : Int, cellsAt hp_6 b_2 0 [(Value.int .i64 x27f0_), (Value.int .u64 x27f1_), (Value.int .u64 x27f2_), (Value.int .i64 x27f3_), (Value.int .i64 x27f4_)] ∧
      CallsH Tryz.prog 20 #[(Value.agg #[(Value.pointer x26f0_), (Value.pointer x26f1_)]), (Value.agg #[(Value.int .i64 x27f0_), (Value.int .u64 x27f1_), (Value.int .u64 x27f2_), (Value.int .i64 x27f3_), (Value.int .i64 x27f4_)]), (Value.string s_)] hp_6 fun en_2 hp_7 =>
      ∃ x29_ : Bool, en_2 = .returned (Value.bool x29_) ∧
      R (.returned (Value.bool x29_)) hp_7))))) :
  CallsH Tryz.prog 22 #[(Value.agg #[(Value.pointer pf0_), (Value.pointer pf1_)]), (Value.string s_)] h R := calls_vc fine false Tryz.func22 (ann := A22) (args := [(Value.agg #[(Value.pointer pf0_), (Value.pointer pf1_)]), (Value.string s_)]) (by kernel_rfl) (Eq.mpr (by kernel_rfl) H)
/-- (*turnout/turnoutref04.Disk).Cut -/
def A23 : Ann := (.seq .nil (.seq (.join 15) (.cond .nil .nil)))
theorem V23 (d_ : Option Addr) (steps_ : Int) (h : Hp) (R : Ending → Hp → Prop) (H :
  ∃ b_ o_, d_ = some ⟨b_, o_, none⟩ ∧
  Value.oneCell' (Value.int .i64 (0 : Int)) = true ∧ wrAt h b_ (o_ + 3) 1 ∧ ∀ hp_, hp_ = setsH h b_ (o_ + 3) [(Value.int .i64 (0 : Int))] →
  ∃ B_ : Bool, ((((decide ((0 : Int) < steps_)) = true →
     ∃ b_1 o_1, d_ = some ⟨b_1, o_1, none⟩ ∧
     ∃ x13_ : Bool, cellsAt hp_ b_1 (o_1 + 2) [(Value.bool x13_)] ∧
     hp_ = hp_ ∧ B_ = (!x13_)) ∧
    ((decide ((0 : Int) < steps_)) = false →
     hp_ = hp_ ∧ B_ = false))) ∧
  ((B_ = true →
    ∃ b_2 o_2, d_ = some ⟨b_2, o_2, none⟩ ∧
    Value.oneCell' (Value.int .i64 steps_) = true ∧ wrAt hp_ b_2 (o_2 + 3) 1 ∧ ∀ hp_1, hp_1 = setsH hp_ b_2 (o_2 + 3) [(Value.int .i64 steps_)] →
    R (.returned (Value.tuple #[])) hp_1) ∧
   (B_ = false →
    R (.returned (Value.tuple #[])) hp_))) :
  CallsH Tryz.prog 23 #[(Value.pointer d_), (Value.int .i64 steps_)] h R := calls_vc fine false Tryz.func23 (ann := A23) (args := [(Value.pointer d_), (Value.int .i64 steps_)]) (by kernel_rfl) (Eq.mpr (by kernel_rfl) H)
/-- (turnout/turnoutlaw20.pair).spoils -/
def A24 : Ann := (.seq .nil (.seq (.drawLast [1]) (.seq .nil (.seq (.seq .nil (.cond (.seq .nil .nil) .nil)) (.seq .nil (.seq .nil (.seq (.drawLast [4, 7, 10]) .nil)))))))
theorem V24 (pf0_ : Option Addr) (pf1_ : Option Addr) (of0_ : Int) (of1_ : Int) (of2_ : Int) (of3_ : Int) (of4_ : Int) (of5_ : Int) (of6_ : Int) (of7_ : Int) (of8_ : ByteArray) (of9p_ : Option Addr) (of9n_ of9c_ : Nat) (h : Hp) (R : Ending → Hp → Prop) (H :
  ∀ b_ hp_, b_ = Array.size h → hp_ = Array.push h (.cells #[(Value.pointer pf0_), (Value.pointer pf1_)] 34) →
  ∀ b_1 hp_1, b_1 = Array.size hp_ → hp_1 = Array.push hp_ (.cells #[(Value.int .i64 of0_), (Value.int .i64 of1_), (Value.int .i64 of2_), (Value.int .i64 of3_), (Value.int .u64 of4_), (Value.int .u64 of5_), (Value.int .i64 of6_), (Value.int .i64 of7_), (Value.string of8_), (Value.slice of9p_ of9n_ of9c_)] 42) →
  ∃ Cv_ : Hp → Prop, Cv_ hp_1 ∧
  ∃ x10_ : Int, (∀ h', Cv_ h' → cellsAt h' b_1 (0 + 2) [(Value.int .i64 x10_)]) ∧
  ∃ x12_ : Option Addr, cellsAt hp_1 b_ (0 + 1) [(Value.pointer x12_)] ∧
  CallsH Tryz.prog 51 #[(Value.pointer x12_)] hp_1 fun en_ hp_2 =>
  ∃ x13_ : Int, en_ = .returned (Value.int .i64 x13_) ∧
  Cv_ hp_2 ∧
  CallsH Tryz.prog 5 #[(Value.int .i64 x10_), (Value.int .i64 x13_)] hp_2 fun en_1 hp_3 =>
  ∃ x14_ : Int, en_1 = .returned (Value.int .i64 x14_) ∧
  Cv_ hp_3 ∧
  ∃ x17_ : Option Addr, cellsAt hp_3 b_ (0 + 1) [(Value.pointer x17_)] ∧
  CallsH Tryz.prog 53 #[(Value.pointer x17_), (Value.int .i64 x14_)] hp_3 fun en_2 hp_4 =>
  ∃ x19r0_ : ByteArray, ∃ x19r1_ : Int, en_2 = .returned (Value.tuple #[(Value.string x19r0_), (Value.int .i64 x19r1_)]) ∧
  (((decide (x19r1_ ≠ (0 : Int))) = true →
    R (.returned (Value.bool true)) hp_4) ∧
   ((decide (x19r1_ ≠ (0 : Int))) = false →
    SemH Tryz.prog (convert 9 56 (Value.string x19r0_)) hp_4 fun v_ hp_5 =>
    ∃ (x25p_ : Option Addr) (x25n_ x25c_ : Nat), v_ = (Value.slice x25p_ x25n_ x25c_) ∧
    ∃ x28_ : ByteArray, cellsAt hp_5 b_1 (0 + 8) [(Value.string x28_)] ∧
    CallsH Tryz.prog 5 #[(Value.int .i64 (ByteArray.size x28_ : Int)), (Value.int .i64 (512 : Int))] hp_5 fun en_3 hp_6 =>
    ∃ x30_ : Int, en_3 = .returned (Value.int .i64 x30_) ∧
    ∃ b_2 o_, x25p_ = some ⟨b_2, o_, none⟩ ∧ 0 ≤ x30_ ∧ x30_ < (x25n_ : Int) ∧
    ∃ x32_ : Int, cellsAt hp_6 b_2 (o_ + Int.toNat x30_ * 1) [(Value.int .u8 x32_)] ∧
    ∃ x33_, IntKind.u8.wrap (x32_ + (1 : Int)) = x33_ ∧
    ∃ b_3 o_1, x25p_ = some ⟨b_3, o_1, none⟩ ∧ 0 ≤ x30_ ∧ x30_ < (x25n_ : Int) ∧
    Value.oneCell' (Value.int .u8 x33_) = true ∧ wrAt hp_6 b_3 (o_1 + Int.toNat x30_ * 1) 1 ∧ ∀ hp_7, hp_7 = setsH hp_6 b_3 (o_1 + Int.toNat x30_ * 1) [(Value.int .u8 x33_)] →
    ∃ Cv_1 : Hp → Prop, Cv_1 hp_7 ∧
    ∃ x36_ : Option Addr, cellsAt hp_7 b_ (0 + 0) [(Value.pointer x36_)] ∧
    ∃ x39_ : ByteArray, (∀ w_ : World, Cv_1 w_.heap → (convert 56 9 (Value.slice x25p_ x25n_ x25c_)).run Tryz.prog w_ = .ok (Value.string x39_) w_) ∧
    CallsH Tryz.prog 54 #[(Value.pointer x36_), (Value.int .i64 x14_), (Value.string x39_)] hp_7 fun en_4 hp_8 =>
    ∃ x40_ : Int, en_4 = .returned (Value.int .i64 x40_) ∧
    Cv_1 hp_8 ∧
    ∃ x42_ : Option Addr, (∀ h', Cv_1 h' → cellsAt h' b_ (0 + 1) [(Value.pointer x42_)]) ∧
    ∃ x45_ : ByteArray, (∀ w_ : World, Cv_1 w_.heap → (convert 56 9 (Value.slice x25p_ x25n_ x25c_)).run Tryz.prog w_ = .ok (Value.string x45_) w_) ∧
    CallsH Tryz.prog 55 #[(Value.pointer x42_), (Value.int .i64 x14_), (Value.string x45_)] hp_8 fun en_5 hp_9 =>
    ∃ x46_ : Int, en_5 = .returned (Value.int .i64 x46_) ∧
    Cv_1 hp_9 ∧
    R (.returned (Value.bool (decide (x40_ = x46_)))) hp_9))) :
  CallsH Tryz.prog 24 #[(Value.agg #[(Value.pointer pf0_), (Value.pointer pf1_)]), (Value.agg #[(Value.int .i64 of0_), (Value.int .i64 of1_), (Value.int .i64 of2_), (Value.int .i64 of3_), (Value.int .u64 of4_), (Value.int .u64 of5_), (Value.int .i64 of6_), (Value.int .i64 of7_), (Value.string of8_), (Value.slice of9p_ of9n_ of9c_)])] h R := calls_vc fine false Tryz.func24 (ann := A24) (args := [(Value.agg #[(Value.pointer pf0_), (Value.pointer pf1_)]), (Value.agg #[(Value.int .i64 of0_), (Value.int .i64 of1_), (Value.int .i64 of2_), (Value.int .i64 of3_), (Value.int .u64 of4_), (Value.int .u64 of5_), (Value.int .i64 of6_), (Value.int .i64 of7_), (Value.string of8_), (Value.slice of9p_ of9n_ of9c_)])]) (by kernel_rfl) (Eq.mpr (by kernel_rfl) H)
/-- (*turnout/disk.Disk).Flush -/
def A25 : Ann := (.seq .nil (.seq .nil (.seq (.seq .nil (.cond (.seq .nil .nil) .nil)) (.seq (.seq .nil (.cond (.seq .nil .nil) .nil)) (.seq (.seq .nil (.block (.loop [(19, (.int .i64))] (.seq .nil (.seq (.cond .nil .nil) (.seq (.block (.seq .nil .nil)) .nil)))))) (.seq .nil (.seq .nil (.seq .nil .nil))))))))
theorem V25 (d_ : Option Addr) (h : Hp) (R : Ending → Hp → Prop) (H :
  CallsH Tryz.prog 56 #[(Value.pointer d_), (Value.int .i64 (0 : Int))] h fun en_ hp_ =>
  ∃ x7_ : Int, en_ = .returned (Value.int .i64 x7_) ∧
  (((decide (x7_ ≠ (0 : Int))) = true →
    R (.returned (Value.int .i64 x7_)) hp_) ∧
   ((decide (x7_ ≠ (0 : Int))) = false →
    CallsH Tryz.prog 57 #[(Value.pointer d_)] hp_ fun en_1 hp_1 =>
    ∃ x12_ : Bool, en_1 = .returned (Value.bool x12_) ∧
    (((!x12_) = true →
      R (.returned (Value.int .i64 (40 : Int))) hp_1) ∧
     ((!x12_) = false →
      ∃ b_ o_, d_ = some ⟨b_, o_, none⟩ ∧
      ∃ (x17p_ : Option Addr) (x17n_ x17c_ : Nat), cellsAt hp_1 b_ (o_ + 3) [(Value.slice x17p_ x17n_ x17c_)] ∧
      ∃ (Iv_ : List Value → Hp → Prop) (m_ : List Value → Hp → Nat), Iv_ [(Value.int .i64 (0 : Int))] hp_1 ∧
      (∀ (x19_ : Int) hp_2, Iv_ [(Value.int .i64 x19_)] hp_2 →
       (((decide (x19_ < ((x17n_ : Nat) : Int))) = true →
         ∃ b_1 o_1, x17p_ = some ⟨b_1, o_1, none⟩ ∧ 0 ≤ x19_ ∧ x19_ < (x17n_ : Int) ∧
         ∃ x22_ : Value, cellsAt hp_2 b_1 (o_1 + Int.toNat x19_ * 1) [x22_] ∧
         ∃ b_2 o_2, d_ = some ⟨b_2, o_2, none⟩ ∧
         ∃ (x27p_ : Option Addr) (x27n_ x27c_ : Nat), cellsAt hp_2 b_2 (o_2 + 0) [(Value.slice x27p_ x27n_ x27c_)] ∧
         ∃ fn_ fst_ cap_, x22_ = Value.func (.func fn_) fst_ cap_ ∧ bodied Tryz.prog fn_ = true ∧
         CallsH Tryz.prog fn_ (fst_.toList ++ [(Value.slice x27p_ x27n_ x27c_), (Value.int .i64 (512 : Int))] ++ cap_.toList).toArray hp_2 fun en_2 hp_3 =>
         en_2 = .returned (Value.tuple #[]) ∧
         ∃ x29_, IntKind.i64.wrap (x19_ + (1 : Int)) = x29_ ∧
         (Iv_ [(Value.int .i64 x29_)] hp_3 ∧ m_ [(Value.int .i64 x29_)] hp_3 < m_ [(Value.int .i64 x19_)] hp_2)) ∧
        ((decide (x19_ < ((x17n_ : Nat) : Int))) = false →
         CallsH Tryz.prog 36 #[(Value.pointer d_)] hp_2 fun en_3 hp_4 =>
         en_3 = .returned (Value.tuple #[]) ∧
         ∃ b_3 o_3, d_ = some ⟨b_3, o_3, none⟩ ∧
         ∃ x36_ : Int, cellsAt hp_4 b_3 ((o_3 + 6) + 2) [(Value.int .i64 x36_)] ∧
         ∃ x37_, IntKind.i64.wrap (x36_ + (1 : Int)) = x37_ ∧
         ∃ b_4 o_4, d_ = some ⟨b_4, o_4, none⟩ ∧
         Value.oneCell' (Value.int .i64 x37_) = true ∧ wrAt hp_4 b_4 ((o_4 + 6) + 2) 1 ∧ ∀ hp_5, hp_5 = setsH hp_4 b_4 ((o_4 + 6) + 2) [(Value.int .i64 x37_)] →
         R (.returned (Value.int .i64 (0 : Int))) hp_5)))))))) :
  CallsH Tryz.prog 25 #[(Value.pointer d_)] h R := calls_vc fine false Tryz.func25 (ann := A25) (args := [(Value.pointer d_)]) (by kernel_rfl) (Eq.mpr (by kernel_rfl) H)
/-- (*turnout/turnoutref04.Disk).Flush -/
def A26 : Ann := (.seq .nil (.seq (.seq .nil (.cond (.seq .nil .nil) .nil)) (.seq .nil (.seq (.seq .nil (.cond (.seq .nil .nil) .nil)) (.seq (.seq .nil (.block (.loop [(4, (.int .i64))] (.seq (.seq .nil (.cond .nil .nil)) (.seq (.block .nil) .nil))))) (.seq .nil (.seq .nil (.seq .nil .nil))))))))
theorem V26 (d_ : Option Addr) (h : Hp) (R : Ending → Hp → Prop) (H :
  ∃ b_ o_, d_ = some ⟨b_, o_, none⟩ ∧
  ∃ x8_ : Bool, cellsAt h b_ (o_ + 2) [(Value.bool x8_)] ∧
  ((x8_ = true →
    R (.returned (Value.int .i64 (40 : Int))) h) ∧
   (x8_ = false →
    CallsH Tryz.prog 58 #[(Value.pointer d_)] h fun en_ hp_ =>
    ∃ x10_ : Bool, en_ = .returned (Value.bool x10_) ∧
    ((x10_ = true →
      R (.returned (Value.int .i64 (40 : Int))) hp_) ∧
     (x10_ = false →
      ∃ (Iv_ : List Value → Hp → Prop) (m_ : List Value → Hp → Nat), Iv_ [(Value.int .i64 (0 : Int))] hp_ ∧
      (∀ (i_ : Int) hp_1, Iv_ [(Value.int .i64 i_)] hp_1 →
       ∃ b_1 o_1, d_ = some ⟨b_1, o_1, none⟩ ∧
       ∃ (x16p_ : Option Addr) (x16n_ x16c_ : Nat), cellsAt hp_1 b_1 (o_1 + 1) [(Value.slice x16p_ x16n_ x16c_)] ∧
       (((decide (i_ < ((x16n_ : Nat) : Int))) = true →
         ∃ b_2 o_2, d_ = some ⟨b_2, o_2, none⟩ ∧
         ∃ (x24p_ : Option Addr) (x24n_ x24c_ : Nat), cellsAt hp_1 b_2 (o_2 + 0) [(Value.slice x24p_ x24n_ x24c_)] ∧
         ∃ b_3 o_3, d_ = some ⟨b_3, o_3, none⟩ ∧
         ∃ (x28p_ : Option Addr) (x28n_ x28c_ : Nat), cellsAt hp_1 b_3 (o_3 + 1) [(Value.slice x28p_ x28n_ x28c_)] ∧
         ∃ b_4 o_4, x28p_ = some ⟨b_4, o_4, none⟩ ∧ 0 ≤ i_ ∧ i_ < (x28n_ : Int) ∧
         ∃ x32_ : Int, cellsAt hp_1 b_4 ((o_4 + Int.toNat i_ * 2) + 0) [(Value.int .i64 x32_)] ∧
         ∃ b_5 o_5, d_ = some ⟨b_5, o_5, none⟩ ∧
         ∃ (x36p_ : Option Addr) (x36n_ x36c_ : Nat), cellsAt hp_1 b_5 (o_5 + 1) [(Value.slice x36p_ x36n_ x36c_)] ∧
         ∃ b_6 o_6, x36p_ = some ⟨b_6, o_6, none⟩ ∧ 0 ≤ i_ ∧ i_ < (x36n_ : Int) ∧
         ∃ x40_ : ByteArray, cellsAt hp_1 b_6 ((o_6 + Int.toNat i_ * 2) + 1) [(Value.string x40_)] ∧
         ∃ b_7 o_7, x24p_ = some ⟨b_7, o_7, none⟩ ∧ 0 ≤ x32_ ∧ x32_ < (x24n_ : Int) ∧
         Value.oneCell' (Value.string x40_) = true ∧ wrAt hp_1 b_7 (o_7 + Int.toNat x32_ * 1) 1 ∧ ∀ hp_2, hp_2 = setsH hp_1 b_7 (o_7 + Int.toNat x32_ * 1) [(Value.string x40_)] →
         ∃ x20_, IntKind.i64.wrap (i_ + (1 : Int)) = x20_ ∧
         (Iv_ [(Value.int .i64 x20_)] hp_2 ∧ m_ [(Value.int .i64 x20_)] hp_2 < m_ [(Value.int .i64 i_)] hp_1)) ∧
        ((decide (i_ < ((x16n_ : Nat) : Int))) = false →
         ∃ b_8 o_8, d_ = some ⟨b_8, o_8, none⟩ ∧
         Value.oneCell' (Value.slice none 0 0) = true ∧ wrAt hp_1 b_8 (o_8 + 1) 1 ∧ ∀ hp_3, hp_3 = setsH hp_1 b_8 (o_8 + 1) [(Value.slice none 0 0)] →
         ∃ b_9 o_9, d_ = some ⟨b_9, o_9, none⟩ ∧
         ∃ x49_ : Int, cellsAt hp_3 b_9 ((o_9 + 4) + 2) [(Value.int .i64 x49_)] ∧
         ∃ x50_, IntKind.i64.wrap (x49_ + (1 : Int)) = x50_ ∧
         ∃ b_10 o_10, d_ = some ⟨b_10, o_10, none⟩ ∧
         Value.oneCell' (Value.int .i64 x50_) = true ∧ wrAt hp_3 b_10 ((o_10 + 4) + 2) 1 ∧ ∀ hp_4, hp_4 = setsH hp_3 b_10 ((o_10 + 4) + 2) [(Value.int .i64 x50_)] →
         R (.returned (Value.int .i64 (0 : Int))) hp_4)))))))) :
  CallsH Tryz.prog 26 #[(Value.pointer d_)] h R := calls_vc fine false Tryz.func26 (ann := A26) (args := [(Value.pointer d_)]) (by kernel_rfl) (Eq.mpr (by kernel_rfl) H)
/-- (*turnout/disk.Disk).Pending -/
def A27 : Ann := (.seq .nil (.seq (.seq .nil (.cond (.seq .nil .nil) .nil)) (.seq .nil .nil)))
theorem V27 (d_ : Option Addr) (h : Hp) (R : Ending → Hp → Prop) (H :
  ∃ x4_, EqV Tryz.prog 26 (Value.pointer d_) (Value.pointer none) x4_ ∧
  ((x4_ = true →
    R (.returned (Value.slice none 0 0)) h) ∧
   (x4_ = false →
    ∃ b_ o_, d_ = some ⟨b_, o_, none⟩ ∧
    ∃ (x8p_ : Option Addr) (x8n_ x8c_ : Nat), cellsAt h b_ (o_ + 2) [(Value.slice x8p_ x8n_ x8c_)] ∧
    SemH Tryz.prog (Builtin.append_ #[59, 59] 59 #[(Value.slice none 0 0), (Value.slice x8p_ x8n_ x8c_)]) h fun v_ hp_ =>
    ∃ (x9p_ : Option Addr) (x9n_ x9c_ : Nat), v_ = (Value.slice x9p_ x9n_ x9c_) ∧
    R (.returned (Value.slice x9p_ x9n_ x9c_)) hp_))) :
  CallsH Tryz.prog 27 #[(Value.pointer d_)] h R := calls_vc fine false Tryz.func27 (ann := A27) (args := [(Value.pointer d_)]) (by kernel_rfl) (Eq.mpr (by kernel_rfl) H)
/-- (*turnout/turnoutref04.Disk).Pending -/
def A28 : Ann := (.seq .nil (.seq .nil (.seq (.seq .nil (.block (.loop [(3, .slice), (4, (.int .i64))] (.seq (.seq .nil (.cond .nil .nil)) (.seq (.block .nil) .nil))))) (.seq .nil .nil))))
theorem V28 (d_ : Option Addr) (h : Hp) (R : Ending → Hp → Prop) (H :
  ∃ (Iv_ : List Value → Hp → Prop) (m_ : List Value → Hp → Nat), Iv_ [(Value.slice none 0 0), (Value.int .i64 (0 : Int))] h ∧
  (∀ (outp_ : Option Addr) (outn_ outc_ : Nat) (i_ : Int) hp_, Iv_ [(Value.slice outp_ outn_ outc_), (Value.int .i64 i_)] hp_ →
   ∃ b_ o_, d_ = some ⟨b_, o_, none⟩ ∧
   ∃ (x9p_ : Option Addr) (x9n_ x9c_ : Nat), cellsAt hp_ b_ (o_ + 1) [(Value.slice x9p_ x9n_ x9c_)] ∧
   (((decide (i_ < ((x9n_ : Nat) : Int))) = true →
     ∃ b_1 o_1, d_ = some ⟨b_1, o_1, none⟩ ∧
     ∃ (x18p_ : Option Addr) (x18n_ x18c_ : Nat), cellsAt hp_ b_1 (o_1 + 1) [(Value.slice x18p_ x18n_ x18c_)] ∧
     ∃ b_2 o_2, x18p_ = some ⟨b_2, o_2, none⟩ ∧ 0 ≤ i_ ∧ i_ < (x18n_ : Int) ∧
     ∃ x22_ : Int, cellsAt hp_ b_2 ((o_2 + Int.toNat i_ * 2) + 0) [(Value.int .i64 x22_)] ∧
     SemH Tryz.prog (Instr.buildSlice 59 1 #[(0, (Value.int .i64 x22_))]) hp_ fun v_ hp_1 =>
     ∃ (x23p_ : Option Addr) (x23n_ x23c_ : Nat), v_ = (Value.slice x23p_ x23n_ x23c_) ∧
     SemH Tryz.prog (Builtin.append_ #[59, 59] 59 #[(Value.slice outp_ outn_ outc_), (Value.slice x23p_ x23n_ x23c_)]) hp_1 fun v_1 hp_2 =>
     ∃ (x24p_ : Option Addr) (x24n_ x24c_ : Nat), v_1 = (Value.slice x24p_ x24n_ x24c_) ∧
     ∃ x13_, IntKind.i64.wrap (i_ + (1 : Int)) = x13_ ∧
     (Iv_ [(Value.slice x24p_ x24n_ x24c_), (Value.int .i64 x13_)] hp_2 ∧ m_ [(Value.slice x24p_ x24n_ x24c_), (Value.int .i64 x13_)] hp_2 < m_ [(Value.slice outp_ outn_ outc_), (Value.int .i64 i_)] hp_)) ∧
    ((decide (i_ < ((x9n_ : Nat) : Int))) = false →
     R (.returned (Value.slice outp_ outn_ outc_)) hp_)))) :
  CallsH Tryz.prog 28 #[(Value.pointer d_)] h R := calls_vc fine false Tryz.func28 (ann := A28) (args := [(Value.pointer d_)]) (by kernel_rfl) (Eq.mpr (by kernel_rfl) H)
/-- (*turnout/disk.Disk).Stats -/
def A29 : Ann := (.seq .nil (.seq (.seq .nil (.cond (.seq .nil .nil) .nil)) (.seq .nil .nil)))
theorem V29 (d_ : Option Addr) (h : Hp) (R : Ending → Hp → Prop) (H :
  ∀ b_ hp_, b_ = Array.size h → hp_ = Array.push h (.cells (zeros Tryz.prog 62) 62) → (∃ i z, Tryz.prog.info? 62 = some i ∧ i.zero = some z) ∧
  ∃ x4_, EqV Tryz.prog 26 (Value.pointer d_) (Value.pointer none) x4_ ∧
  ((x4_ = true →
    List.length [(Value.int .i64 (0 : Int)), (Value.int .i64 (0 : Int)), (Value.int .i64 (0 : Int))] = 3 ∧ (∀ c ∈ [(Value.int .i64 (0 : Int)), (Value.int .i64 (0 : Int)), (Value.int .i64 (0 : Int))], c.oneCell' = true) ∧ wrAt hp_ b_ 0 3 ∧ ∀ hp_1, hp_1 = setsH hp_ b_ 0 [(Value.int .i64 (0 : Int)), (Value.int .i64 (0 : Int)), (Value.int .i64 (0 : Int))] →
    ∃ resf0_ : Int, ∃ resf1_ : Int, ∃ resf2_ : Int, cellsAt hp_1 b_ 0 [(Value.int .i64 resf0_), (Value.int .i64 resf1_), (Value.int .i64 resf2_)] ∧
    R (.returned (Value.agg #[(Value.int .i64 resf0_), (Value.int .i64 resf1_), (Value.int .i64 resf2_)])) hp_1) ∧
   (x4_ = false →
    ∃ b_1 o_, d_ = some ⟨b_1, o_, none⟩ ∧
    ∃ x9f0_ : Int, ∃ x9f1_ : Int, ∃ x9f2_ : Int, cellsAt hp_ b_1 (o_ + 6) [(Value.int .i64 x9f0_), (Value.int .i64 x9f1_), (Value.int .i64 x9f2_)] ∧
    List.length [(Value.int .i64 x9f0_), (Value.int .i64 x9f1_), (Value.int .i64 x9f2_)] = 3 ∧ (∀ c ∈ [(Value.int .i64 x9f0_), (Value.int .i64 x9f1_), (Value.int .i64 x9f2_)], c.oneCell' = true) ∧ wrAt hp_ b_ 0 3 ∧ ∀ hp_2, hp_2 = setsH hp_ b_ 0 [(Value.int .i64 x9f0_), (Value.int .i64 x9f1_), (Value.int .i64 x9f2_)] →
    ∃ resf0_1 : Int, ∃ resf1_1 : Int, ∃ resf2_1 : Int, cellsAt hp_2 b_ 0 [(Value.int .i64 resf0_1), (Value.int .i64 resf1_1), (Value.int .i64 resf2_1)] ∧
    R (.returned (Value.agg #[(Value.int .i64 resf0_1), (Value.int .i64 resf1_1), (Value.int .i64 resf2_1)])) hp_2))) :
  CallsH Tryz.prog 29 #[(Value.pointer d_)] h R := calls_vc fine false Tryz.func29 (ann := A29) (args := [(Value.pointer d_)]) (by kernel_rfl) (Eq.mpr (by kernel_rfl) H)
/-- (*turnout/turnoutref04.Disk).Stats -/
def A30 : Ann := (.seq .nil (.seq .nil .nil))
theorem V30 (d_ : Option Addr) (h : Hp) (R : Ending → Hp → Prop) (H :
  ∀ b_ hp_, b_ = Array.size h → hp_ = Array.push h (.cells (zeros Tryz.prog 62) 62) → (∃ i z, Tryz.prog.info? 62 = some i ∧ i.zero = some z) ∧
  ∃ b_1 o_, d_ = some ⟨b_1, o_, none⟩ ∧
  ∃ x6f0_ : Int, ∃ x6f1_ : Int, ∃ x6f2_ : Int, cellsAt hp_ b_1 (o_ + 4) [(Value.int .i64 x6f0_), (Value.int .i64 x6f1_), (Value.int .i64 x6f2_)] ∧
  List.length [(Value.int .i64 x6f0_), (Value.int .i64 x6f1_), (Value.int .i64 x6f2_)] = 3 ∧ (∀ c ∈ [(Value.int .i64 x6f0_), (Value.int .i64 x6f1_), (Value.int .i64 x6f2_)], c.oneCell' = true) ∧ wrAt hp_ b_ 0 3 ∧ ∀ hp_1, hp_1 = setsH hp_ b_ 0 [(Value.int .i64 x6f0_), (Value.int .i64 x6f1_), (Value.int .i64 x6f2_)] →
  ∃ resf0_ : Int, ∃ resf1_ : Int, ∃ resf2_ : Int, cellsAt hp_1 b_ 0 [(Value.int .i64 resf0_), (Value.int .i64 resf1_), (Value.int .i64 resf2_)] ∧
  R (.returned (Value.agg #[(Value.int .i64 resf0_), (Value.int .i64 resf1_), (Value.int .i64 resf2_)])) hp_1) :
  CallsH Tryz.prog 30 #[(Value.pointer d_)] h R := calls_vc fine false Tryz.func30 (ann := A30) (args := [(Value.pointer d_)]) (by kernel_rfl) (Eq.mpr (by kernel_rfl) H)
/-- (*turnout/disk.Disk).Image -/
def A31 : Ann := (.seq .nil (.seq (.seq .nil (.cond (.seq .nil .nil) .nil)) (.seq .nil (.seq (.seq .nil (.block (.loop [(3, .slice), (20, (.int .i64))] (.seq .nil (.seq (.cond .nil .nil) (.seq (.block (.seq .nil .nil)) .nil)))))) (.seq .nil .nil)))))
theorem V31 (d_ : Option Addr) (h : Hp) (R : Ending → Hp → Prop) (H :
  ∃ x7_, EqV Tryz.prog 26 (Value.pointer d_) (Value.pointer none) x7_ ∧
  ((x7_ = true →
    R (.returned (Value.string (⟨#[]⟩ : ByteArray))) h) ∧
   (x7_ = false →
    ∃ b_ o_, d_ = some ⟨b_, o_, none⟩ ∧
    ∃ (x11p_ : Option Addr) (x11n_ x11c_ : Nat), cellsAt h b_ (o_ + 0) [(Value.slice x11p_ x11n_ x11c_)] ∧
    ∃ x13_, IntKind.i64.wrap (((x11n_ : Nat) : Int) * (512 : Int)) = x13_ ∧
    SemH Tryz.prog (Instr.makeSlice 56 (Value.int .i64 (0 : Int)) (Value.int .i64 x13_)) h fun v_ hp_ =>
    ∃ (x14p_ : Option Addr) (x14n_ x14c_ : Nat), v_ = (Value.slice x14p_ x14n_ x14c_) ∧
    ∃ b_1 o_1, d_ = some ⟨b_1, o_1, none⟩ ∧
    ∃ (x18p_ : Option Addr) (x18n_ x18c_ : Nat), cellsAt hp_ b_1 (o_1 + 0) [(Value.slice x18p_ x18n_ x18c_)] ∧
    ∃ (Iv_ : List Value → Hp → Prop) (m_ : List Value → Hp → Nat), Iv_ [(Value.slice x14p_ x14n_ x14c_), (Value.int .i64 (0 : Int))] hp_ ∧
    (∀ (bp_ : Option Addr) (bn_ bc_ : Nat) (x20_ : Int) hp_1, Iv_ [(Value.slice bp_ bn_ bc_), (Value.int .i64 x20_)] hp_1 →
     (((decide (x20_ < ((x18n_ : Nat) : Int))) = true →
       ∃ b_2 o_2, x18p_ = some ⟨b_2, o_2, none⟩ ∧ 0 ≤ x20_ ∧ x20_ < (x18n_ : Int) ∧
       ∃ x23_ : ByteArray, cellsAt hp_1 b_2 (o_2 + Int.toNat x20_ * 1) [(Value.string x23_)] ∧
       SemH Tryz.prog (Builtin.append_ #[56, 9] 56 #[(Value.slice bp_ bn_ bc_), (Value.string x23_)]) hp_1 fun v_1 hp_2 =>
       ∃ (x26p_ : Option Addr) (x26n_ x26c_ : Nat), v_1 = (Value.slice x26p_ x26n_ x26c_) ∧
       ∃ x27_, IntKind.i64.wrap (x20_ + (1 : Int)) = x27_ ∧
       (Iv_ [(Value.slice x26p_ x26n_ x26c_), (Value.int .i64 x27_)] hp_2 ∧ m_ [(Value.slice x26p_ x26n_ x26c_), (Value.int .i64 x27_)] hp_2 < m_ [(Value.slice bp_ bn_ bc_), (Value.int .i64 x20_)] hp_1)) ∧
      ((decide (x20_ < ((x18n_ : Nat) : Int))) = false →
       SemH Tryz.prog (convert 56 9 (Value.slice bp_ bn_ bc_)) hp_1 fun v_2 hp_3 =>
       ∃ x29_ : ByteArray, v_2 = (Value.string x29_) ∧
       R (.returned (Value.string x29_)) hp_3)))))) :
  CallsH Tryz.prog 31 #[(Value.pointer d_)] h R := calls_vc fine false Tryz.func31 (ann := A31) (args := [(Value.pointer d_)]) (by kernel_rfl) (Eq.mpr (by kernel_rfl) H)
/-- (*turnout/turnoutref04.Disk).Image -/
def A32 : Ann := (.seq .nil (.seq .nil (.seq (.seq .nil (.block (.loop [(3, .slice), (4, (.int .i64))] (.seq (.seq .nil (.cond .nil .nil)) (.seq (.block .nil) .nil))))) (.seq .nil .nil))))
theorem V32 (d_ : Option Addr) (h : Hp) (R : Ending → Hp → Prop) (H :
  ∃ (Iv_ : List Value → Hp → Prop) (m_ : List Value → Hp → Nat), Iv_ [(Value.slice none 0 0), (Value.int .i64 (0 : Int))] h ∧
  (∀ (bp_ : Option Addr) (bn_ bc_ : Nat) (i_ : Int) hp_, Iv_ [(Value.slice bp_ bn_ bc_), (Value.int .i64 i_)] hp_ →
   ∃ b_ o_, d_ = some ⟨b_, o_, none⟩ ∧
   ∃ (x9p_ : Option Addr) (x9n_ x9c_ : Nat), cellsAt hp_ b_ (o_ + 0) [(Value.slice x9p_ x9n_ x9c_)] ∧
   (((decide (i_ < ((x9n_ : Nat) : Int))) = true →
     ∃ b_1 o_1, d_ = some ⟨b_1, o_1, none⟩ ∧
     ∃ (x18p_ : Option Addr) (x18n_ x18c_ : Nat), cellsAt hp_ b_1 (o_1 + 0) [(Value.slice x18p_ x18n_ x18c_)] ∧
     ∃ b_2 o_2, x18p_ = some ⟨b_2, o_2, none⟩ ∧ 0 ≤ i_ ∧ i_ < (x18n_ : Int) ∧
     ∃ x21_ : ByteArray, cellsAt hp_ b_2 (o_2 + Int.toNat i_ * 1) [(Value.string x21_)] ∧
     SemH Tryz.prog (Builtin.append_ #[56, 9] 56 #[(Value.slice bp_ bn_ bc_), (Value.string x21_)]) hp_ fun v_ hp_1 =>
     ∃ (x22p_ : Option Addr) (x22n_ x22c_ : Nat), v_ = (Value.slice x22p_ x22n_ x22c_) ∧
     ∃ x13_, IntKind.i64.wrap (i_ + (1 : Int)) = x13_ ∧
     (Iv_ [(Value.slice x22p_ x22n_ x22c_), (Value.int .i64 x13_)] hp_1 ∧ m_ [(Value.slice x22p_ x22n_ x22c_), (Value.int .i64 x13_)] hp_1 < m_ [(Value.slice bp_ bn_ bc_), (Value.int .i64 i_)] hp_)) ∧
    ((decide (i_ < ((x9n_ : Nat) : Int))) = false →
     SemH Tryz.prog (convert 56 9 (Value.slice bp_ bn_ bc_)) hp_ fun v_1 hp_2 =>
     ∃ x24_ : ByteArray, v_1 = (Value.string x24_) ∧
     R (.returned (Value.string x24_)) hp_2)))) :
  CallsH Tryz.prog 32 #[(Value.pointer d_)] h R := calls_vc fine false Tryz.func32 (ann := A32) (args := [(Value.pointer d_)]) (by kernel_rfl) (Eq.mpr (by kernel_rfl) H)
/-- (*turnout/disk.Disk).Off -/
def A33 : Ann := (.seq .nil (.seq (.join 2) .nil))
theorem V33 (d_ : Option Addr) (h : Hp) (R : Ending → Hp → Prop) (H :
  ∃ B_ : Bool, (∃ x4_, EqV Tryz.prog 26 (Value.pointer d_) (Value.pointer none) x4_ ∧
   (((!x4_) = true →
     ∃ b_ o_, d_ = some ⟨b_, o_, none⟩ ∧
     ∃ x9_ : Bool, cellsAt h b_ (o_ + 4) [(Value.bool x9_)] ∧
     h = h ∧ B_ = x9_) ∧
    ((!x4_) = false →
     h = h ∧ B_ = false))) ∧
  R (.returned (Value.bool B_)) h) :
  CallsH Tryz.prog 33 #[(Value.pointer d_)] h R := calls_vc fine false Tryz.func33 (ann := A33) (args := [(Value.pointer d_)]) (by kernel_rfl) (Eq.mpr (by kernel_rfl) H)
/-- (*turnout/turnoutref04.Disk).Off -/
def A34 : Ann := (.seq .nil (.seq .nil .nil))
theorem V34 (d_ : Option Addr) (h : Hp) (R : Ending → Hp → Prop) (H :
  ∃ b_ o_, d_ = some ⟨b_, o_, none⟩ ∧
  ∃ x6_ : Bool, cellsAt h b_ (o_ + 2) [(Value.bool x6_)] ∧
  R (.returned (Value.bool x6_)) h) :
  CallsH Tryz.prog 34 #[(Value.pointer d_)] h R := calls_vc fine false Tryz.func34 (ann := A34) (args := [(Value.pointer d_)]) (by kernel_rfl) (Eq.mpr (by kernel_rfl) H)
/-- turnout/disk.kept -/
def A35 : Ann := (.seq .nil (.seq (.seq .nil (.block (.seq .nil (.cond (.seq .nil .nil) (.seq .nil (.cond (.seq .nil .nil) .nil)))))) (.seq .nil .nil)))
theorem V35 (ff0_ : Int) (ff1_ : Int) (h : Hp) (R : Ending → Hp → Prop) (H :
  ∀ b_ hp_, b_ = Array.size h → hp_ = Array.push h (.cells #[(Value.int .i64 ff0_), (Value.int .i64 ff1_)] 80) →
  ∃ x4_ : Int, cellsAt hp_ b_ (0 + 0) [(Value.int .i64 x4_)] ∧
  (((decide (x4_ = (1 : Int))) = true →
    R (.returned (Value.int .i64 (512 : Int))) hp_) ∧
   ((decide (x4_ = (1 : Int))) = false →
    (((decide (x4_ = (2 : Int))) = true →
      ∃ x10_ : Int, cellsAt hp_ b_ (0 + 1) [(Value.int .i64 x10_)] ∧
      R (.returned (Value.int .i64 (min (max x10_ (0 : Int)) (512 : Int)))) hp_) ∧
     ((decide (x4_ = (2 : Int))) = false →
      R (.returned (Value.int .i64 (0 : Int))) hp_))))) :
  CallsH Tryz.prog 35 #[(Value.agg #[(Value.int .i64 ff0_), (Value.int .i64 ff1_)])] h R := calls_vc fine false Tryz.func35 (ann := A35) (args := [(Value.agg #[(Value.int .i64 ff0_), (Value.int .i64 ff1_)])]) (by kernel_rfl) (Eq.mpr (by kernel_rfl) H)
/-- (*turnout/disk.Disk).forget -/
def A36 : Ann := (.seq .nil (.seq .nil .nil))
theorem V36 (d_ : Option Addr) (h : Hp) (R : Ending → Hp → Prop) (H :
  ∃ b_ o_, d_ = some ⟨b_, o_, none⟩ ∧
  ∃ x5_ : Option Nat, cellsAt h b_ (o_ + 1) [(Value.map x5_)] ∧
  SemH Tryz.prog (Builtin.clear_ #[58] 0 #[(Value.map x5_)]) h fun v_ hp_ =>
  v_ = (Value.tuple #[]) ∧
  ∃ b_1 o_1, d_ = some ⟨b_1, o_1, none⟩ ∧
  Value.oneCell' (Value.slice none 0 0) = true ∧ wrAt hp_ b_1 (o_1 + 2) 1 ∧ ∀ hp_1, hp_1 = setsH hp_ b_1 (o_1 + 2) [(Value.slice none 0 0)] →
  ∃ b_2 o_2, d_ = some ⟨b_2, o_2, none⟩ ∧
  Value.oneCell' (Value.slice none 0 0) = true ∧ wrAt hp_1 b_2 (o_2 + 3) 1 ∧ ∀ hp_2, hp_2 = setsH hp_1 b_2 (o_2 + 3) [(Value.slice none 0 0)] →
  R (.returned (Value.tuple #[])) hp_2) :
  CallsH Tryz.prog 36 #[(Value.pointer d_)] h R := calls_vc fine false Tryz.func36 (ann := A36) (args := [(Value.pointer d_)]) (by kernel_rfl) (Eq.mpr (by kernel_rfl) H)
/-- turnout/turnoutref20.Find -/
def A37 : Ann := (.seq .nil (.seq (.seq .nil (.cond (.seq .nil .nil) .nil)) (.seq .nil (.seq (.seq .nil (.cond (.seq .nil .nil) .nil)) (.seq (.seq .nil (.cond (.seq .nil .nil) .nil)) (.seq .nil (.seq .nil (.seq (.seq .nil (.block (.loop [(8, .str), (9, (.int .i64))] (.seq (.seq .nil (.cond .nil .nil)) (.seq (.block (.seq .nil (.seq (.seq .nil (.cond (.seq .nil .nil) .nil)) (.seq (.seq (.join 90) (.cond (.seq .nil .nil) .nil)) .nil)))) .nil))))) (.seq (.seq (.drawLast [3]) (.cond (.seq .nil .nil) .nil)) (.seq .nil .nil))))))))))
theorem V37 (d_ : Option Addr) (h : Hp) (R : Ending → Hp → Prop) (H :
  ∀ b_ hp_, b_ = Array.size h → hp_ = Array.push h (.cells (zeros Tryz.prog 39) 39) → (∃ i z, Tryz.prog.info? 39 = some i ∧ i.zero = some z) ∧
  ∃ x13_, EqV Tryz.prog 30 (Value.pointer d_) (Value.pointer none) x13_ ∧
  ((x13_ = true →
    List.length [(Value.int .i64 (0 : Int)), (Value.int .u64 (0 : Int)), (Value.int .u64 (0 : Int)), (Value.int .i64 (0 : Int)), (Value.int .i64 (0 : Int))] = 5 ∧ (∀ c ∈ [(Value.int .i64 (0 : Int)), (Value.int .u64 (0 : Int)), (Value.int .u64 (0 : Int)), (Value.int .i64 (0 : Int)), (Value.int .i64 (0 : Int))], c.oneCell' = true) ∧ wrAt hp_ b_ 0 5 ∧ ∀ hp_1, hp_1 = setsH hp_ b_ 0 [(Value.int .i64 (0 : Int)), (Value.int .u64 (0 : Int)), (Value.int .u64 (0 : Int)), (Value.int .i64 (0 : Int)), (Value.int .i64 (0 : Int))] →
    ∃ resf0_ : Int, ∃ resf1_ : Int, ∃ resf2_ : Int, ∃ resf3_ : Int, ∃ resf4_ : Int, cellsAt hp_1 b_ 0 [(Value.int .i64 resf0_), (Value.int .u64 resf1_), (Value.int .u64 resf2_), (Value.int .i64 resf3_), (Value.int .i64 resf4_)] ∧
    R (.returned (Value.tuple #[(Value.agg #[(Value.int .i64 resf0_), (Value.int .u64 resf1_), (Value.int .u64 resf2_), (Value.int .i64 resf3_), (Value.int .i64 resf4_)]), (Value.string (⟨#[]⟩ : ByteArray)), (Value.int .i64 (1 : Int))])) hp_1) ∧
   (x13_ = false →
    CallsH Tryz.prog 59 #[(Value.pointer d_)] hp_ fun en_ hp_2 =>
    ∃ (x17r0p_ : Option Addr) (x17r0n_ x17r0c_ : Nat), ∃ x17r1_ : Int, en_ = .returned (Value.tuple #[(Value.slice x17r0p_ x17r0n_ x17r0c_), (Value.int .i64 x17r1_)]) ∧
    (((decide (x17r1_ ≠ (0 : Int))) = true →
      List.length [(Value.int .i64 (0 : Int)), (Value.int .u64 (0 : Int)), (Value.int .u64 (0 : Int)), (Value.int .i64 (0 : Int)), (Value.int .i64 (0 : Int))] = 5 ∧ (∀ c ∈ [(Value.int .i64 (0 : Int)), (Value.int .u64 (0 : Int)), (Value.int .u64 (0 : Int)), (Value.int .i64 (0 : Int)), (Value.int .i64 (0 : Int))], c.oneCell' = true) ∧ wrAt hp_2 b_ 0 5 ∧ ∀ hp_3, hp_3 = setsH hp_2 b_ 0 [(Value.int .i64 (0 : Int)), (Value.int .u64 (0 : Int)), (Value.int .u64 (0 : Int)), (Value.int .i64 (0 : Int)), (Value.int .i64 (0 : Int))] →
      ∃ resf0_1 : Int, ∃ resf1_1 : Int, ∃ resf2_1 : Int, ∃ resf3_1 : Int, ∃ resf4_1 : Int, cellsAt hp_3 b_ 0 [(Value.int .i64 resf0_1), (Value.int .u64 resf1_1), (Value.int .u64 resf2_1), (Value.int .i64 resf3_1), (Value.int .i64 resf4_1)] ∧
      R (.returned (Value.tuple #[(Value.agg #[(Value.int .i64 resf0_1), (Value.int .u64 resf1_1), (Value.int .u64 resf2_1), (Value.int .i64 resf3_1), (Value.int .i64 resf4_1)]), (Value.string (⟨#[]⟩ : ByteArray)), (Value.int .i64 x17r1_)])) hp_3) ∧
     ((decide (x17r1_ ≠ (0 : Int))) = false →
      (((decide (((x17r0n_ : Nat) : Int) = (0 : Int))) = true →
        List.length [(Value.int .i64 (0 : Int)), (Value.int .u64 (0 : Int)), (Value.int .u64 (0 : Int)), (Value.int .i64 (0 : Int)), (Value.int .i64 (0 : Int))] = 5 ∧ (∀ c ∈ [(Value.int .i64 (0 : Int)), (Value.int .u64 (0 : Int)), (Value.int .u64 (0 : Int)), (Value.int .i64 (0 : Int)), (Value.int .i64 (0 : Int))], c.oneCell' = true) ∧ wrAt hp_2 b_ 0 5 ∧ ∀ hp_4, hp_4 = setsH hp_2 b_ 0 [(Value.int .i64 (0 : Int)), (Value.int .u64 (0 : Int)), (Value.int .u64 (0 : Int)), (Value.int .i64 (0 : Int)), (Value.int .i64 (0 : Int))] →
        ∃ resf0_2 : Int, ∃ resf1_2 : Int, ∃ resf2_2 : Int, ∃ resf3_2 : Int, ∃ resf4_2 : Int, cellsAt hp_4 b_ 0 [(Value.int .i64 resf0_2), (Value.int .u64 resf1_2), (Value.int .u64 resf2_2), (Value.int .i64 resf3_2), (Value.int .i64 resf4_2)] ∧
        R (.returned (Value.tuple #[(Value.agg #[(Value.int .i64 resf0_2), (Value.int .u64 resf1_2), (Value.int .u64 resf2_2), (Value.int .i64 resf3_2), (Value.int .i64 resf4_2)]), (Value.string (⟨#[]⟩ : ByteArray)), (Value.int .i64 (200 : Int))])) hp_4) ∧
       ((decide (((x17r0n_ : Nat) : Int) = (0 : Int))) = false →
        ∃ b_1 o_, x17r0p_ = some ⟨b_1, o_, none⟩ ∧ 0 ≤ (0 : Int) ∧ (0 : Int) < (x17r0n_ : Int) ∧
        ∃ x30f0_ : Int, ∃ x30f1_ : Int, ∃ x30f2_ : Int, ∃ x30f3_ : Int, ∃ x30f4_ : Int, ∃ x30f5_ : Int, ∃ x30f6_ : Int, cellsAt hp_2 b_1 (o_ + Int.toNat (0 : Int) * 7) [(Value.int .i64 x30f0_), (Value.int .u64 x30f1_), (Value.int .u64 x30f2_), (Value.int .i64 x30f3_), (Value.int .i64 x30f4_), (Value.int .i64 x30f5_), (Value.int .u32 x30f6_)] ∧
        ∀ b_2 hp_5, b_2 = Array.size hp_2 → hp_5 = Array.push hp_2 (.cells (zeros Tryz.prog 114) 114) → (∃ i z, Tryz.prog.info? 114 = some i ∧ i.zero = some z) ∧
        List.length [(Value.int .i64 x30f0_), (Value.int .u64 x30f1_), (Value.int .u64 x30f2_), (Value.int .i64 x30f3_), (Value.int .i64 x30f4_), (Value.int .i64 x30f5_), (Value.int .u32 x30f6_)] = 7 ∧ (∀ c ∈ [(Value.int .i64 x30f0_), (Value.int .u64 x30f1_), (Value.int .u64 x30f2_), (Value.int .i64 x30f3_), (Value.int .i64 x30f4_), (Value.int .i64 x30f5_), (Value.int .u32 x30f6_)], c.oneCell' = true) ∧ wrAt hp_5 b_2 0 7 ∧ ∀ hp_6, hp_6 = setsH hp_5 b_2 0 [(Value.int .i64 x30f0_), (Value.int .u64 x30f1_), (Value.int .u64 x30f2_), (Value.int .i64 x30f3_), (Value.int .i64 x30f4_), (Value.int .i64 x30f5_), (Value.int .u32 x30f6_)] →
        ∃ (Iv_ : List Value → Hp → Prop) (m_ : List Value → Hp → Nat), Iv_ [(Value.string (⟨#[]⟩ : ByteArray)), (Value.int .i64 (0 : Int))] hp_6 ∧
        (∀ (s_ : ByteArray) (k_ : Int) hp_7, Iv_ [(Value.string s_), (Value.int .i64 k_)] hp_7 →
         ∃ x34_ : Int, cellsAt hp_7 b_2 (0 + 5) [(Value.int .i64 x34_)] ∧
         (((decide ((ByteArray.size s_ : Int) < x34_)) = true →
           ∃ x42_ : Int, cellsAt hp_7 b_2 ((0 + 0) + 0) [(Value.int .i64 x42_)] ∧
           ∃ x46_ : Int, cellsAt hp_7 b_2 (((0 + 0) + 3) + 0) [(Value.int .i64 x46_)] ∧
           ∃ x47_, IntKind.i64.wrap (x42_ * x46_) = x47_ ∧
           ∃ x48_, IntKind.i64.wrap ((2 : Int) + x47_) = x48_ ∧
           ∃ x50_, IntKind.i64.wrap (x48_ + k_) = x50_ ∧
           CallsH Tryz.prog 60 #[(Value.pointer d_), (Value.int .i64 x50_)] hp_7 fun en_1 hp_8 =>
           ∃ x51r0f0_ : Int, ∃ x51r0f1_ : Int, ∃ x51r0f2_ : Int, ∃ x51r0f3_ : ByteArray, ∃ x51r1_ : Int, en_1 = .returned (Value.tuple #[(Value.agg #[(Value.int .i64 x51r0f0_), (Value.int .u64 x51r0f1_), (Value.int .i64 x51r0f2_), (Value.string x51r0f3_)]), (Value.int .i64 x51r1_)]) ∧
           ∀ b_3 hp_9, b_3 = Array.size hp_8 → hp_9 = Array.push hp_8 (.cells (zeros Tryz.prog 95) 95) → (∃ i z, Tryz.prog.info? 95 = some i ∧ i.zero = some z) ∧
           List.length [(Value.int .i64 x51r0f0_), (Value.int .u64 x51r0f1_), (Value.int .i64 x51r0f2_), (Value.string x51r0f3_)] = 4 ∧ (∀ c ∈ [(Value.int .i64 x51r0f0_), (Value.int .u64 x51r0f1_), (Value.int .i64 x51r0f2_), (Value.string x51r0f3_)], c.oneCell' = true) ∧ wrAt hp_9 b_3 0 4 ∧ ∀ hp_10, hp_10 = setsH hp_9 b_3 0 [(Value.int .i64 x51r0f0_), (Value.int .u64 x51r0f1_), (Value.int .i64 x51r0f2_), (Value.string x51r0f3_)] →
           (((decide (x51r1_ = (40 : Int))) = true →
             List.length [(Value.int .i64 (0 : Int)), (Value.int .u64 (0 : Int)), (Value.int .u64 (0 : Int)), (Value.int .i64 (0 : Int)), (Value.int .i64 (0 : Int))] = 5 ∧ (∀ c ∈ [(Value.int .i64 (0 : Int)), (Value.int .u64 (0 : Int)), (Value.int .u64 (0 : Int)), (Value.int .i64 (0 : Int)), (Value.int .i64 (0 : Int))], c.oneCell' = true) ∧ wrAt hp_10 b_ 0 5 ∧ ∀ hp_11, hp_11 = setsH hp_10 b_ 0 [(Value.int .i64 (0 : Int)), (Value.int .u64 (0 : Int)), (Value.int .u64 (0 : Int)), (Value.int .i64 (0 : Int)), (Value.int .i64 (0 : Int))] →
             ∃ resf0_3 : Int, ∃ resf1_3 : Int, ∃ resf2_3 : Int, ∃ resf3_3 : Int, ∃ resf4_3 : Int, cellsAt hp_11 b_ 0 [(Value.int .i64 resf0_3), (Value.int .u64 resf1_3), (Value.int .u64 resf2_3), (Value.int .i64 resf3_3), (Value.int .i64 resf4_3)] ∧
             R (.returned (Value.tuple #[(Value.agg #[(Value.int .i64 resf0_3), (Value.int .u64 resf1_3), (Value.int .u64 resf2_3), (Value.int .i64 resf3_3), (Value.int .i64 resf4_3)]), (Value.string (⟨#[]⟩ : ByteArray)), (Value.int .i64 x51r1_)])) hp_11) ∧
            ((decide (x51r1_ = (40 : Int))) = false →
             ∃ B_ : Bool, ((((decide (x51r1_ ≠ (0 : Int))) = true →
                hp_10 = hp_10 ∧ B_ = true) ∧
               ((decide (x51r1_ ≠ (0 : Int))) = false →
                ∃ x62_ : Int, cellsAt hp_10 b_3 (0 + 0) [(Value.int .i64 x62_)] ∧
                (((decide (x62_ ≠ (2 : Int))) = true →
                  hp_10 = hp_10 ∧ B_ = true) ∧
                 ((decide (x62_ ≠ (2 : Int))) = false →
                  ∃ x67_ : Int, cellsAt hp_10 b_3 (0 + 1) [(Value.int .u64 x67_)] ∧
                  ∃ x70_ : Int, cellsAt hp_10 b_2 ((0 + 0) + 1) [(Value.int .u64 x70_)] ∧
                  (((decide (x67_ ≠ x70_)) = true →
                    hp_10 = hp_10 ∧ B_ = true) ∧
                   ((decide (x67_ ≠ x70_)) = false →
                    ∃ x75_ : Int, cellsAt hp_10 b_3 (0 + 2) [(Value.int .i64 x75_)] ∧
                    (((decide (x75_ ≠ k_)) = true →
                      hp_10 = hp_10 ∧ B_ = true) ∧
                     ((decide (x75_ ≠ k_)) = false →
                      ∃ x81_ : ByteArray, cellsAt hp_10 b_3 (0 + 3) [(Value.string x81_)] ∧
                      ∃ x84_ : Int, cellsAt hp_10 b_2 (0 + 5) [(Value.int .i64 x84_)] ∧
                      ∃ x87_, IntKind.i64.wrap (x84_ - (ByteArray.size s_ : Int)) = x87_ ∧
                      hp_10 = hp_10 ∧ B_ = (decide ((ByteArray.size x81_ : Int) ≠ (min (491 : Int) x87_)))))))))))) ∧
             ((B_ = true →
               List.length [(Value.int .i64 (0 : Int)), (Value.int .u64 (0 : Int)), (Value.int .u64 (0 : Int)), (Value.int .i64 (0 : Int)), (Value.int .i64 (0 : Int))] = 5 ∧ (∀ c ∈ [(Value.int .i64 (0 : Int)), (Value.int .u64 (0 : Int)), (Value.int .u64 (0 : Int)), (Value.int .i64 (0 : Int)), (Value.int .i64 (0 : Int))], c.oneCell' = true) ∧ wrAt hp_10 b_ 0 5 ∧ ∀ hp_12, hp_12 = setsH hp_10 b_ 0 [(Value.int .i64 (0 : Int)), (Value.int .u64 (0 : Int)), (Value.int .u64 (0 : Int)), (Value.int .i64 (0 : Int)), (Value.int .i64 (0 : Int))] →
               ∃ resf0_4 : Int, ∃ resf1_4 : Int, ∃ resf2_4 : Int, ∃ resf3_4 : Int, ∃ resf4_4 : Int, cellsAt hp_12 b_ 0 [(Value.int .i64 resf0_4), (Value.int .u64 resf1_4), (Value.int .u64 resf2_4), (Value.int .i64 resf3_4), (Value.int .i64 resf4_4)] ∧
               R (.returned (Value.tuple #[(Value.agg #[(Value.int .i64 resf0_4), (Value.int .u64 resf1_4), (Value.int .u64 resf2_4), (Value.int .i64 resf3_4), (Value.int .i64 resf4_4)]), (Value.string (⟨#[]⟩ : ByteArray)), (Value.int .i64 (180 : Int))])) hp_12) ∧
              (B_ = false →
               ∃ x94_ : ByteArray, cellsAt hp_10 b_3 (0 + 3) [(Value.string x94_)] ∧
               ByteArray.size s_ + ByteArray.size x94_ ≤ 9223372036854775807 ∧ ∃ x95_, s_ ++ x94_ = x95_ ∧
               ∃ x37_, IntKind.i64.wrap (k_ + (1 : Int)) = x37_ ∧
               (Iv_ [(Value.string x95_), (Value.int .i64 x37_)] hp_10 ∧ m_ [(Value.string x95_), (Value.int .i64 x37_)] hp_10 < m_ [(Value.string s_), (Value.int .i64 k_)] hp_7)))))) ∧
          ((decide ((ByteArray.size s_ : Int) < x34_)) = false →
           ∃ Cv_ : Hp → Prop, Cv_ hp_7 ∧
           CallsH Tryz.prog 61 #[(Value.int .u32 (0 : Int)), (Value.string s_)] hp_7 fun en_2 hp_13 =>
           ∃ x97_ : Int, en_2 = .returned (Value.int .u32 x97_) ∧
           Cv_ hp_13 ∧
           ∃ x99_ : Int, (∀ h', Cv_ h' → cellsAt h' b_2 (0 + 6) [(Value.int .u32 x99_)]) ∧
           (((decide (x97_ ≠ x99_)) = true →
             List.length [(Value.int .i64 (0 : Int)), (Value.int .u64 (0 : Int)), (Value.int .u64 (0 : Int)), (Value.int .i64 (0 : Int)), (Value.int .i64 (0 : Int))] = 5 ∧ (∀ c ∈ [(Value.int .i64 (0 : Int)), (Value.int .u64 (0 : Int)), (Value.int .u64 (0 : Int)), (Value.int .i64 (0 : Int)), (Value.int .i64 (0 : Int))], c.oneCell' = true) ∧ wrAt hp_13 b_ 0 5 ∧ ∀ hp_14, hp_14 = setsH hp_13 b_ 0 [(Value.int .i64 (0 : Int)), (Value.int .u64 (0 : Int)), (Value.int .u64 (0 : Int)), (Value.int .i64 (0 : Int)), (Value.int .i64 (0 : Int))] →
             ∃ resf0_5 : Int, ∃ resf1_5 : Int, ∃ resf2_5 : Int, ∃ resf3_5 : Int, ∃ resf4_5 : Int, cellsAt hp_14 b_ 0 [(Value.int .i64 resf0_5), (Value.int .u64 resf1_5), (Value.int .u64 resf2_5), (Value.int .i64 resf3_5), (Value.int .i64 resf4_5)] ∧
             R (.returned (Value.tuple #[(Value.agg #[(Value.int .i64 resf0_5), (Value.int .u64 resf1_5), (Value.int .u64 resf2_5), (Value.int .i64 resf3_5), (Value.int .i64 resf4_5)]), (Value.string (⟨#[]⟩ : ByteArray)), (Value.int .i64 (180 : Int))])) hp_14) ∧
            ((decide (x97_ ≠ x99_)) = false →
             ∃ x103f0_ : Int, ∃ x103f1_ : Int, ∃ x103f2_ : Int, ∃ x103f3_ : Int, ∃ x103f4_ : Int, cellsAt hp_13 b_2 (0 + 0) [(Value.int .i64 x103f0_), (Value.int .u64 x103f1_), (Value.int .u64 x103f2_), (Value.int .i64 x103f3_), (Value.int .i64 x103f4_)] ∧
             List.length [(Value.int .i64 x103f0_), (Value.int .u64 x103f1_), (Value.int .u64 x103f2_), (Value.int .i64 x103f3_), (Value.int .i64 x103f4_)] = 5 ∧ (∀ c ∈ [(Value.int .i64 x103f0_), (Value.int .u64 x103f1_), (Value.int .u64 x103f2_), (Value.int .i64 x103f3_), (Value.int .i64 x103f4_)], c.oneCell' = true) ∧ wrAt hp_13 b_ 0 5 ∧ ∀ hp_15, hp_15 = setsH hp_13 b_ 0 [(Value.int .i64 x103f0_), (Value.int .u64 x103f1_), (Value.int .u64 x103f2_), (Value.int .i64 x103f3_), (Value.int .i64 x103f4_)] →
             ∃ resf0_6 : Int, ∃ resf1_6 : Int, ∃ resf2_6 : Int, ∃ resf3_6 : Int, ∃ resf4_6 : Int, cellsAt hp_15 b_ 0 [(Value.int .i64 resf0_6), (Value.int .u64 resf1_6), (Value.int .u64 resf2_6), (Value.int .i64 resf3_6), (Value.int .i64 resf4_6)] ∧
             R (.returned (Value.tuple #[(Value.agg #[(Value.int .i64 resf0_6), (Value.int .u64 resf1_6), (Value.int .u64 resf2_6), (Value.int .i64 resf3_6), (Value.int .i64 resf4_6)]), (Value.string s_), (Value.int .i64 (0 : Int))])) hp_15)))))))))))) :
  CallsH Tryz.prog 37 #[(Value.pointer d_)] h R := calls_vc fine false Tryz.func37 (ann := A37) (args := [(Value.pointer d_)]) (by kernel_rfl) (Eq.mpr (by kernel_rfl) H)
/-- turnout/ckpt.Heads -/
def A38 : Ann := (.seq .nil (.seq .nil (.seq .nil (.seq (.seq .nil (.block (.loop [(6, .slice), (16, (.int .i64))] (.seq .nil (.seq (.cond .nil .nil) (.seq (.block (.seq .nil .nil)) .nil)))))) (.seq .nil .nil)))))
theorem V38 (d_ : Option Addr) (h : Hp) (R : Ending → Hp → Prop) (H :
  CallsH Tryz.prog 47 #[(Value.pointer d_)] h fun en_ hp_ =>
  ∃ (x11r0p_ : Option Addr) (x11r0n_ x11r0c_ : Nat), ∃ x11r1_ : Int, en_ = .returned (Value.tuple #[(Value.slice x11r0p_ x11r0n_ x11r0c_), (Value.int .i64 x11r1_)]) ∧
  ∃ (Iv_ : List Value → Hp → Prop) (m_ : List Value → Hp → Nat), Iv_ [(Value.slice none 0 0), (Value.int .i64 (0 : Int))] hp_ ∧
  (∀ (outp_ : Option Addr) (outn_ outc_ : Nat) (x16_ : Int) hp_1, Iv_ [(Value.slice outp_ outn_ outc_), (Value.int .i64 x16_)] hp_1 →
   (((decide (x16_ < ((x11r0n_ : Nat) : Int))) = true →
     ∃ b_ o_, x11r0p_ = some ⟨b_, o_, none⟩ ∧ 0 ≤ x16_ ∧ x16_ < (x11r0n_ : Int) ∧
     ∃ x19f0_ : Int, ∃ x19f1_ : Int, ∃ x19f2_ : Int, ∃ x19f3_ : Int, ∃ x19f4_ : Int, ∃ x19f5_ : Int, ∃ x19f6_ : Int, cellsAt hp_1 b_ (o_ + Int.toNat x16_ * 7) [(Value.int .i64 x19f0_), (Value.int .u64 x19f1_), (Value.int .u64 x19f2_), (Value.int .i64 x19f3_), (Value.int .i64 x19f4_), (Value.int .i64 x19f5_), (Value.int .u32 x19f6_)] ∧
     ∀ b_1 hp_2, b_1 = Array.size hp_1 → hp_2 = Array.push hp_1 (.cells (zeros Tryz.prog 101) 101) → (∃ i z, Tryz.prog.info? 101 = some i ∧ i.zero = some z) ∧
     List.length [(Value.int .i64 x19f0_), (Value.int .u64 x19f1_), (Value.int .u64 x19f2_), (Value.int .i64 x19f3_), (Value.int .i64 x19f4_), (Value.int .i64 x19f5_), (Value.int .u32 x19f6_)] = 7 ∧ (∀ c ∈ [(Value.int .i64 x19f0_), (Value.int .u64 x19f1_), (Value.int .u64 x19f2_), (Value.int .i64 x19f3_), (Value.int .i64 x19f4_), (Value.int .i64 x19f5_), (Value.int .u32 x19f6_)], c.oneCell' = true) ∧ wrAt hp_2 b_1 0 7 ∧ ∀ hp_3, hp_3 = setsH hp_2 b_1 0 [(Value.int .i64 x19f0_), (Value.int .u64 x19f1_), (Value.int .u64 x19f2_), (Value.int .i64 x19f3_), (Value.int .i64 x19f4_), (Value.int .i64 x19f5_), (Value.int .u32 x19f6_)] →
     ∃ x22f0_ : Int, ∃ x22f1_ : Int, ∃ x22f2_ : Int, ∃ x22f3_ : Int, ∃ x22f4_ : Int, cellsAt hp_3 b_1 (0 + 0) [(Value.int .i64 x22f0_), (Value.int .u64 x22f1_), (Value.int .u64 x22f2_), (Value.int .i64 x22f3_), (Value.int .i64 x22f4_)] ∧
     SemH Tryz.prog (Instr.buildSlice 84 1 #[(0, (Value.agg #[(Value.int .i64 x22f0_), (Value.int .u64 x22f1_), (Value.int .u64 x22f2_), (Value.int .i64 x22f3_), (Value.int .i64 x22f4_)]))]) hp_3 fun v_ hp_4 =>
     ∃ (x23p_ : Option Addr) (x23n_ x23c_ : Nat), v_ = (Value.slice x23p_ x23n_ x23c_) ∧
     SemH Tryz.prog (Builtin.append_ #[84, 84] 84 #[(Value.slice outp_ outn_ outc_), (Value.slice x23p_ x23n_ x23c_)]) hp_4 fun v_1 hp_5 =>
     ∃ (x24p_ : Option Addr) (x24n_ x24c_ : Nat), v_1 = (Value.slice x24p_ x24n_ x24c_) ∧
     ∃ x25_, IntKind.i64.wrap (x16_ + (1 : Int)) = x25_ ∧
     (Iv_ [(Value.slice x24p_ x24n_ x24c_), (Value.int .i64 x25_)] hp_5 ∧ m_ [(Value.slice x24p_ x24n_ x24c_), (Value.int .i64 x25_)] hp_5 < m_ [(Value.slice outp_ outn_ outc_), (Value.int .i64 x16_)] hp_1)) ∧
    ((decide (x16_ < ((x11r0n_ : Nat) : Int))) = false →
     R (.returned (Value.tuple #[(Value.slice outp_ outn_ outc_), (Value.int .i64 x11r1_)])) hp_1)))) :
  CallsH Tryz.prog 38 #[(Value.pointer d_)] h R := calls_vc fine false Tryz.func38 (ann := A38) (args := [(Value.pointer d_)]) (by kernel_rfl) (Eq.mpr (by kernel_rfl) H)
/-- turnout/turnoutref20.Heads -/
def A39 : Ann := (.seq .nil (.seq (.seq .nil (.cond (.seq .nil .nil) .nil)) (.seq .nil (.seq .nil (.seq (.seq .nil (.block (.loop [(6, .slice), (7, (.int .i64))] (.seq (.seq .nil (.cond .nil .nil)) (.seq (.block .nil) .nil))))) (.seq .nil .nil))))))
theorem V39 (d_ : Option Addr) (h : Hp) (R : Ending → Hp → Prop) (H :
  ∃ x9_, EqV Tryz.prog 30 (Value.pointer d_) (Value.pointer none) x9_ ∧
  ((x9_ = true →
    R (.returned (Value.tuple #[(Value.slice none 0 0), (Value.int .i64 (1 : Int))])) h) ∧
   (x9_ = false →
    CallsH Tryz.prog 59 #[(Value.pointer d_)] h fun en_ hp_ =>
    ∃ (x12r0p_ : Option Addr) (x12r0n_ x12r0c_ : Nat), ∃ x12r1_ : Int, en_ = .returned (Value.tuple #[(Value.slice x12r0p_ x12r0n_ x12r0c_), (Value.int .i64 x12r1_)]) ∧
    ∃ (Iv_ : List Value → Hp → Prop) (m_ : List Value → Hp → Nat), Iv_ [(Value.slice none 0 0), (Value.int .i64 (0 : Int))] hp_ ∧
    (∀ (outp_ : Option Addr) (outn_ outc_ : Nat) (i_ : Int) hp_1, Iv_ [(Value.slice outp_ outn_ outc_), (Value.int .i64 i_)] hp_1 →
     (((decide (i_ < ((x12r0n_ : Nat) : Int))) = true →
       ∃ b_ o_, x12r0p_ = some ⟨b_, o_, none⟩ ∧ 0 ≤ i_ ∧ i_ < (x12r0n_ : Int) ∧
       ∃ x26f0_ : Int, ∃ x26f1_ : Int, ∃ x26f2_ : Int, ∃ x26f3_ : Int, ∃ x26f4_ : Int, cellsAt hp_1 b_ ((o_ + Int.toNat i_ * 7) + 0) [(Value.int .i64 x26f0_), (Value.int .u64 x26f1_), (Value.int .u64 x26f2_), (Value.int .i64 x26f3_), (Value.int .i64 x26f4_)] ∧
       SemH Tryz.prog (Instr.buildSlice 84 1 #[(0, (Value.agg #[(Value.int .i64 x26f0_), (Value.int .u64 x26f1_), (Value.int .u64 x26f2_), (Value.int .i64 x26f3_), (Value.int .i64 x26f4_)]))]) hp_1 fun v_ hp_2 =>
       ∃ (x27p_ : Option Addr) (x27n_ x27c_ : Nat), v_ = (Value.slice x27p_ x27n_ x27c_) ∧
       SemH Tryz.prog (Builtin.append_ #[84, 84] 84 #[(Value.slice outp_ outn_ outc_), (Value.slice x27p_ x27n_ x27c_)]) hp_2 fun v_1 hp_3 =>
       ∃ (x28p_ : Option Addr) (x28n_ x28c_ : Nat), v_1 = (Value.slice x28p_ x28n_ x28c_) ∧
       ∃ x20_, IntKind.i64.wrap (i_ + (1 : Int)) = x20_ ∧
       (Iv_ [(Value.slice x28p_ x28n_ x28c_), (Value.int .i64 x20_)] hp_3 ∧ m_ [(Value.slice x28p_ x28n_ x28c_), (Value.int .i64 x20_)] hp_3 < m_ [(Value.slice outp_ outn_ outc_), (Value.int .i64 i_)] hp_1)) ∧
      ((decide (i_ < ((x12r0n_ : Nat) : Int))) = false →
       R (.returned (Value.tuple #[(Value.slice outp_ outn_ outc_), (Value.int .i64 x12r1_)])) hp_1)))))) :
  CallsH Tryz.prog 39 #[(Value.pointer d_)] h R := calls_vc fine false Tryz.func39 (ann := A39) (args := [(Value.pointer d_)]) (by kernel_rfl) (Eq.mpr (by kernel_rfl) H)
/-- turnout/ckpt.right -/
def A40 : Ann := (.seq .nil (.seq (.orders 9 [[0, 1, 2, 3, 4, 5, 6, 7, 8, 9, 10, 11], [0, 9, 1, 2, 3, 4, 5, 6, 7, 8, 10, 11], [0, 1, 2, 3, 4, 9, 5, 6, 7, 8, 10, 11]] [4]) (.seq .nil .nil)))
theorem V40 (d_ : Option Addr) (hf0_ : Int) (hf1_ : Int) (hf2_ : Int) (hf3_ : Int) (hf4_ : Int) (h : Hp) (R : Ending → Hp → Prop) (H :
  ∀ b_ hp_, b_ = Array.size h → hp_ = Array.push h (.cells #[(Value.int .i64 hf0_), (Value.int .u64 hf1_), (Value.int .u64 hf2_), (Value.int .i64 hf3_), (Value.int .i64 hf4_)] 39) →
  (∃ Cv_ : Hp → Prop, Cv_ hp_ ∧
   CallsH Tryz.prog 62 #[(Value.pointer d_)] hp_ fun en_ hp_1 =>
   ∃ x9_ : Int, en_ = .returned (Value.int .i64 x9_) ∧
   Cv_ hp_1 ∧
   ∃ x12_ : Int, (∀ h', Cv_ h' → cellsAt h' b_ ((0 + 3) + 0) [(Value.int .i64 x12_)]) ∧
   CallsH Tryz.prog 13 #[(Value.int .i64 x9_), (Value.int .i64 x12_)] hp_1 fun en_1 hp_2 =>
   ∃ x13r0f0_ : Int, ∃ x13r0f1_ : Int, ∃ x13r1_ : Int, en_1 = .returned (Value.tuple #[(Value.agg #[(Value.int .i64 x13r0f0_), (Value.int .i64 x13r0f1_)]), (Value.int .i64 x13r1_)]) ∧
   Cv_ hp_2 ∧
   ∀ b_1 hp_3, b_1 = Array.size hp_2 → hp_3 = Array.push hp_2 (.cells (zeros Tryz.prog 37) 37) → (∃ i z, Tryz.prog.info? 37 = some i ∧ i.zero = some z) ∧
   Cv_ hp_3 ∧
   List.length [(Value.int .i64 x13r0f0_), (Value.int .i64 x13r0f1_)] = 2 ∧ (∀ c ∈ [(Value.int .i64 x13r0f0_), (Value.int .i64 x13r0f1_)], c.oneCell' = true) ∧ wrAt hp_3 b_1 0 2 ∧ ∀ hp_4, hp_4 = setsH hp_3 b_1 0 [(Value.int .i64 x13r0f0_), (Value.int .i64 x13r0f1_)] →
   Cv_ hp_4 ∧
   (((decide (x13r1_ = (0 : Int))) = true →
     ∃ x19f0_ : Int, ∃ x19f1_ : Int, cellsAt hp_4 b_1 0 [(Value.int .i64 x19f0_), (Value.int .i64 x19f1_)] ∧
     ∃ x21f0_ : Int, ∃ x21f1_ : Int, cellsAt hp_4 b_ (0 + 3) [(Value.int .i64 x21f0_), (Value.int .i64 x21f1_)] ∧
     ∃ x22_, EqV Tryz.prog 37 (Value.agg #[(Value.int .i64 x19f0_), (Value.int .i64 x19f1_)]) (Value.agg #[(Value.int .i64 x21f0_), (Value.int .i64 x21f1_)]) x22_ ∧
     ((x22_ = true →
       ∃ x26_ : Int, cellsAt hp_4 b_ (0 + 0) [(Value.int .i64 x26_)] ∧
       (((decide (x26_ = (0 : Int))) = true →
         ∃ x36_ : Int, cellsAt hp_4 b_ (0 + 1) [(Value.int .u64 x36_)] ∧
         CallsH Tryz.prog 63 #[(Value.int .u64 x36_)] hp_4 fun en_2 hp_5 =>
         ∃ x37_ : Bool, en_2 = .returned (Value.bool x37_) ∧
         ((x37_ = true →
           ∃ x41_ : Int, cellsAt hp_5 b_ (0 + 2) [(Value.int .u64 x41_)] ∧
           CallsH Tryz.prog 63 #[(Value.int .u64 x41_)] hp_5 fun en_3 hp_6 =>
           ∃ x42_ : Bool, en_3 = .returned (Value.bool x42_) ∧
           R (.returned (Value.bool x42_)) hp_6) ∧
          (x37_ = false →
           R (.returned (Value.bool false)) hp_5))) ∧
        ((decide (x26_ = (0 : Int))) = false →
         ∃ x30_ : Int, cellsAt hp_4 b_ (0 + 0) [(Value.int .i64 x30_)] ∧
         (((decide (x30_ = (1 : Int))) = true →
           ∃ x36_1 : Int, cellsAt hp_4 b_ (0 + 1) [(Value.int .u64 x36_1)] ∧
           CallsH Tryz.prog 63 #[(Value.int .u64 x36_1)] hp_4 fun en_4 hp_7 =>
           ∃ x37_1 : Bool, en_4 = .returned (Value.bool x37_1) ∧
           ((x37_1 = true →
             ∃ x41_1 : Int, cellsAt hp_7 b_ (0 + 2) [(Value.int .u64 x41_1)] ∧
             CallsH Tryz.prog 63 #[(Value.int .u64 x41_1)] hp_7 fun en_5 hp_8 =>
             ∃ x42_1 : Bool, en_5 = .returned (Value.bool x42_1) ∧
             R (.returned (Value.bool x42_1)) hp_8) ∧
            (x37_1 = false →
             R (.returned (Value.bool false)) hp_7))) ∧
          ((decide (x30_ = (1 : Int))) = false →
           R (.returned (Value.bool false)) hp_4))))) ∧
      (x22_ = false →
       R (.returned (Value.bool false)) hp_4))) ∧
    ((decide (x13r1_ = (0 : Int))) = false →
     R (.returned (Value.bool false)) hp_4))) ∧
  (∃ Cv_1 : Hp → Prop, Cv_1 hp_ ∧
   ∀ b_2 hp_9, b_2 = Array.size hp_ → hp_9 = Array.push hp_ (.cells (zeros Tryz.prog 37) 37) → (∃ i z, Tryz.prog.info? 37 = some i ∧ i.zero = some z) ∧
   Cv_1 hp_9 ∧
   CallsH Tryz.prog 62 #[(Value.pointer d_)] hp_9 fun en_6 hp_10 =>
   ∃ x9_1 : Int, en_6 = .returned (Value.int .i64 x9_1) ∧
   Cv_1 hp_10 ∧
   ∃ x12_1 : Int, (∀ h', Cv_1 h' → cellsAt h' b_ ((0 + 3) + 0) [(Value.int .i64 x12_1)]) ∧
   CallsH Tryz.prog 13 #[(Value.int .i64 x9_1), (Value.int .i64 x12_1)] hp_10 fun en_7 hp_11 =>
   ∃ x13r0f0_1 : Int, ∃ x13r0f1_1 : Int, ∃ x13r1_1 : Int, en_7 = .returned (Value.tuple #[(Value.agg #[(Value.int .i64 x13r0f0_1), (Value.int .i64 x13r0f1_1)]), (Value.int .i64 x13r1_1)]) ∧
   Cv_1 hp_11 ∧
   List.length [(Value.int .i64 x13r0f0_1), (Value.int .i64 x13r0f1_1)] = 2 ∧ (∀ c ∈ [(Value.int .i64 x13r0f0_1), (Value.int .i64 x13r0f1_1)], c.oneCell' = true) ∧ wrAt hp_11 b_2 0 2 ∧ ∀ hp_12, hp_12 = setsH hp_11 b_2 0 [(Value.int .i64 x13r0f0_1), (Value.int .i64 x13r0f1_1)] →
   Cv_1 hp_12 ∧
   (((decide (x13r1_1 = (0 : Int))) = true →
     ∃ x19f0_1 : Int, ∃ x19f1_1 : Int, cellsAt hp_12 b_2 0 [(Value.int .i64 x19f0_1), (Value.int .i64 x19f1_1)] ∧
     ∃ x21f0_1 : Int, ∃ x21f1_1 : Int, cellsAt hp_12 b_ (0 + 3) [(Value.int .i64 x21f0_1), (Value.int .i64 x21f1_1)] ∧
     ∃ x22_1, EqV Tryz.prog 37 (Value.agg #[(Value.int .i64 x19f0_1), (Value.int .i64 x19f1_1)]) (Value.agg #[(Value.int .i64 x21f0_1), (Value.int .i64 x21f1_1)]) x22_1 ∧
     ((x22_1 = true →
       ∃ x26_1 : Int, cellsAt hp_12 b_ (0 + 0) [(Value.int .i64 x26_1)] ∧
       (((decide (x26_1 = (0 : Int))) = true →
         ∃ x36_2 : Int, cellsAt hp_12 b_ (0 + 1) [(Value.int .u64 x36_2)] ∧
         CallsH Tryz.prog 63 #[(Value.int .u64 x36_2)] hp_12 fun en_8 hp_13 =>
         ∃ x37_2 : Bool, en_8 = .returned (Value.bool x37_2) ∧
         ((x37_2 = true →
           ∃ x41_2 : Int, cellsAt hp_13 b_ (0 + 2) [(Value.int .u64 x41_2)] ∧
           CallsH Tryz.prog 63 #[(Value.int .u64 x41_2)] hp_13 fun en_9 hp_14 =>
           ∃ x42_2 : Bool, en_9 = .returned (Value.bool x42_2) ∧
           R (.returned (Value.bool x42_2)) hp_14) ∧
          (x37_2 = false →
           R (.returned (Value.bool false)) hp_13))) ∧
        ((decide (x26_1 = (0 : Int))) = false →
         ∃ x30_1 : Int, cellsAt hp_12 b_ (0 + 0) [(Value.int .i64 x30_1)] ∧
         (((decide (x30_1 = (1 : Int))) = true →
           ∃ x36_3 : Int, cellsAt hp_12 b_ (0 + 1) [(Value.int .u64 x36_3)] ∧
           CallsH Tryz.prog 63 #[(Value.int .u64 x36_3)] hp_12 fun en_10 hp_15 =>
           ∃ x37_3 : Bool, en_10 = .returned (Value.bool x37_3) ∧
           ((x37_3 = true →
             ∃ x41_3 : Int, cellsAt hp_15 b_ (0 + 2) [(Value.int .u64 x41_3)] ∧
             CallsH Tryz.prog 63 #[(Value.int .u64 x41_3)] hp_15 fun en_11 hp_16 =>
             ∃ x42_3 : Bool, en_11 = .returned (Value.bool x42_3) ∧
             R (.returned (Value.bool x42_3)) hp_16) ∧
            (x37_3 = false →
             R (.returned (Value.bool false)) hp_15))) ∧
          ((decide (x30_1 = (1 : Int))) = false →
           R (.returned (Value.bool false)) hp_12))))) ∧
      (x22_1 = false →
       R (.returned (Value.bool false)) hp_12))) ∧
    ((decide (x13r1_1 = (0 : Int))) = false →
     R (.returned (Value.bool false)) hp_12))) ∧
  (∃ Cv_2 : Hp → Prop, Cv_2 hp_ ∧
   CallsH Tryz.prog 62 #[(Value.pointer d_)] hp_ fun en_12 hp_17 =>
   ∃ x9_2 : Int, en_12 = .returned (Value.int .i64 x9_2) ∧
   Cv_2 hp_17 ∧
   ∃ x12_2 : Int, (∀ h', Cv_2 h' → cellsAt h' b_ ((0 + 3) + 0) [(Value.int .i64 x12_2)]) ∧
   ∀ b_3 hp_18, b_3 = Array.size hp_17 → hp_18 = Array.push hp_17 (.cells (zeros Tryz.prog 37) 37) → (∃ i z, Tryz.prog.info? 37 = some i ∧ i.zero = some z) ∧
   Cv_2 hp_18 ∧
   CallsH Tryz.prog 13 #[(Value.int .i64 x9_2), (Value.int .i64 x12_2)] hp_18 fun en_13 hp_19 =>
   ∃ x13r0f0_2 : Int, ∃ x13r0f1_2 : Int, ∃ x13r1_2 : Int, en_13 = .returned (Value.tuple #[(Value.agg #[(Value.int .i64 x13r0f0_2), (Value.int .i64 x13r0f1_2)]), (Value.int .i64 x13r1_2)]) ∧
   Cv_2 hp_19 ∧
   List.length [(Value.int .i64 x13r0f0_2), (Value.int .i64 x13r0f1_2)] = 2 ∧ (∀ c ∈ [(Value.int .i64 x13r0f0_2), (Value.int .i64 x13r0f1_2)], c.oneCell' = true) ∧ wrAt hp_19 b_3 0 2 ∧ ∀ hp_20, hp_20 = setsH hp_19 b_3 0 [(Value.int .i64 x13r0f0_2), (Value.int .i64 x13r0f1_2)] →
   Cv_2 hp_20 ∧
   (((decide (x13r1_2 = (0 : Int))) = true →
     ∃ x19f0_2 : Int, ∃ x19f1_2 : Int, cellsAt hp_20 b_3 0 [(Value.int .i64 x19f0_2), (Value.int .i64 x19f1_2)] ∧
     ∃ x21f0_2 : Int, ∃ x21f1_2 : Int, cellsAt hp_20 b_ (0 + 3) [(Value.int .i64 x21f0_2), (Value.int .i64 x21f1_2)] ∧
     ∃ x22_2, EqV Tryz.prog 37 (Value.agg #[(Value.int .i64 x19f0_2), (Value.int .i64 x19f1_2)]) (Value.agg #[(Value.int .i64 x21f0_2), (Value.int .i64 x21f1_2)]) x22_2 ∧
     ((x22_2 = true →
       ∃ x26_2 : Int, cellsAt hp_20 b_ (0 + 0) [(Value.int .i64 x26_2)] ∧
       (((decide (x26_2 = (0 : Int))) = true →
         ∃ x36_4 : Int, cellsAt hp_20 b_ (0 + 1) [(Value.int .u64 x36_4)] ∧
         CallsH Tryz.prog 63 #[(Value.int .u64 x36_4)] hp_20 fun en_14 hp_21 =>
         ∃ x37_4 : Bool, en_14 = .returned (Value.bool x37_4) ∧
         ((x37_4 = true →
           ∃ x41_4 : Int, cellsAt hp_21 b_ (0 + 2) [(Value.int .u64 x41_4)] ∧
           CallsH Tryz.prog 63 #[(Value.int .u64 x41_4)] hp_21 fun en_15 hp_22 =>
           ∃ x42_4 : Bool, en_15 = .returned (Value.bool x42_4) ∧
           R (.returned (Value.bool x42_4)) hp_22) ∧
          (x37_4 = false →
           R (.returned (Value.bool false)) hp_21))) ∧
        ((decide (x26_2 = (0 : Int))) = false →
         ∃ x30_2 : Int, cellsAt hp_20 b_ (0 + 0) [(Value.int .i64 x30_2)] ∧
         (((decide (x30_2 = (1 : Int))) = true →
           ∃ x36_5 : Int, cellsAt hp_20 b_ (0 + 1) [(Value.int .u64 x36_5)] ∧
           CallsH Tryz.prog 63 #[(Value.int .u64 x36_5)] hp_20 fun en_16 hp_23 =>
           ∃ x37_5 : Bool, en_16 = .returned (Value.bool x37_5) ∧
           ((x37_5 = true →
             ∃ x41_5 : Int, cellsAt hp_23 b_ (0 + 2) [(Value.int .u64 x41_5)] ∧
             CallsH Tryz.prog 63 #[(Value.int .u64 x41_5)] hp_23 fun en_17 hp_24 =>
             ∃ x42_5 : Bool, en_17 = .returned (Value.bool x42_5) ∧
             R (.returned (Value.bool x42_5)) hp_24) ∧
            (x37_5 = false →
             R (.returned (Value.bool false)) hp_23))) ∧
          ((decide (x30_2 = (1 : Int))) = false →
           R (.returned (Value.bool false)) hp_20))))) ∧
      (x22_2 = false →
       R (.returned (Value.bool false)) hp_20))) ∧
    ((decide (x13r1_2 = (0 : Int))) = false →
     R (.returned (Value.bool false)) hp_20)))) :
  CallsH Tryz.prog 40 #[(Value.pointer d_), (Value.agg #[(Value.int .i64 hf0_), (Value.int .u64 hf1_), (Value.int .u64 hf2_), (Value.int .i64 hf3_), (Value.int .i64 hf4_)])] h R := calls_vc fine false Tryz.func40 (ann := A40) (args := [(Value.pointer d_), (Value.agg #[(Value.int .i64 hf0_), (Value.int .u64 hf1_), (Value.int .u64 hf2_), (Value.int .i64 hf3_), (Value.int .i64 hf4_)])]) (by kernel_rfl) (Eq.mpr (by kernel_rfl) H)
/-- turnout/ckpt.most -/
def A41 : Ann := (.seq .nil (.seq .nil .nil))
theorem V41 (hf0_ : Int) (hf1_ : Int) (hf2_ : Int) (hf3_ : Int) (hf4_ : Int) (h : Hp) (R : Ending → Hp → Prop) (H :
  ∀ b_ hp_, b_ = Array.size h → hp_ = Array.push h (.cells #[(Value.int .i64 hf0_), (Value.int .u64 hf1_), (Value.int .u64 hf2_), (Value.int .i64 hf3_), (Value.int .i64 hf4_)] 39) →
  ∃ x5_ : Int, cellsAt hp_ b_ ((0 + 3) + 0) [(Value.int .i64 x5_)] ∧
  ∃ x6_, IntKind.i64.wrap ((491 : Int) * x5_) = x6_ ∧
  R (.returned (Value.int .i64 (min x6_ (2097152 : Int)))) hp_) :
  CallsH Tryz.prog 41 #[(Value.agg #[(Value.int .i64 hf0_), (Value.int .u64 hf1_), (Value.int .u64 hf2_), (Value.int .i64 hf3_), (Value.int .i64 hf4_)])] h R := calls_vc fine false Tryz.func41 (ann := A41) (args := [(Value.agg #[(Value.int .i64 hf0_), (Value.int .u64 hf1_), (Value.int .u64 hf2_), (Value.int .i64 hf3_), (Value.int .i64 hf4_)])]) (by kernel_rfl) (Eq.mpr (by kernel_rfl) H)
/-- turnout/ckpt.said -/
def A42 : Ann := (.seq .nil (.seq .nil (.seq .nil (.seq .nil (.seq .nil (.seq .nil (.seq .nil .nil)))))))
theorem V42 (hf0_ : Int) (hf1_ : Int) (hf2_ : Int) (hf3_ : Int) (hf4_ : Int) (image_ : ByteArray) (h : Hp) (R : Ending → Hp → Prop) (H :
  ∀ b_ hp_, b_ = Array.size h → hp_ = Array.push h (.cells #[(Value.int .i64 hf0_), (Value.int .u64 hf1_), (Value.int .u64 hf2_), (Value.int .i64 hf3_), (Value.int .i64 hf4_)] 39) →
  CallsH Tryz.prog 64 #[] hp_ fun en_ hp_1 =>
  ∃ x7_ : Option Addr, en_ = .returned (Value.pointer x7_) ∧
  ∃ x10_ : Int, cellsAt hp_1 b_ (0 + 2) [(Value.int .u64 x10_)] ∧
  CallsH Tryz.prog 65 #[(Value.pointer x7_), (Value.int .u64 x10_), (Value.int .i64 (8 : Int))] hp_1 fun en_1 hp_2 =>
  en_1 = .returned (Value.tuple #[]) ∧
  ∃ x15_ : Int, cellsAt hp_2 b_ ((0 + 3) + 0) [(Value.int .i64 x15_)] ∧
  ∃ x16_, IntKind.u64.wrap x15_ = x16_ ∧
  CallsH Tryz.prog 65 #[(Value.pointer x7_), (Value.int .u64 x16_), (Value.int .i64 (4 : Int))] hp_2 fun en_2 hp_3 =>
  en_2 = .returned (Value.tuple #[]) ∧
  ∃ x21_, IntKind.u64.wrap (ByteArray.size image_ : Int) = x21_ ∧
  CallsH Tryz.prog 65 #[(Value.pointer x7_), (Value.int .u64 x21_), (Value.int .i64 (4 : Int))] hp_3 fun en_3 hp_4 =>
  en_3 = .returned (Value.tuple #[]) ∧
  SemH Tryz.prog (Instr.buildSlice 57 1 #[(0, (Value.string image_))]) hp_4 fun v_ hp_5 =>
  ∃ (x25p_ : Option Addr) (x25n_ x25c_ : Nat), v_ = (Value.slice x25p_ x25n_ x25c_) ∧
  CallsH Tryz.prog 49 #[(Value.slice x25p_ x25n_ x25c_)] hp_5 fun en_4 hp_6 =>
  ∃ x26_ : Int, en_4 = .returned (Value.int .u32 x26_) ∧
  ∃ x27_, IntKind.u64.wrap x26_ = x27_ ∧
  CallsH Tryz.prog 65 #[(Value.pointer x7_), (Value.int .u64 x27_), (Value.int .i64 (4 : Int))] hp_6 fun en_5 hp_7 =>
  en_5 = .returned (Value.tuple #[]) ∧
  CallsH Tryz.prog 66 #[(Value.pointer x7_)] hp_7 fun en_6 hp_8 =>
  ∃ x30r0_ : ByteArray, ∃ x30r1_ : Int, en_6 = .returned (Value.tuple #[(Value.string x30r0_), (Value.int .i64 x30r1_)]) ∧
  R (.returned (Value.tuple #[(Value.string x30r0_), (Value.int .i64 x30r1_)])) hp_8) :
  CallsH Tryz.prog 42 #[(Value.agg #[(Value.int .i64 hf0_), (Value.int .u64 hf1_), (Value.int .u64 hf2_), (Value.int .i64 hf3_), (Value.int .i64 hf4_)]), (Value.string image_)] h R := calls_vc fine false Tryz.func42 (ann := A42) (args := [(Value.agg #[(Value.int .i64 hf0_), (Value.int .u64 hf1_), (Value.int .u64 hf2_), (Value.int .i64 hf3_), (Value.int .i64 hf4_)]), (Value.string image_)]) (by kernel_rfl) (Eq.mpr (by kernel_rfl) H)
/-- turnout/ckpt.Write$1 -/
def A43 : Ann := (.seq .nil (.seq (.drawLast [0, 3, 6, 7, 8]) .nil))
theorem V43 (a0_ : Option Addr) (a1_ : Option Addr) (a2_ : Option Addr) (a3_ : Option Addr) (h : Hp) (R : Ending → Hp → Prop) (H :
  ∃ Cv_ : Hp → Prop, Cv_ h ∧
  ∃ b_ o_, a0_ = some ⟨b_, o_, none⟩ ∧
  ∃ x5_ : Option Addr, (∀ h', Cv_ h' → cellsAt h' b_ o_ [(Value.pointer x5_)]) ∧
  ∃ b_1 o_1, a1_ = some ⟨b_1, o_1, none⟩ ∧
  ∃ x6f0_ : Int, ∃ x6f1_ : Int, ∃ x6f2_ : Int, ∃ x6f3_ : Int, ∃ x6f4_ : Int, cellsAt h b_1 o_1 [(Value.int .i64 x6f0_), (Value.int .u64 x6f1_), (Value.int .u64 x6f2_), (Value.int .i64 x6f3_), (Value.int .i64 x6f4_)] ∧
  CallsH Tryz.prog 45 #[(Value.agg #[(Value.int .i64 x6f0_), (Value.int .u64 x6f1_), (Value.int .u64 x6f2_), (Value.int .i64 x6f3_), (Value.int .i64 x6f4_)])] h fun en_ hp_ =>
  ∃ x7_ : Int, en_ = .returned (Value.int .i64 x7_) ∧
  Cv_ hp_ ∧
  ∃ b_2 o_2, a2_ = some ⟨b_2, o_2, none⟩ ∧
  ∃ x8_ : Int, (∀ h', Cv_ h' → cellsAt h' b_2 o_2 [(Value.int .i64 x8_)]) ∧
  ∃ x9_, IntKind.i64.wrap (x7_ + x8_) = x9_ ∧
  ∃ b_3 o_3, a1_ = some ⟨b_3, o_3, none⟩ ∧
  ∃ x11_ : Int, (∀ h', Cv_ h' → cellsAt h' b_3 (o_3 + 1) [(Value.int .u64 x11_)]) ∧
  ∃ b_4 o_4, a2_ = some ⟨b_4, o_4, none⟩ ∧
  ∃ x12_ : Int, (∀ h', Cv_ h' → cellsAt h' b_4 o_4 [(Value.int .i64 x12_)]) ∧
  ∃ b_5 o_5, a3_ = some ⟨b_5, o_5, none⟩ ∧
  ∃ x13_ : ByteArray, (∀ h', Cv_ h' → cellsAt h' b_5 o_5 [(Value.string x13_)]) ∧
  CallsH Tryz.prog 44 #[(Value.pointer x5_), (Value.int .i64 x9_), (Value.agg #[(Value.int .i64 (2 : Int)), (Value.int .u64 x11_), (Value.int .i64 x12_), (Value.string x13_)])] hp_ fun en_1 hp_1 =>
  ∃ x15_ : Int, en_1 = .returned (Value.int .i64 x15_) ∧
  Cv_ hp_1 ∧
  R (.returned (Value.int .i64 x15_)) hp_1) :
  CallsH Tryz.prog 43 #[(Value.pointer a0_), (Value.pointer a1_), (Value.pointer a2_), (Value.pointer a3_)] h R := calls_vc fine false Tryz.func43 (ann := A43) (args := [(Value.pointer a0_), (Value.pointer a1_), (Value.pointer a2_), (Value.pointer a3_)]) (by kernel_rfl) (Eq.mpr (by kernel_rfl) H)
/-- turnout/frame.Put -/
def A44 : Ann := (.seq .nil (.seq (.seq .nil (.cond (.seq .nil .nil) .nil)) (.seq (.seq .nil (.seq .nil (.cond (.seq .nil .nil) .nil))) (.seq .nil (.seq (.seq .nil (.cond (.seq .nil .nil) .nil)) (.seq .nil (.seq (.seq .nil (.cond (.seq .nil .nil) .nil)) (.seq .nil .nil))))))))
theorem V44 (d_ : Option Addr) (atv_ : Int) (ff0_ : Int) (ff1_ : Int) (ff2_ : Int) (ff3_ : ByteArray) (h : Hp) (R : Ending → Hp → Prop) (H :
  ∀ b_ hp_, b_ = Array.size h → hp_ = Array.push h (.cells #[(Value.int .i64 ff0_), (Value.int .u64 ff1_), (Value.int .i64 ff2_), (Value.string ff3_)] 95) →
  ∃ x12_, EqV Tryz.prog 26 (Value.pointer d_) (Value.pointer none) x12_ ∧
  ((x12_ = true →
    R (.returned (Value.int .i64 (1 : Int))) hp_) ∧
   (x12_ = false →
    ∃ x13f0_ : Int, ∃ x13f1_ : Int, ∃ x13f2_ : Int, ∃ x13f3_ : ByteArray, cellsAt hp_ b_ 0 [(Value.int .i64 x13f0_), (Value.int .u64 x13f1_), (Value.int .i64 x13f2_), (Value.string x13f3_)] ∧
    CallsH Tryz.prog 67 #[(Value.agg #[(Value.int .i64 x13f0_), (Value.int .u64 x13f1_), (Value.int .i64 x13f2_), (Value.string x13f3_)])] hp_ fun en_ hp_1 =>
    ∃ x14_ : Int, en_ = .returned (Value.int .i64 x14_) ∧
    (((decide (x14_ ≠ (0 : Int))) = true →
      R (.returned (Value.int .i64 x14_)) hp_1) ∧
     ((decide (x14_ ≠ (0 : Int))) = false →
      CallsH Tryz.prog 68 #[(Value.pointer d_), (Value.int .i64 atv_)] hp_1 fun en_1 hp_2 =>
      ∃ x21r0_ : ByteArray, ∃ x21r1_ : Int, en_1 = .returned (Value.tuple #[(Value.string x21r0_), (Value.int .i64 x21r1_)]) ∧
      (((decide (x21r1_ ≠ (0 : Int))) = true →
        R (.returned (Value.int .i64 x21r1_)) hp_2) ∧
       ((decide (x21r1_ ≠ (0 : Int))) = false →
        ∃ x28f0_ : Int, ∃ x28f1_ : Int, ∃ x28f2_ : Int, ∃ x28f3_ : ByteArray, cellsAt hp_2 b_ 0 [(Value.int .i64 x28f0_), (Value.int .u64 x28f1_), (Value.int .i64 x28f2_), (Value.string x28f3_)] ∧
        0 ≤ (511 : Int) ∧ ∃ x30_ : UInt8, x21r0_[Int.toNat (511 : Int)]? = some x30_ ∧
        ∃ x31_, IntKind.u8.wrap ((x30_.toNat : Int) + (1 : Int)) = x31_ ∧
        ∃ x32_, IntKind.i64.wrap x31_ = x32_ ∧
        ∃ x33_, andI .i64 x32_ (255 : Int) = x33_ ∧
        CallsH Tryz.prog 69 #[(Value.agg #[(Value.int .i64 x28f0_), (Value.int .u64 x28f1_), (Value.int .i64 x28f2_), (Value.string x28f3_)]), (Value.int .i64 x33_)] hp_2 fun en_2 hp_3 =>
        ∃ x34r0_ : ByteArray, ∃ x34r1_ : Int, en_2 = .returned (Value.tuple #[(Value.string x34r0_), (Value.int .i64 x34r1_)]) ∧
        (((decide (x34r1_ ≠ (0 : Int))) = true →
          R (.returned (Value.int .i64 x34r1_)) hp_3) ∧
         ((decide (x34r1_ ≠ (0 : Int))) = false →
          CallsH Tryz.prog 54 #[(Value.pointer d_), (Value.int .i64 atv_), (Value.string x34r0_)] hp_3 fun en_3 hp_4 =>
          ∃ x43_ : Int, en_3 = .returned (Value.int .i64 x43_) ∧
          R (.returned (Value.int .i64 x43_)) hp_4))))))))) :
  CallsH Tryz.prog 44 #[(Value.pointer d_), (Value.int .i64 atv_), (Value.agg #[(Value.int .i64 ff0_), (Value.int .u64 ff1_), (Value.int .i64 ff2_), (Value.string ff3_)])] h R := calls_vc fine false Tryz.func44 (ann := A44) (args := [(Value.pointer d_), (Value.int .i64 atv_), (Value.agg #[(Value.int .i64 ff0_), (Value.int .u64 ff1_), (Value.int .i64 ff2_), (Value.string ff3_)])]) (by kernel_rfl) (Eq.mpr (by kernel_rfl) H)
/-- turnout/ckpt.place -/
def A45 : Ann := (.seq .nil (.seq .nil .nil))
theorem V45 (hf0_ : Int) (hf1_ : Int) (hf2_ : Int) (hf3_ : Int) (hf4_ : Int) (h : Hp) (R : Ending → Hp → Prop) (H :
  ∀ b_ hp_, b_ = Array.size h → hp_ = Array.push h (.cells #[(Value.int .i64 hf0_), (Value.int .u64 hf1_), (Value.int .u64 hf2_), (Value.int .i64 hf3_), (Value.int .i64 hf4_)] 39) →
  ∃ x4_ : Int, cellsAt hp_ b_ (0 + 0) [(Value.int .i64 x4_)] ∧
  ∃ x7_ : Int, cellsAt hp_ b_ ((0 + 3) + 0) [(Value.int .i64 x7_)] ∧
  ∃ x8_, IntKind.i64.wrap (x4_ * x7_) = x8_ ∧
  ∃ x9_, IntKind.i64.wrap ((2 : Int) + x8_) = x9_ ∧
  R (.returned (Value.int .i64 x9_)) hp_) :
  CallsH Tryz.prog 45 #[(Value.agg #[(Value.int .i64 hf0_), (Value.int .u64 hf1_), (Value.int .u64 hf2_), (Value.int .i64 hf3_), (Value.int .i64 hf4_)])] h R := calls_vc fine false Tryz.func45 (ann := A45) (args := [(Value.agg #[(Value.int .i64 hf0_), (Value.int .u64 hf1_), (Value.int .u64 hf2_), (Value.int .i64 hf3_), (Value.int .i64 hf4_)])]) (by kernel_rfl) (Eq.mpr (by kernel_rfl) H)
/-- turnout/ckpt.Write$2 -/
def A46 : Ann := (.seq .nil (.seq .nil .nil))
theorem V46 (a0_ : Option Addr) (a1_ : Option Addr) (a2_ : Option Addr) (h : Hp) (R : Ending → Hp → Prop) (H :
  ∃ b_ o_, a0_ = some ⟨b_, o_, none⟩ ∧
  ∃ x4_ : Option Addr, cellsAt h b_ o_ [(Value.pointer x4_)] ∧
  ∃ b_1 o_1, a1_ = some ⟨b_1, o_1, none⟩ ∧
  ∃ x6_ : Int, cellsAt h b_1 (o_1 + 0) [(Value.int .i64 x6_)] ∧
  ∃ b_2 o_2, a1_ = some ⟨b_2, o_2, none⟩ ∧
  ∃ x8_ : Int, cellsAt h b_2 (o_2 + 1) [(Value.int .u64 x8_)] ∧
  ∃ b_3 o_3, a1_ = some ⟨b_3, o_3, none⟩ ∧
  ∃ x10_ : Int, cellsAt h b_3 (o_3 + 0) [(Value.int .i64 x10_)] ∧
  ∃ b_4 o_4, a2_ = some ⟨b_4, o_4, none⟩ ∧
  ∃ x11_ : ByteArray, cellsAt h b_4 o_4 [(Value.string x11_)] ∧
  CallsH Tryz.prog 44 #[(Value.pointer x4_), (Value.int .i64 x6_), (Value.agg #[(Value.int .i64 (1 : Int)), (Value.int .u64 x8_), (Value.int .i64 x10_), (Value.string x11_)])] h fun en_ hp_ =>
  ∃ x13_ : Int, en_ = .returned (Value.int .i64 x13_) ∧
  R (.returned (Value.int .i64 x13_)) hp_) :
  CallsH Tryz.prog 46 #[(Value.pointer a0_), (Value.pointer a1_), (Value.pointer a2_)] h R := calls_vc fine false Tryz.func46 (ann := A46) (args := [(Value.pointer a0_), (Value.pointer a1_), (Value.pointer a2_)]) (by kernel_rfl) (Eq.mpr (by kernel_rfl) H)
/-- turnout/ckpt.newest -/
def A47 : Ann := (.seq .nil (.seq (.seq .nil (.cond (.seq .nil .nil) .nil)) (.seq .nil (.seq (.seq .nil (.block (.loop [(4, .slice), (11, (.int .i64))] (.seq .nil (.seq (.cond .nil .nil) (.seq (.block (.seq .nil (.seq .nil (.seq (.seq .nil (.cond (.seq .nil .nil) .nil)) (.seq .nil (.cond .nil .nil)))))) .nil)))))) (.seq (.seq (.join 45) (.cond .nil .nil)) (.seq .nil .nil))))))
theorem V47 (d_ : Option Addr) (h : Hp) (R : Ending → Hp → Prop) (H :
  ∃ x10_, EqV Tryz.prog 26 (Value.pointer d_) (Value.pointer none) x10_ ∧
  ((x10_ = true →
    R (.returned (Value.tuple #[(Value.slice none 0 0), (Value.int .i64 (1 : Int))])) h) ∧
   (x10_ = false →
    ∃ (Iv_ : List Value → Hp → Prop) (m_ : List Value → Hp → Nat), Iv_ [(Value.slice none 0 0), (Value.int .i64 (0 : Int))] h ∧
    (∀ (lp_ : Option Addr) (ln_ lc_ : Nat) (x11_ : Int) hp_, Iv_ [(Value.slice lp_ ln_ lc_), (Value.int .i64 x11_)] hp_ →
     (((decide (x11_ < (2 : Int))) = true →
       CallsH Tryz.prog 70 #[(Value.pointer d_), (Value.int .i64 x11_)] hp_ fun en_ hp_1 =>
       ∃ x17r0f0_ : Int, ∃ x17r0f1_ : Int, ∃ x17r0f2_ : Int, ∃ x17r0f3_ : Int, ∃ x17r0f4_ : Int, ∃ x17r0f5_ : Int, ∃ x17r0f6_ : Int, ∃ x17r1_ : Bool, ∃ x17r2_ : Int, en_ = .returned (Value.tuple #[(Value.agg #[(Value.int .i64 x17r0f0_), (Value.int .u64 x17r0f1_), (Value.int .u64 x17r0f2_), (Value.int .i64 x17r0f3_), (Value.int .i64 x17r0f4_), (Value.int .i64 x17r0f5_), (Value.int .u32 x17r0f6_)]), (Value.bool x17r1_), (Value.int .i64 x17r2_)]) ∧
       ∀ b_ hp_2, b_ = Array.size hp_1 → hp_2 = Array.push hp_1 (.cells (zeros Tryz.prog 101) 101) → (∃ i z, Tryz.prog.info? 101 = some i ∧ i.zero = some z) ∧
       List.length [(Value.int .i64 x17r0f0_), (Value.int .u64 x17r0f1_), (Value.int .u64 x17r0f2_), (Value.int .i64 x17r0f3_), (Value.int .i64 x17r0f4_), (Value.int .i64 x17r0f5_), (Value.int .u32 x17r0f6_)] = 7 ∧ (∀ c ∈ [(Value.int .i64 x17r0f0_), (Value.int .u64 x17r0f1_), (Value.int .u64 x17r0f2_), (Value.int .i64 x17r0f3_), (Value.int .i64 x17r0f4_), (Value.int .i64 x17r0f5_), (Value.int .u32 x17r0f6_)], c.oneCell' = true) ∧ wrAt hp_2 b_ 0 7 ∧ ∀ hp_3, hp_3 = setsH hp_2 b_ 0 [(Value.int .i64 x17r0f0_), (Value.int .u64 x17r0f1_), (Value.int .u64 x17r0f2_), (Value.int .i64 x17r0f3_), (Value.int .i64 x17r0f4_), (Value.int .i64 x17r0f5_), (Value.int .u32 x17r0f6_)] →
       (((decide (x17r2_ ≠ (0 : Int))) = true →
         R (.returned (Value.tuple #[(Value.slice none 0 0), (Value.int .i64 x17r2_)])) hp_3) ∧
        ((decide (x17r2_ ≠ (0 : Int))) = false →
         ((x17r1_ = true →
           ∃ x26f0_ : Int, ∃ x26f1_ : Int, ∃ x26f2_ : Int, ∃ x26f3_ : Int, ∃ x26f4_ : Int, ∃ x26f5_ : Int, ∃ x26f6_ : Int, cellsAt hp_3 b_ 0 [(Value.int .i64 x26f0_), (Value.int .u64 x26f1_), (Value.int .u64 x26f2_), (Value.int .i64 x26f3_), (Value.int .i64 x26f4_), (Value.int .i64 x26f5_), (Value.int .u32 x26f6_)] ∧
           SemH Tryz.prog (Instr.buildSlice 96 1 #[(0, (Value.agg #[(Value.int .i64 x26f0_), (Value.int .u64 x26f1_), (Value.int .u64 x26f2_), (Value.int .i64 x26f3_), (Value.int .i64 x26f4_), (Value.int .i64 x26f5_), (Value.int .u32 x26f6_)]))]) hp_3 fun v_ hp_4 =>
           ∃ (x27p_ : Option Addr) (x27n_ x27c_ : Nat), v_ = (Value.slice x27p_ x27n_ x27c_) ∧
           SemH Tryz.prog (Builtin.append_ #[96, 96] 96 #[(Value.slice lp_ ln_ lc_), (Value.slice x27p_ x27n_ x27c_)]) hp_4 fun v_1 hp_5 =>
           ∃ (x28p_ : Option Addr) (x28n_ x28c_ : Nat), v_1 = (Value.slice x28p_ x28n_ x28c_) ∧
           ∃ x29_, IntKind.i64.wrap (x11_ + (1 : Int)) = x29_ ∧
           (Iv_ [(Value.slice x28p_ x28n_ x28c_), (Value.int .i64 x29_)] hp_5 ∧ m_ [(Value.slice x28p_ x28n_ x28c_), (Value.int .i64 x29_)] hp_5 < m_ [(Value.slice lp_ ln_ lc_), (Value.int .i64 x11_)] hp_)) ∧
          (x17r1_ = false →
           ∃ x29_1, IntKind.i64.wrap (x11_ + (1 : Int)) = x29_1 ∧
           (Iv_ [(Value.slice lp_ ln_ lc_), (Value.int .i64 x29_1)] hp_3 ∧ m_ [(Value.slice lp_ ln_ lc_), (Value.int .i64 x29_1)] hp_3 < m_ [(Value.slice lp_ ln_ lc_), (Value.int .i64 x11_)] hp_)))))) ∧
      ((decide (x11_ < (2 : Int))) = false →
       ∃ B_ : Bool, ((((decide (((ln_ : Nat) : Int) = (2 : Int))) = true →
          ∃ b_1 o_, lp_ = some ⟨b_1, o_, none⟩ ∧ 0 ≤ (0 : Int) ∧ (0 : Int) < (ln_ : Int) ∧
          ∃ x38_ : Int, cellsAt hp_ b_1 (((o_ + Int.toNat (0 : Int) * 7) + 0) + 1) [(Value.int .u64 x38_)] ∧
          ∃ b_2 o_1, lp_ = some ⟨b_2, o_1, none⟩ ∧ 0 ≤ (1 : Int) ∧ (1 : Int) < (ln_ : Int) ∧
          ∃ x43_ : Int, cellsAt hp_ b_2 (((o_1 + Int.toNat (1 : Int) * 7) + 0) + 1) [(Value.int .u64 x43_)] ∧
          hp_ = hp_ ∧ B_ = (decide (x38_ < x43_))) ∧
         ((decide (((ln_ : Nat) : Int) = (2 : Int))) = false →
          hp_ = hp_ ∧ B_ = false))) ∧
       ((B_ = true →
         ∃ b_3 o_2, lp_ = some ⟨b_3, o_2, none⟩ ∧ 0 ≤ (1 : Int) ∧ (1 : Int) < (ln_ : Int) ∧
         ∃ x50f0_ : Int, ∃ x50f1_ : Int, ∃ x50f2_ : Int, ∃ x50f3_ : Int, ∃ x50f4_ : Int, ∃ x50f5_ : Int, ∃ x50f6_ : Int, cellsAt hp_ b_3 (o_2 + Int.toNat (1 : Int) * 7) [(Value.int .i64 x50f0_), (Value.int .u64 x50f1_), (Value.int .u64 x50f2_), (Value.int .i64 x50f3_), (Value.int .i64 x50f4_), (Value.int .i64 x50f5_), (Value.int .u32 x50f6_)] ∧
         ∃ b_4 o_3, lp_ = some ⟨b_4, o_3, none⟩ ∧ 0 ≤ (0 : Int) ∧ (0 : Int) < (ln_ : Int) ∧
         ∃ x53f0_ : Int, ∃ x53f1_ : Int, ∃ x53f2_ : Int, ∃ x53f3_ : Int, ∃ x53f4_ : Int, ∃ x53f5_ : Int, ∃ x53f6_ : Int, cellsAt hp_ b_4 (o_3 + Int.toNat (0 : Int) * 7) [(Value.int .i64 x53f0_), (Value.int .u64 x53f1_), (Value.int .u64 x53f2_), (Value.int .i64 x53f3_), (Value.int .i64 x53f4_), (Value.int .i64 x53f5_), (Value.int .u32 x53f6_)] ∧
         ∃ b_5 o_4, lp_ = some ⟨b_5, o_4, none⟩ ∧ 0 ≤ (0 : Int) ∧ (0 : Int) < (ln_ : Int) ∧
         List.length [(Value.int .i64 x50f0_), (Value.int .u64 x50f1_), (Value.int .u64 x50f2_), (Value.int .i64 x50f3_), (Value.int .i64 x50f4_), (Value.int .i64 x50f5_), (Value.int .u32 x50f6_)] = 7 ∧ (∀ c ∈ [(Value.int .i64 x50f0_), (Value.int .u64 x50f1_), (Value.int .u64 x50f2_), (Value.int .i64 x50f3_), (Value.int .i64 x50f4_), (Value.int .i64 x50f5_), (Value.int .u32 x50f6_)], c.oneCell' = true) ∧ wrAt hp_ b_5 (o_4 + Int.toNat (0 : Int) * 7) 7 ∧ ∀ hp_6, hp_6 = setsH hp_ b_5 (o_4 + Int.toNat (0 : Int) * 7) [(Value.int .i64 x50f0_), (Value.int .u64 x50f1_), (Value.int .u64 x50f2_), (Value.int .i64 x50f3_), (Value.int .i64 x50f4_), (Value.int .i64 x50f5_), (Value.int .u32 x50f6_)] →
         ∃ b_6 o_5, lp_ = some ⟨b_6, o_5, none⟩ ∧ 0 ≤ (1 : Int) ∧ (1 : Int) < (ln_ : Int) ∧
         List.length [(Value.int .i64 x53f0_), (Value.int .u64 x53f1_), (Value.int .u64 x53f2_), (Value.int .i64 x53f3_), (Value.int .i64 x53f4_), (Value.int .i64 x53f5_), (Value.int .u32 x53f6_)] = 7 ∧ (∀ c ∈ [(Value.int .i64 x53f0_), (Value.int .u64 x53f1_), (Value.int .u64 x53f2_), (Value.int .i64 x53f3_), (Value.int .i64 x53f4_), (Value.int .i64 x53f5_), (Value.int .u32 x53f6_)], c.oneCell' = true) ∧ wrAt hp_6 b_6 (o_5 + Int.toNat (1 : Int) * 7) 7 ∧ ∀ hp_7, hp_7 = setsH hp_6 b_6 (o_5 + Int.toNat (1 : Int) * 7) [(Value.int .i64 x53f0_), (Value.int .u64 x53f1_), (Value.int .u64 x53f2_), (Value.int .i64 x53f3_), (Value.int .i64 x53f4_), (Value.int .i64 x53f5_), (Value.int .u32 x53f6_)] →
         R (.returned (Value.tuple #[(Value.slice lp_ ln_ lc_), (Value.int .i64 (0 : Int))])) hp_7) ∧
        (B_ = false →
         R (.returned (Value.tuple #[(Value.slice lp_ ln_ lc_), (Value.int .i64 (0 : Int))])) hp_)))))))) :
  CallsH Tryz.prog 47 #[(Value.pointer d_)] h R := calls_vc fine false Tryz.func47 (ann := A47) (args := [(Value.pointer d_)]) (by kernel_rfl) (Eq.mpr (by kernel_rfl) H)
/-- turnout/frame.Get -/
def A48 : Ann := (.seq .nil (.seq .nil (.seq (.seq .nil (.cond (.seq .nil .nil) .nil)) (.seq .nil (.seq .nil .nil)))))
theorem V48 (d_ : Option Addr) (atv_ : Int) (h : Hp) (R : Ending → Hp → Prop) (H :
  ∀ b_ hp_, b_ = Array.size h → hp_ = Array.push h (.cells (zeros Tryz.prog 95) 95) → (∃ i z, Tryz.prog.info? 95 = some i ∧ i.zero = some z) ∧
  CallsH Tryz.prog 68 #[(Value.pointer d_), (Value.int .i64 atv_)] hp_ fun en_ hp_1 =>
  ∃ x13r0_ : ByteArray, ∃ x13r1_ : Int, en_ = .returned (Value.tuple #[(Value.string x13r0_), (Value.int .i64 x13r1_)]) ∧
  (((decide (x13r1_ ≠ (0 : Int))) = true →
    List.length [(Value.int .i64 (0 : Int)), (Value.int .u64 (0 : Int)), (Value.int .i64 (0 : Int)), (Value.string (⟨#[]⟩ : ByteArray))] = 4 ∧ (∀ c ∈ [(Value.int .i64 (0 : Int)), (Value.int .u64 (0 : Int)), (Value.int .i64 (0 : Int)), (Value.string (⟨#[]⟩ : ByteArray))], c.oneCell' = true) ∧ wrAt hp_1 b_ 0 4 ∧ ∀ hp_2, hp_2 = setsH hp_1 b_ 0 [(Value.int .i64 (0 : Int)), (Value.int .u64 (0 : Int)), (Value.int .i64 (0 : Int)), (Value.string (⟨#[]⟩ : ByteArray))] →
    ∃ resf0_ : Int, ∃ resf1_ : Int, ∃ resf2_ : Int, ∃ resf3_ : ByteArray, cellsAt hp_2 b_ 0 [(Value.int .i64 resf0_), (Value.int .u64 resf1_), (Value.int .i64 resf2_), (Value.string resf3_)] ∧
    R (.returned (Value.tuple #[(Value.agg #[(Value.int .i64 resf0_), (Value.int .u64 resf1_), (Value.int .i64 resf2_), (Value.string resf3_)]), (Value.int .i64 x13r1_)])) hp_2) ∧
   ((decide (x13r1_ ≠ (0 : Int))) = false →
    CallsH Tryz.prog 71 #[(Value.string x13r0_)] hp_1 fun en_1 hp_3 =>
    ∃ x22r0f0_ : Int, ∃ x22r0f1_ : Int, ∃ x22r0f2_ : Int, ∃ x22r0f3_ : ByteArray, ∃ x22r1_ : Int, ∃ x22r2_ : Int, en_1 = .returned (Value.tuple #[(Value.agg #[(Value.int .i64 x22r0f0_), (Value.int .u64 x22r0f1_), (Value.int .i64 x22r0f2_), (Value.string x22r0f3_)]), (Value.int .i64 x22r1_), (Value.int .i64 x22r2_)]) ∧
    ∀ b_1 hp_4, b_1 = Array.size hp_3 → hp_4 = Array.push hp_3 (.cells (zeros Tryz.prog 95) 95) → (∃ i z, Tryz.prog.info? 95 = some i ∧ i.zero = some z) ∧
    List.length [(Value.int .i64 x22r0f0_), (Value.int .u64 x22r0f1_), (Value.int .i64 x22r0f2_), (Value.string x22r0f3_)] = 4 ∧ (∀ c ∈ [(Value.int .i64 x22r0f0_), (Value.int .u64 x22r0f1_), (Value.int .i64 x22r0f2_), (Value.string x22r0f3_)], c.oneCell' = true) ∧ wrAt hp_4 b_1 0 4 ∧ ∀ hp_5, hp_5 = setsH hp_4 b_1 0 [(Value.int .i64 x22r0f0_), (Value.int .u64 x22r0f1_), (Value.int .i64 x22r0f2_), (Value.string x22r0f3_)] →
    ∃ x26f0_ : Int, ∃ x26f1_ : Int, ∃ x26f2_ : Int, ∃ x26f3_ : ByteArray, cellsAt hp_5 b_1 0 [(Value.int .i64 x26f0_), (Value.int .u64 x26f1_), (Value.int .i64 x26f2_), (Value.string x26f3_)] ∧
    List.length [(Value.int .i64 x26f0_), (Value.int .u64 x26f1_), (Value.int .i64 x26f2_), (Value.string x26f3_)] = 4 ∧ (∀ c ∈ [(Value.int .i64 x26f0_), (Value.int .u64 x26f1_), (Value.int .i64 x26f2_), (Value.string x26f3_)], c.oneCell' = true) ∧ wrAt hp_5 b_ 0 4 ∧ ∀ hp_6, hp_6 = setsH hp_5 b_ 0 [(Value.int .i64 x26f0_), (Value.int .u64 x26f1_), (Value.int .i64 x26f2_), (Value.string x26f3_)] →
    ∃ resf0_1 : Int, ∃ resf1_1 : Int, ∃ resf2_1 : Int, ∃ resf3_1 : ByteArray, cellsAt hp_6 b_ 0 [(Value.int .i64 resf0_1), (Value.int .u64 resf1_1), (Value.int .i64 resf2_1), (Value.string resf3_1)] ∧
    R (.returned (Value.tuple #[(Value.agg #[(Value.int .i64 resf0_1), (Value.int .u64 resf1_1), (Value.int .i64 resf2_1), (Value.string resf3_1)]), (Value.int .i64 x22r2_)])) hp_6))) :
  CallsH Tryz.prog 48 #[(Value.pointer d_), (Value.int .i64 atv_)] h R := calls_vc fine false Tryz.func48 (ann := A48) (args := [(Value.pointer d_), (Value.int .i64 atv_)]) (by kernel_rfl) (Eq.mpr (by kernel_rfl) H)
end Go.Vc
