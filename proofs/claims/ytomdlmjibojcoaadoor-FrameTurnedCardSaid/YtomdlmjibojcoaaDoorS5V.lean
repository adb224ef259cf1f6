import Derived.Test.YtomdlmjibojcoaaDoorVcL
import Derived.Test.YtomdlmjibojcoaaDoorProg
set_option maxRecDepth 10000
namespace Go.Vc
open Go Go.Proofs
set_option maxRecDepth 100000
theorem fine : Fine Tryd.prog := fine_of (by kernel_rfl) (by kernel_rfl)
/-- turnout/turnoutlaw05.FrameSeals -/
def A3 : Ann := (.seq .nil (.seq .nil (.seq .nil (.seq .nil (.seq (.join 4) .nil)))))
theorem V3 (ff0_ : Int) (ff1_ : Int) (ff2_ : Int) (ff3_ : ByteArray) (mark_ : Int) (h : Hp) (R : Ending → Hp → Prop) (H :
  ∀ b_ hp_, b_ = Array.size h → hp_ = Array.push h (.cells #[(Value.int .i64 ff0_), (Value.int .u64 ff1_), (Value.int .i64 ff2_), (Value.string ff3_)] 24) →
  CallsH Tryd.prog 11 #[] hp_ fun en_ hp_1 =>
  ∃ x10_ : Bool, en_ = .returned (Value.bool x10_) ∧
  ∃ x12f0_ : Int, ∃ x12f1_ : Int, ∃ x12f2_ : Int, ∃ x12f3_ : ByteArray, cellsAt hp_1 b_ 0 [(Value.int .i64 x12f0_), (Value.int .u64 x12f1_), (Value.int .i64 x12f2_), (Value.string x12f3_)] ∧
  CallsH Tryd.prog 12 #[(Value.agg #[(Value.int .i64 x12f0_), (Value.int .u64 x12f1_), (Value.int .i64 x12f2_), (Value.string x12f3_)]), (Value.int .i64 mark_)] hp_1 fun en_1 hp_2 =>
  ∃ x14r0_ : ByteArray, ∃ x14r1_ : Int, en_1 = .returned (Value.tuple #[(Value.string x14r0_), (Value.int .i64 x14r1_)]) ∧
  ∃ x18f0_ : Int, ∃ x18f1_ : Int, ∃ x18f2_ : Int, ∃ x18f3_ : ByteArray, cellsAt hp_2 b_ 0 [(Value.int .i64 x18f0_), (Value.int .u64 x18f1_), (Value.int .i64 x18f2_), (Value.string x18f3_)] ∧
  CallsH Tryd.prog 13 #[(Value.agg #[(Value.int .i64 x18f0_), (Value.int .u64 x18f1_), (Value.int .i64 x18f2_), (Value.string x18f3_)]), (Value.int .i64 mark_)] hp_2 fun en_2 hp_3 =>
  ∃ x20r0_ : ByteArray, ∃ x20r1_ : Int, en_2 = .returned (Value.tuple #[(Value.string x20r0_), (Value.int .i64 x20r1_)]) ∧
  ∃ B_ : Bool, (((x10_ = true →
     (((decide (x14r0_ = x20r0_)) = true →
       hp_3 = hp_3 ∧ B_ = (decide (x14r1_ = x20r1_))) ∧
      ((decide (x14r0_ = x20r0_)) = false →
       hp_3 = hp_3 ∧ B_ = false))) ∧
    (x10_ = false →
     hp_3 = hp_3 ∧ B_ = false))) ∧
  R (.returned (Value.bool B_)) hp_3) :
  CallsH Tryd.prog 3 #[(Value.agg #[(Value.int .i64 ff0_), (Value.int .u64 ff1_), (Value.int .i64 ff2_), (Value.string ff3_)]), (Value.int .i64 mark_)] h R := calls_vc fine false Tryd.func3 (ann := A3) (args := [(Value.agg #[(Value.int .i64 ff0_), (Value.int .u64 ff1_), (Value.int .i64 ff2_), (Value.string ff3_)]), (Value.int .i64 mark_)]) (by kernel_rfl) (Eq.mpr (by kernel_rfl) H)
/-- turnout/turnoutlaw05.FrameOpens -/
def A4 : Ann := (.seq .nil (.seq .nil (.seq .nil (.seq .nil (.seq (.join 2) .nil)))))
theorem V4 (s_ : ByteArray) (h : Hp) (R : Ending → Hp → Prop) (H :
  CallsH Tryd.prog 11 #[] h fun en_ hp_ =>
  ∃ x10_ : Bool, en_ = .returned (Value.bool x10_) ∧
  CallsH Tryd.prog 14 #[(Value.string s_)] hp_ fun en_1 hp_1 =>
  ∃ x13r0f0_ : Int, ∃ x13r0f1_ : Int, ∃ x13r0f2_ : Int, ∃ x13r0f3_ : ByteArray, ∃ x13r1_ : Int, ∃ x13r2_ : Int, en_1 = .returned (Value.tuple #[(Value.agg #[(Value.int .i64 x13r0f0_), (Value.int .u64 x13r0f1_), (Value.int .i64 x13r0f2_), (Value.string x13r0f3_)]), (Value.int .i64 x13r1_), (Value.int .i64 x13r2_)]) ∧
  ∀ b_ hp_2, b_ = Array.size hp_1 → hp_2 = Array.push hp_1 (.cells (zeros Tryd.prog 24) 24) → (∃ i z, Tryd.prog.info? 24 = some i ∧ i.zero = some z) ∧
  List.length [(Value.int .i64 x13r0f0_), (Value.int .u64 x13r0f1_), (Value.int .i64 x13r0f2_), (Value.string x13r0f3_)] = 4 ∧ (∀ c ∈ [(Value.int .i64 x13r0f0_), (Value.int .u64 x13r0f1_), (Value.int .i64 x13r0f2_), (Value.string x13r0f3_)], c.oneCell' = true) ∧ wrAt hp_2 b_ 0 4 ∧ ∀ hp_3, hp_3 = setsH hp_2 b_ 0 [(Value.int .i64 x13r0f0_), (Value.int .u64 x13r0f1_), (Value.int .i64 x13r0f2_), (Value.string x13r0f3_)] →
  CallsH Tryd.prog 15 #[(Value.string s_)] hp_3 fun en_2 hp_4 =>
  ∃ x19r0f0_ : Int, ∃ x19r0f1_ : Int, ∃ x19r0f2_ : Int, ∃ x19r0f3_ : ByteArray, ∃ x19r1_ : Int, ∃ x19r2_ : Int, en_2 = .returned (Value.tuple #[(Value.agg #[(Value.int .i64 x19r0f0_), (Value.int .u64 x19r0f1_), (Value.int .i64 x19r0f2_), (Value.string x19r0f3_)]), (Value.int .i64 x19r1_), (Value.int .i64 x19r2_)]) ∧
  ∀ b_1 hp_5, b_1 = Array.size hp_4 → hp_5 = Array.push hp_4 (.cells (zeros Tryd.prog 24) 24) → (∃ i z, Tryd.prog.info? 24 = some i ∧ i.zero = some z) ∧
  List.length [(Value.int .i64 x19r0f0_), (Value.int .u64 x19r0f1_), (Value.int .i64 x19r0f2_), (Value.string x19r0f3_)] = 4 ∧ (∀ c ∈ [(Value.int .i64 x19r0f0_), (Value.int .u64 x19r0f1_), (Value.int .i64 x19r0f2_), (Value.string x19r0f3_)], c.oneCell' = true) ∧ wrAt hp_5 b_1 0 4 ∧ ∀ hp_6, hp_6 = setsH hp_5 b_1 0 [(Value.int .i64 x19r0f0_), (Value.int .u64 x19r0f1_), (Value.int .i64 x19r0f2_), (Value.string x19r0f3_)] →
  ∃ B_ : Bool, (((x10_ = true →
     ∃ x25f0_ : Int, ∃ x25f1_ : Int, ∃ x25f2_ : Int, ∃ x25f3_ : ByteArray, cellsAt hp_6 b_ 0 [(Value.int .i64 x25f0_), (Value.int .u64 x25f1_), (Value.int .i64 x25f2_), (Value.string x25f3_)] ∧
     ∃ x26f0_ : Int, ∃ x26f1_ : Int, ∃ x26f2_ : Int, ∃ x26f3_ : ByteArray, cellsAt hp_6 b_1 0 [(Value.int .i64 x26f0_), (Value.int .u64 x26f1_), (Value.int .i64 x26f2_), (Value.string x26f3_)] ∧
     ∃ x27_, EqV Tryd.prog 24 (Value.agg #[(Value.int .i64 x25f0_), (Value.int .u64 x25f1_), (Value.int .i64 x25f2_), (Value.string x25f3_)]) (Value.agg #[(Value.int .i64 x26f0_), (Value.int .u64 x26f1_), (Value.int .i64 x26f2_), (Value.string x26f3_)]) x27_ ∧
     ((x27_ = true →
       (((decide (x13r1_ = x19r1_)) = true →
         hp_6 = hp_6 ∧ B_ = (decide (x13r2_ = x19r2_))) ∧
        ((decide (x13r1_ = x19r1_)) = false →
         hp_6 = hp_6 ∧ B_ = false))) ∧
      (x27_ = false →
       hp_6 = hp_6 ∧ B_ = false))) ∧
    (x10_ = false →
     hp_6 = hp_6 ∧ B_ = false))) ∧
  R (.returned (Value.bool B_)) hp_6) :
  CallsH Tryd.prog 4 #[(Value.string s_)] h R := calls_vc fine false Tryd.func4 (ann := A4) (args := [(Value.string s_)]) (by kernel_rfl) (Eq.mpr (by kernel_rfl) H)
/-- turnout/turnoutlaw05.FrameBack -/
def A5 : Ann := (.seq .nil (.seq .nil (.seq .nil (.seq .nil (.seq .nil (.seq .nil (.seq .nil (.seq .nil (.cut (.seq (.join 66) (.cond (.seq .nil .nil) .nil)) [] (.seq (.join 6) .nil))))))))))
theorem V5 (rawf0_ : Int) (rawf1_ : Int) (rawf2_ : Int) (rawf3_ : ByteArray) (mark_ : Int) (other_ : Int) (h : Hp) (R : Ending → Hp → Prop) (H :
  ∀ b_ hp_, b_ = Array.size h → hp_ = Array.push h (.cells #[(Value.int .i64 rawf0_), (Value.int .u64 rawf1_), (Value.int .i64 rawf2_), (Value.string rawf3_)] 24) →
  CallsH Tryd.prog 11 #[] hp_ fun en_ hp_1 =>
  ∃ x18_ : Bool, en_ = .returned (Value.bool x18_) ∧
  ∃ x19f0_ : Int, ∃ x19f1_ : Int, ∃ x19f2_ : Int, ∃ x19f3_ : ByteArray, cellsAt hp_1 b_ 0 [(Value.int .i64 x19f0_), (Value.int .u64 x19f1_), (Value.int .i64 x19f2_), (Value.string x19f3_)] ∧
  CallsH Tryd.prog 16 #[(Value.agg #[(Value.int .i64 x19f0_), (Value.int .u64 x19f1_), (Value.int .i64 x19f2_), (Value.string x19f3_)])] hp_1 fun en_1 hp_2 =>
  ∃ x20f0_ : Int, ∃ x20f1_ : Int, ∃ x20f2_ : Int, ∃ x20f3_ : ByteArray, en_1 = .returned (Value.agg #[(Value.int .i64 x20f0_), (Value.int .u64 x20f1_), (Value.int .i64 x20f2_), (Value.string x20f3_)]) ∧
  ∀ b_1 hp_3, b_1 = Array.size hp_2 → hp_3 = Array.push hp_2 (.cells (zeros Tryd.prog 24) 24) → (∃ i z, Tryd.prog.info? 24 = some i ∧ i.zero = some z) ∧
  List.length [(Value.int .i64 x20f0_), (Value.int .u64 x20f1_), (Value.int .i64 x20f2_), (Value.string x20f3_)] = 4 ∧ (∀ c ∈ [(Value.int .i64 x20f0_), (Value.int .u64 x20f1_), (Value.int .i64 x20f2_), (Value.string x20f3_)], c.oneCell' = true) ∧ wrAt hp_3 b_1 0 4 ∧ ∀ hp_4, hp_4 = setsH hp_3 b_1 0 [(Value.int .i64 x20f0_), (Value.int .u64 x20f1_), (Value.int .i64 x20f2_), (Value.string x20f3_)] →
  CallsH Tryd.prog 17 #[(Value.int .i64 mark_), (Value.int .i64 (256 : Int))] hp_4 fun en_2 hp_5 =>
  ∃ x22_ : Int, en_2 = .returned (Value.int .i64 x22_) ∧
  CallsH Tryd.prog 17 #[(Value.int .i64 other_), (Value.int .i64 (256 : Int))] hp_5 fun en_3 hp_6 =>
  ∃ x24_ : Int, en_3 = .returned (Value.int .i64 x24_) ∧
  ∃ x26f0_ : Int, ∃ x26f1_ : Int, ∃ x26f2_ : Int, ∃ x26f3_ : ByteArray, cellsAt hp_6 b_1 0 [(Value.int .i64 x26f0_), (Value.int .u64 x26f1_), (Value.int .i64 x26f2_), (Value.string x26f3_)] ∧
  CallsH Tryd.prog 12 #[(Value.agg #[(Value.int .i64 x26f0_), (Value.int .u64 x26f1_), (Value.int .i64 x26f2_), (Value.string x26f3_)]), (Value.int .i64 x22_)] hp_6 fun en_4 hp_7 =>
  ∃ x28r0_ : ByteArray, ∃ x28r1_ : Int, en_4 = .returned (Value.tuple #[(Value.string x28r0_), (Value.int .i64 x28r1_)]) ∧
  ∃ x32f0_ : Int, ∃ x32f1_ : Int, ∃ x32f2_ : Int, ∃ x32f3_ : ByteArray, cellsAt hp_7 b_1 0 [(Value.int .i64 x32f0_), (Value.int .u64 x32f1_), (Value.int .i64 x32f2_), (Value.string x32f3_)] ∧
  CallsH Tryd.prog 12 #[(Value.agg #[(Value.int .i64 x32f0_), (Value.int .u64 x32f1_), (Value.int .i64 x32f2_), (Value.string x32f3_)]), (Value.int .i64 x24_)] hp_7 fun en_5 hp_8 =>
  ∃ x34r0_ : ByteArray, ∃ x34r1_ : Int, en_5 = .returned (Value.tuple #[(Value.string x34r0_), (Value.int .i64 x34r1_)]) ∧
  CallsH Tryd.prog 14 #[(Value.string x28r0_)] hp_8 fun en_6 hp_9 =>
  ∃ x39r0f0_ : Int, ∃ x39r0f1_ : Int, ∃ x39r0f2_ : Int, ∃ x39r0f3_ : ByteArray, ∃ x39r1_ : Int, ∃ x39r2_ : Int, en_6 = .returned (Value.tuple #[(Value.agg #[(Value.int .i64 x39r0f0_), (Value.int .u64 x39r0f1_), (Value.int .i64 x39r0f2_), (Value.string x39r0f3_)]), (Value.int .i64 x39r1_), (Value.int .i64 x39r2_)]) ∧
  ∀ b_2 hp_10, b_2 = Array.size hp_9 → hp_10 = Array.push hp_9 (.cells (zeros Tryd.prog 24) 24) → (∃ i z, Tryd.prog.info? 24 = some i ∧ i.zero = some z) ∧
  List.length [(Value.int .i64 x39r0f0_), (Value.int .u64 x39r0f1_), (Value.int .i64 x39r0f2_), (Value.string x39r0f3_)] = 4 ∧ (∀ c ∈ [(Value.int .i64 x39r0f0_), (Value.int .u64 x39r0f1_), (Value.int .i64 x39r0f2_), (Value.string x39r0f3_)], c.oneCell' = true) ∧ wrAt hp_10 b_2 0 4 ∧ ∀ hp_11, hp_11 = setsH hp_10 b_2 0 [(Value.int .i64 x39r0f0_), (Value.int .u64 x39r0f1_), (Value.int .i64 x39r0f2_), (Value.string x39r0f3_)] →
  ∃ Jv_ : List Value → Hp → Prop,
  (∃ B_ : Bool, ((((!x18_) = true →
      hp_11 = hp_11 ∧ B_ = true) ∧
     ((!x18_) = false →
      (((decide (x28r1_ ≠ (0 : Int))) = true →
        hp_11 = hp_11 ∧ B_ = true) ∧
       ((decide (x28r1_ ≠ (0 : Int))) = false →
        (((decide (x34r1_ ≠ (0 : Int))) = true →
          hp_11 = hp_11 ∧ B_ = true) ∧
         ((decide (x34r1_ ≠ (0 : Int))) = false →
          (((decide (x39r2_ ≠ (0 : Int))) = true →
            hp_11 = hp_11 ∧ B_ = true) ∧
           ((decide (x39r2_ ≠ (0 : Int))) = false →
            (((decide ((ByteArray.size x28r0_ : Int) ≠ (512 : Int))) = true →
              hp_11 = hp_11 ∧ B_ = true) ∧
             ((decide ((ByteArray.size x28r0_ : Int) ≠ (512 : Int))) = false →
              hp_11 = hp_11 ∧ B_ = (decide ((ByteArray.size x34r0_ : Int) ≠ (512 : Int)))))))))))))) ∧
   ((B_ = true →
     R (.returned (Value.bool false)) hp_11) ∧
    (B_ = false →
     Jv_ [] hp_11))) ∧
  (∀  hp_12, Jv_ [] hp_12 →
   ∃ B_1 : Bool, (∃ x67f0_ : Int, ∃ x67f1_ : Int, ∃ x67f2_ : Int, ∃ x67f3_ : ByteArray, cellsAt hp_12 b_2 0 [(Value.int .i64 x67f0_), (Value.int .u64 x67f1_), (Value.int .i64 x67f2_), (Value.string x67f3_)] ∧
    ∃ x68f0_ : Int, ∃ x68f1_ : Int, ∃ x68f2_ : Int, ∃ x68f3_ : ByteArray, cellsAt hp_12 b_1 0 [(Value.int .i64 x68f0_), (Value.int .u64 x68f1_), (Value.int .i64 x68f2_), (Value.string x68f3_)] ∧
    ∃ x69_, EqV Tryd.prog 24 (Value.agg #[(Value.int .i64 x67f0_), (Value.int .u64 x67f1_), (Value.int .i64 x67f2_), (Value.string x67f3_)]) (Value.agg #[(Value.int .i64 x68f0_), (Value.int .u64 x68f1_), (Value.int .i64 x68f2_), (Value.string x68f3_)]) x69_ ∧
    ((x69_ = true →
      (((decide (x39r1_ = x22_)) = true →
        0 ≤ (0 : Int) ∧ ∃ x77_ : UInt8, x28r0_[Int.toNat (0 : Int)]? = some x77_ ∧
        ∃ x79_, IntKind.u8.wrap x22_ = x79_ ∧
        (((decide ((x77_.toNat : Int) = x79_)) = true →
          0 ≤ (511 : Int) ∧ ∃ x84_ : UInt8, x28r0_[Int.toNat (511 : Int)]? = some x84_ ∧
          ∃ x86_, IntKind.u8.wrap x22_ = x86_ ∧
          (((decide ((x84_.toNat : Int) = x86_)) = true →
            ∃ l_ : Nat, (1 : Int) = (l_ : Int) ∧
            ∃ u_ : Nat, (511 : Int) = (u_ : Int) ∧
            l_ ≤ u_ ∧ u_ ≤ ByteArray.size x28r0_ ∧ ∃ x91_, ByteArray.extract x28r0_ l_ u_ = x91_ ∧
            ∃ l_1 : Nat, (1 : Int) = (l_1 : Int) ∧
            ∃ u_1 : Nat, (511 : Int) = (u_1 : Int) ∧
            l_1 ≤ u_1 ∧ u_1 ≤ ByteArray.size x34r0_ ∧ ∃ x93_, ByteArray.extract x34r0_ l_1 u_1 = x93_ ∧
            hp_12 = hp_12 ∧ B_1 = (decide (x91_ = x93_))) ∧
           ((decide ((x84_.toNat : Int) = x86_)) = false →
            hp_12 = hp_12 ∧ B_1 = false))) ∧
         ((decide ((x77_.toNat : Int) = x79_)) = false →
          hp_12 = hp_12 ∧ B_1 = false))) ∧
       ((decide (x39r1_ = x22_)) = false →
        hp_12 = hp_12 ∧ B_1 = false))) ∧
     (x69_ = false →
      hp_12 = hp_12 ∧ B_1 = false))) ∧
   R (.returned (Value.bool B_1)) hp_12)) :
  CallsH Tryd.prog 5 #[(Value.agg #[(Value.int .i64 rawf0_), (Value.int .u64 rawf1_), (Value.int .i64 rawf2_), (Value.string rawf3_)]), (Value.int .i64 mark_), (Value.int .i64 other_)] h R := calls_vc fine false Tryd.func5 (ann := A5) (args := [(Value.agg #[(Value.int .i64 rawf0_), (Value.int .u64 rawf1_), (Value.int .i64 rawf2_), (Value.string rawf3_)]), (Value.int .i64 mark_), (Value.int .i64 other_)]) (by kernel_rfl) (Eq.mpr (by kernel_rfl) H)
/-- turnout/turnoutlaw05.FrameAgain -/
def A6 : Ann := (.seq .nil (.seq .nil (.seq .nil (.seq (.seq .nil (.cond (.seq (.join 2) .nil) .nil)) (.seq .nil (.seq (.join 2) .nil))))))
theorem V6 (s_ : ByteArray) (h : Hp) (R : Ending → Hp → Prop) (H :
  CallsH Tryd.prog 11 #[] h fun en_ hp_ =>
  ∃ x9_ : Bool, en_ = .returned (Value.bool x9_) ∧
  CallsH Tryd.prog 14 #[(Value.string s_)] hp_ fun en_1 hp_1 =>
  ∃ x12r0f0_ : Int, ∃ x12r0f1_ : Int, ∃ x12r0f2_ : Int, ∃ x12r0f3_ : ByteArray, ∃ x12r1_ : Int, ∃ x12r2_ : Int, en_1 = .returned (Value.tuple #[(Value.agg #[(Value.int .i64 x12r0f0_), (Value.int .u64 x12r0f1_), (Value.int .i64 x12r0f2_), (Value.string x12r0f3_)]), (Value.int .i64 x12r1_), (Value.int .i64 x12r2_)]) ∧
  ∀ b_ hp_2, b_ = Array.size hp_1 → hp_2 = Array.push hp_1 (.cells (zeros Tryd.prog 24) 24) → (∃ i z, Tryd.prog.info? 24 = some i ∧ i.zero = some z) ∧
  List.length [(Value.int .i64 x12r0f0_), (Value.int .u64 x12r0f1_), (Value.int .i64 x12r0f2_), (Value.string x12r0f3_)] = 4 ∧ (∀ c ∈ [(Value.int .i64 x12r0f0_), (Value.int .u64 x12r0f1_), (Value.int .i64 x12r0f2_), (Value.string x12r0f3_)], c.oneCell' = true) ∧ wrAt hp_2 b_ 0 4 ∧ ∀ hp_3, hp_3 = setsH hp_2 b_ 0 [(Value.int .i64 x12r0f0_), (Value.int .u64 x12r0f1_), (Value.int .i64 x12r0f2_), (Value.string x12r0f3_)] →
  (((decide (x12r2_ ≠ (0 : Int))) = true →
    ∃ B_ : Bool, (((x9_ = true →
       ∃ x20f0_ : Int, ∃ x20f1_ : Int, ∃ x20f2_ : Int, ∃ x20f3_ : ByteArray, cellsAt hp_3 b_ 0 [(Value.int .i64 x20f0_), (Value.int .u64 x20f1_), (Value.int .i64 x20f2_), (Value.string x20f3_)] ∧
       ∃ x22_, EqV Tryd.prog 24 (Value.agg #[(Value.int .i64 x20f0_), (Value.int .u64 x20f1_), (Value.int .i64 x20f2_), (Value.string x20f3_)]) (Value.agg #[(Value.int .i64 (0 : Int)), (Value.int .u64 (0 : Int)), (Value.int .i64 (0 : Int)), (Value.string (⟨#[]⟩ : ByteArray))]) x22_ ∧
       ((x22_ = true →
         hp_3 = hp_3 ∧ B_ = (decide (x12r1_ = (0 : Int)))) ∧
        (x22_ = false →
         hp_3 = hp_3 ∧ B_ = false))) ∧
      (x9_ = false →
       hp_3 = hp_3 ∧ B_ = false))) ∧
    R (.returned (Value.bool B_)) hp_3) ∧
   ((decide (x12r2_ ≠ (0 : Int))) = false →
    ∃ x29f0_ : Int, ∃ x29f1_ : Int, ∃ x29f2_ : Int, ∃ x29f3_ : ByteArray, cellsAt hp_3 b_ 0 [(Value.int .i64 x29f0_), (Value.int .u64 x29f1_), (Value.int .i64 x29f2_), (Value.string x29f3_)] ∧
    CallsH Tryd.prog 12 #[(Value.agg #[(Value.int .i64 x29f0_), (Value.int .u64 x29f1_), (Value.int .i64 x29f2_), (Value.string x29f3_)]), (Value.int .i64 x12r1_)] hp_3 fun en_2 hp_4 =>
    ∃ x31r0_ : ByteArray, ∃ x31r1_ : Int, en_2 = .returned (Value.tuple #[(Value.string x31r0_), (Value.int .i64 x31r1_)]) ∧
    ∃ B_1 : Bool, (((x9_ = true →
       (((decide (x31r1_ = (0 : Int))) = true →
         hp_4 = hp_4 ∧ B_1 = (decide (x31r0_ = s_))) ∧
        ((decide (x31r1_ = (0 : Int))) = false →
         hp_4 = hp_4 ∧ B_1 = false))) ∧
      (x9_ = false →
       hp_4 = hp_4 ∧ B_1 = false))) ∧
    R (.returned (Value.bool B_1)) hp_4))) :
  CallsH Tryd.prog 6 #[(Value.string s_)] h R := calls_vc fine false Tryd.func6 (ann := A6) (args := [(Value.string s_)]) (by kernel_rfl) (Eq.mpr (by kernel_rfl) H)
/-- turnout/turnoutlaw05.FrameTurned -/
def A7 : Ann := (.seq .nil (.seq .nil (.seq .nil (.seq (.drawLast [0]) (.cut (.seq (.join 45) (.cond (.seq .nil .nil) .nil)) [] (.seq .nil (.seq (.drawLast [3]) (.seq .nil (.seq .nil (.seq (.drawLast [3]) (.seq .nil (.cut (.seq (.join 89) (.cond (.seq .nil .nil) .nil)) [] (.cut (.seq .nil (.cond .nil .nil)) [(3, (.int .u32))] (.seq .nil (.seq .nil (.seq (.seq .nil (.block (.loop [(21, (.int .i64))] (.seq (.seq .nil (.cond .nil .nil)) (.seq (.block (.seq .nil (.cond .nil .nil))) .nil))))) (.seq .nil (.seq (.join 8) .nil))))))))))))))))))
theorem V7 (rawf0_ : Int) (rawf1_ : Int) (rawf2_ : Int) (rawf3_ : ByteArray) (mark_ : Int) (atv_ : Int) (bits_ : Int) (h : Hp) (R : Ending → Hp → Prop) (H :
  ∀ b_ hp_, b_ = Array.size h → hp_ = Array.push h (.cells #[(Value.int .i64 rawf0_), (Value.int .u64 rawf1_), (Value.int .i64 rawf2_), (Value.string rawf3_)] 24) →
  CallsH Tryd.prog 11 #[] hp_ fun en_ hp_1 =>
  ∃ x25_ : Bool, en_ = .returned (Value.bool x25_) ∧
  ∃ x26f0_ : Int, ∃ x26f1_ : Int, ∃ x26f2_ : Int, ∃ x26f3_ : ByteArray, cellsAt hp_1 b_ 0 [(Value.int .i64 x26f0_), (Value.int .u64 x26f1_), (Value.int .i64 x26f2_), (Value.string x26f3_)] ∧
  CallsH Tryd.prog 16 #[(Value.agg #[(Value.int .i64 x26f0_), (Value.int .u64 x26f1_), (Value.int .i64 x26f2_), (Value.string x26f3_)])] hp_1 fun en_1 hp_2 =>
  ∃ x27f0_ : Int, ∃ x27f1_ : Int, ∃ x27f2_ : Int, ∃ x27f3_ : ByteArray, en_1 = .returned (Value.agg #[(Value.int .i64 x27f0_), (Value.int .u64 x27f1_), (Value.int .i64 x27f2_), (Value.string x27f3_)]) ∧
  ∀ b_1 hp_3, b_1 = Array.size hp_2 → hp_3 = Array.push hp_2 (.cells (zeros Tryd.prog 24) 24) → (∃ i z, Tryd.prog.info? 24 = some i ∧ i.zero = some z) ∧
  List.length [(Value.int .i64 x27f0_), (Value.int .u64 x27f1_), (Value.int .i64 x27f2_), (Value.string x27f3_)] = 4 ∧ (∀ c ∈ [(Value.int .i64 x27f0_), (Value.int .u64 x27f1_), (Value.int .i64 x27f2_), (Value.string x27f3_)], c.oneCell' = true) ∧ wrAt hp_3 b_1 0 4 ∧ ∀ hp_4, hp_4 = setsH hp_3 b_1 0 [(Value.int .i64 x27f0_), (Value.int .u64 x27f1_), (Value.int .i64 x27f2_), (Value.string x27f3_)] →
  ∃ Cv_ : Hp → Prop, Cv_ hp_4 ∧
  ∃ x29f0_ : Int, ∃ x29f1_ : Int, ∃ x29f2_ : Int, ∃ x29f3_ : ByteArray, (∀ h', Cv_ h' → cellsAt h' b_1 0 [(Value.int .i64 x29f0_), (Value.int .u64 x29f1_), (Value.int .i64 x29f2_), (Value.string x29f3_)]) ∧
  CallsH Tryd.prog 17 #[(Value.int .i64 mark_), (Value.int .i64 (256 : Int))] hp_4 fun en_2 hp_5 =>
  ∃ x31_ : Int, en_2 = .returned (Value.int .i64 x31_) ∧
  Cv_ hp_5 ∧
  CallsH Tryd.prog 12 #[(Value.agg #[(Value.int .i64 x29f0_), (Value.int .u64 x29f1_), (Value.int .i64 x29f2_), (Value.string x29f3_)]), (Value.int .i64 x31_)] hp_5 fun en_3 hp_6 =>
  ∃ x32r0_ : ByteArray, ∃ x32r1_ : Int, en_3 = .returned (Value.tuple #[(Value.string x32r0_), (Value.int .i64 x32r1_)]) ∧
  Cv_ hp_6 ∧
  ∃ Jv_ : List Value → Hp → Prop,
  (∃ B_ : Bool, ((((!x25_) = true →
      hp_6 = hp_6 ∧ B_ = true) ∧
     ((!x25_) = false →
      (((decide (x32r1_ ≠ (0 : Int))) = true →
        hp_6 = hp_6 ∧ B_ = true) ∧
       ((decide (x32r1_ ≠ (0 : Int))) = false →
        hp_6 = hp_6 ∧ B_ = (decide ((ByteArray.size x32r0_ : Int) ≠ (512 : Int)))))))) ∧
   ((B_ = true →
     R (.returned (Value.bool false)) hp_6) ∧
    (B_ = false →
     Jv_ [] hp_6))) ∧
  (∀  hp_7, Jv_ [] hp_7 →
   SemH Tryd.prog (convert 9 37 (Value.string x32r0_)) hp_7 fun v_ hp_8 =>
   ∃ (x47p_ : Option Addr) (x47n_ x47c_ : Nat), v_ = (Value.slice x47p_ x47n_ x47c_) ∧
   ∃ Cv_1 : Hp → Prop, Cv_1 hp_8 ∧
   ∃ b_2 o_, x47p_ = some ⟨b_2, o_, none⟩ ∧ 0 ≤ (0 : Int) ∧ (0 : Int) < (x47n_ : Int) ∧
   ∃ x51_ : Int, (∀ h', Cv_1 h' → cellsAt h' b_2 (o_ + Int.toNat (0 : Int) * 1) [(Value.int .u8 x51_)]) ∧
   CallsH Tryd.prog 17 #[(Value.int .i64 atv_), (Value.int .i64 (255 : Int))] hp_8 fun en_4 hp_9 =>
   ∃ x53_ : Int, en_4 = .returned (Value.int .i64 x53_) ∧
   Cv_1 hp_9 ∧
   ∃ x54_, IntKind.i64.wrap ((1 : Int) + x53_) = x54_ ∧
   ∃ x55_, IntKind.u8.wrap x54_ = x55_ ∧
   ∃ x56_, IntKind.u8.wrap (x51_ + x55_) = x56_ ∧
   ∃ b_3 o_1, x47p_ = some ⟨b_3, o_1, none⟩ ∧ 0 ≤ (0 : Int) ∧ (0 : Int) < (x47n_ : Int) ∧
   Value.oneCell' (Value.int .u8 x56_) = true ∧ wrAt hp_9 b_3 (o_1 + Int.toNat (0 : Int) * 1) 1 ∧ ∀ hp_10, hp_10 = setsH hp_9 b_3 (o_1 + Int.toNat (0 : Int) * 1) [(Value.int .u8 x56_)] →
   SemH Tryd.prog (convert 37 9 (Value.slice x47p_ x47n_ x47c_)) hp_10 fun v_1 hp_11 =>
   ∃ x60_ : ByteArray, v_1 = (Value.string x60_) ∧
   CallsH Tryd.prog 14 #[(Value.string x60_)] hp_11 fun en_5 hp_12 =>
   ∃ x61r0f0_ : Int, ∃ x61r0f1_ : Int, ∃ x61r0f2_ : Int, ∃ x61r0f3_ : ByteArray, ∃ x61r1_ : Int, ∃ x61r2_ : Int, en_5 = .returned (Value.tuple #[(Value.agg #[(Value.int .i64 x61r0f0_), (Value.int .u64 x61r0f1_), (Value.int .i64 x61r0f2_), (Value.string x61r0f3_)]), (Value.int .i64 x61r1_), (Value.int .i64 x61r2_)]) ∧
   ∀ b_4 hp_13, b_4 = Array.size hp_12 → hp_13 = Array.push hp_12 (.cells (zeros Tryd.prog 24) 24) → (∃ i z, Tryd.prog.info? 24 = some i ∧ i.zero = some z) ∧
   List.length [(Value.int .i64 x61r0f0_), (Value.int .u64 x61r0f1_), (Value.int .i64 x61r0f2_), (Value.string x61r0f3_)] = 4 ∧ (∀ c ∈ [(Value.int .i64 x61r0f0_), (Value.int .u64 x61r0f1_), (Value.int .i64 x61r0f2_), (Value.string x61r0f3_)], c.oneCell' = true) ∧ wrAt hp_13 b_4 0 4 ∧ ∀ hp_14, hp_14 = setsH hp_13 b_4 0 [(Value.int .i64 x61r0f0_), (Value.int .u64 x61r0f1_), (Value.int .i64 x61r0f2_), (Value.string x61r0f3_)] →
   SemH Tryd.prog (convert 9 37 (Value.string x32r0_)) hp_14 fun v_2 hp_15 =>
   ∃ (x66p_ : Option Addr) (x66n_ x66c_ : Nat), v_2 = (Value.slice x66p_ x66n_ x66c_) ∧
   ∃ Cv_2 : Hp → Prop, Cv_2 hp_15 ∧
   ∃ b_5 o_2, x66p_ = some ⟨b_5, o_2, none⟩ ∧ 0 ≤ (511 : Int) ∧ (511 : Int) < (x66n_ : Int) ∧
   ∃ x70_ : Int, (∀ h', Cv_2 h' → cellsAt h' b_5 (o_2 + Int.toNat (511 : Int) * 1) [(Value.int .u8 x70_)]) ∧
   CallsH Tryd.prog 17 #[(Value.int .i64 atv_), (Value.int .i64 (255 : Int))] hp_15 fun en_6 hp_16 =>
   ∃ x72_ : Int, en_6 = .returned (Value.int .i64 x72_) ∧
   Cv_2 hp_16 ∧
   ∃ x73_, IntKind.i64.wrap ((1 : Int) + x72_) = x73_ ∧
   ∃ x74_, IntKind.u8.wrap x73_ = x74_ ∧
   ∃ x75_, IntKind.u8.wrap (x70_ + x74_) = x75_ ∧
   ∃ b_6 o_3, x66p_ = some ⟨b_6, o_3, none⟩ ∧ 0 ≤ (511 : Int) ∧ (511 : Int) < (x66n_ : Int) ∧
   Value.oneCell' (Value.int .u8 x75_) = true ∧ wrAt hp_16 b_6 (o_3 + Int.toNat (511 : Int) * 1) 1 ∧ ∀ hp_17, hp_17 = setsH hp_16 b_6 (o_3 + Int.toNat (511 : Int) * 1) [(Value.int .u8 x75_)] →
   SemH Tryd.prog (convert 37 9 (Value.slice x66p_ x66n_ x66c_)) hp_17 fun v_3 hp_18 =>
   ∃ x79_ : ByteArray, v_3 = (Value.string x79_) ∧
   CallsH Tryd.prog 14 #[(Value.string x79_)] hp_18 fun en_7 hp_19 =>
   ∃ x80r0f0_ : Int, ∃ x80r0f1_ : Int, ∃ x80r0f2_ : Int, ∃ x80r0f3_ : ByteArray, ∃ x80r1_ : Int, ∃ x80r2_ : Int, en_7 = .returned (Value.tuple #[(Value.agg #[(Value.int .i64 x80r0f0_), (Value.int .u64 x80r0f1_), (Value.int .i64 x80r0f2_), (Value.string x80r0f3_)]), (Value.int .i64 x80r1_), (Value.int .i64 x80r2_)]) ∧
   ∀ b_7 hp_20, b_7 = Array.size hp_19 → hp_20 = Array.push hp_19 (.cells (zeros Tryd.prog 24) 24) → (∃ i z, Tryd.prog.info? 24 = some i ∧ i.zero = some z) ∧
   List.length [(Value.int .i64 x80r0f0_), (Value.int .u64 x80r0f1_), (Value.int .i64 x80r0f2_), (Value.string x80r0f3_)] = 4 ∧ (∀ c ∈ [(Value.int .i64 x80r0f0_), (Value.int .u64 x80r0f1_), (Value.int .i64 x80r0f2_), (Value.string x80r0f3_)], c.oneCell' = true) ∧ wrAt hp_20 b_7 0 4 ∧ ∀ hp_21, hp_21 = setsH hp_20 b_7 0 [(Value.int .i64 x80r0f0_), (Value.int .u64 x80r0f1_), (Value.int .i64 x80r0f2_), (Value.string x80r0f3_)] →
   ∃ Jv_1 : List Value → Hp → Prop,
   (∃ B_1 : Bool, ((((decide (x61r2_ ≠ (50 : Int))) = true →
       hp_21 = hp_21 ∧ B_1 = true) ∧
      ((decide (x61r2_ ≠ (50 : Int))) = false →
       hp_21 = hp_21 ∧ B_1 = (decide (x80r2_ ≠ (50 : Int)))))) ∧
    ((B_1 = true →
      R (.returned (Value.bool false)) hp_21) ∧
     (B_1 = false →
      Jv_1 [] hp_21))) ∧
   (∀  hp_22, Jv_1 [] hp_22 →
    ∃ Jv_2 : List Value → Hp → Prop,
    ((((decide (bits_ = (0 : Int))) = true →
       Jv_2 [(Value.int .u32 (1 : Int))] hp_22) ∧
      ((decide (bits_ = (0 : Int))) = false →
       Jv_2 [(Value.int .u32 bits_)] hp_22))) ∧
    (∀ (bits_1 : Int) hp_23, Jv_2 [(Value.int .u32 bits_1)] hp_23 →
     SemH Tryd.prog (convert 9 37 (Value.string x32r0_)) hp_23 fun v_4 hp_24 =>
     ∃ (x93p_ : Option Addr) (x93n_ x93c_ : Nat), v_4 = (Value.slice x93p_ x93n_ x93c_) ∧
     CallsH Tryd.prog 17 #[(Value.int .i64 atv_), (Value.int .i64 (4049 : Int))] hp_24 fun en_8 hp_25 =>
     ∃ x95_ : Int, en_8 = .returned (Value.int .i64 x95_) ∧
     ∃ x96_, IntKind.i64.wrap ((8 : Int) + x95_) = x96_ ∧
     ∃ (Iv_ : List Value → Hp → Prop) (m_ : List Value → Hp → Nat), Iv_ [(Value.int .i64 (0 : Int))] hp_25 ∧
     (∀ (i_ : Int) hp_26, Iv_ [(Value.int .i64 i_)] hp_26 →
      (((decide (i_ < (32 : Int))) = true →
        ∃ x103_, IntKind.i64.wrap ((31 : Int) - i_) = x103_ ∧
        0 ≤ x103_ ∧ ∃ x104_, shrI .u32 bits_1 x103_ = x104_ ∧
        (2 : Int) ≠ 0 ∧ ∃ x105_, Int.tmod x104_ (2 : Int) = x105_ ∧
        (((decide (x105_ = (1 : Int))) = true →
          ∃ x110_, IntKind.i64.wrap (x96_ + i_) = x110_ ∧
          (8 : Int) ≠ 0 ∧ ∃ x111_, IntKind.i64.wrap (Int.tdiv x110_ (8 : Int)) = x111_ ∧
          ∃ x115_, IntKind.i64.wrap (x96_ + i_) = x115_ ∧
          (8 : Int) ≠ 0 ∧ ∃ x116_, IntKind.i64.wrap (Int.tdiv x115_ (8 : Int)) = x116_ ∧
          ∃ b_8 o_4, x93p_ = some ⟨b_8, o_4, none⟩ ∧ 0 ≤ x116_ ∧ x116_ < (x93n_ : Int) ∧
          ∃ x118_ : Int, cellsAt hp_26 b_8 (o_4 + Int.toNat x116_ * 1) [(Value.int .u8 x118_)] ∧
          ∃ x121_, IntKind.i64.wrap (x96_ + i_) = x121_ ∧
          (8 : Int) ≠ 0 ∧ ∃ x122_, Int.tmod x121_ (8 : Int) = x122_ ∧
          0 ≤ x122_ ∧ ∃ x123_, shlI .u8 (1 : Int) x122_ = x123_ ∧
          ∃ x124_, xorI .u8 x118_ x123_ = x124_ ∧
          ∃ b_9 o_5, x93p_ = some ⟨b_9, o_5, none⟩ ∧ 0 ≤ x111_ ∧ x111_ < (x93n_ : Int) ∧
          Value.oneCell' (Value.int .u8 x124_) = true ∧ wrAt hp_26 b_9 (o_5 + Int.toNat x111_ * 1) 1 ∧ ∀ hp_27, hp_27 = setsH hp_26 b_9 (o_5 + Int.toNat x111_ * 1) [(Value.int .u8 x124_)] →
          ∃ x100_, IntKind.i64.wrap (i_ + (1 : Int)) = x100_ ∧
          (Iv_ [(Value.int .i64 x100_)] hp_27 ∧ m_ [(Value.int .i64 x100_)] hp_27 < m_ [(Value.int .i64 i_)] hp_26)) ∧
         ((decide (x105_ = (1 : Int))) = false →
          ∃ x100_1, IntKind.i64.wrap (i_ + (1 : Int)) = x100_1 ∧
          (Iv_ [(Value.int .i64 x100_1)] hp_26 ∧ m_ [(Value.int .i64 x100_1)] hp_26 < m_ [(Value.int .i64 i_)] hp_26)))) ∧
       ((decide (i_ < (32 : Int))) = false →
        SemH Tryd.prog (convert 37 9 (Value.slice x93p_ x93n_ x93c_)) hp_26 fun v_5 hp_28 =>
        ∃ x128_ : ByteArray, v_5 = (Value.string x128_) ∧
        CallsH Tryd.prog 14 #[(Value.string x128_)] hp_28 fun en_9 hp_29 =>
        ∃ x129r0f0_ : Int, ∃ x129r0f1_ : Int, ∃ x129r0f2_ : Int, ∃ x129r0f3_ : ByteArray, ∃ x129r1_ : Int, ∃ x129r2_ : Int, en_9 = .returned (Value.tuple #[(Value.agg #[(Value.int .i64 x129r0f0_), (Value.int .u64 x129r0f1_), (Value.int .i64 x129r0f2_), (Value.string x129r0f3_)]), (Value.int .i64 x129r1_), (Value.int .i64 x129r2_)]) ∧
        ∀ b_10 hp_30, b_10 = Array.size hp_29 → hp_30 = Array.push hp_29 (.cells (zeros Tryd.prog 24) 24) → (∃ i z, Tryd.prog.info? 24 = some i ∧ i.zero = some z) ∧
        List.length [(Value.int .i64 x129r0f0_), (Value.int .u64 x129r0f1_), (Value.int .i64 x129r0f2_), (Value.string x129r0f3_)] = 4 ∧ (∀ c ∈ [(Value.int .i64 x129r0f0_), (Value.int .u64 x129r0f1_), (Value.int .i64 x129r0f2_), (Value.string x129r0f3_)], c.oneCell' = true) ∧ wrAt hp_30 b_10 0 4 ∧ ∀ hp_31, hp_31 = setsH hp_30 b_10 0 [(Value.int .i64 x129r0f0_), (Value.int .u64 x129r0f1_), (Value.int .i64 x129r0f2_), (Value.string x129r0f3_)] →
        ∃ B_2 : Bool, ((((decide (x129r2_ = (51 : Int))) = true →
           ∃ x136f0_ : Int, ∃ x136f1_ : Int, ∃ x136f2_ : Int, ∃ x136f3_ : ByteArray, cellsAt hp_31 b_10 0 [(Value.int .i64 x136f0_), (Value.int .u64 x136f1_), (Value.int .i64 x136f2_), (Value.string x136f3_)] ∧
           ∃ x138_, EqV Tryd.prog 24 (Value.agg #[(Value.int .i64 x136f0_), (Value.int .u64 x136f1_), (Value.int .i64 x136f2_), (Value.string x136f3_)]) (Value.agg #[(Value.int .i64 (0 : Int)), (Value.int .u64 (0 : Int)), (Value.int .i64 (0 : Int)), (Value.string (⟨#[]⟩ : ByteArray))]) x138_ ∧
           ((x138_ = true →
             hp_31 = hp_31 ∧ B_2 = (decide (x129r1_ = (0 : Int)))) ∧
            (x138_ = false →
             hp_31 = hp_31 ∧ B_2 = false))) ∧
          ((decide (x129r2_ = (51 : Int))) = false →
           hp_31 = hp_31 ∧ B_2 = false))) ∧
        R (.returned (Value.bool B_2)) hp_31))))))) :
  CallsH Tryd.prog 7 #[(Value.agg #[(Value.int .i64 rawf0_), (Value.int .u64 rawf1_), (Value.int .i64 rawf2_), (Value.string rawf3_)]), (Value.int .i64 mark_), (Value.int .i64 atv_), (Value.int .u32 bits_)] h R := calls_vc fine false Tryd.func7 (ann := A7) (args := [(Value.agg #[(Value.int .i64 rawf0_), (Value.int .u64 rawf1_), (Value.int .i64 rawf2_), (Value.string rawf3_)]), (Value.int .i64 mark_), (Value.int .i64 atv_), (Value.int .u32 bits_)]) (by kernel_rfl) (Eq.mpr (by kernel_rfl) H)
/-- turnout/turnoutlaw05.FrameNil -/
def A8 : Ann := (.seq .nil (.seq .nil (.seq .nil (.seq .nil (.seq (.join 4) .nil)))))
theorem V8 (atv_ : Int) (rawf0_ : Int) (rawf1_ : Int) (rawf2_ : Int) (rawf3_ : ByteArray) (h : Hp) (R : Ending → Hp → Prop) (H :
  ∀ b_ hp_, b_ = Array.size h → hp_ = Array.push h (.cells #[(Value.int .i64 rawf0_), (Value.int .u64 rawf1_), (Value.int .i64 rawf2_), (Value.string rawf3_)] 24) →
  CallsH Tryd.prog 11 #[] hp_ fun en_ hp_1 =>
  ∃ x9_ : Bool, en_ = .returned (Value.bool x9_) ∧
  ∃ x11f0_ : Int, ∃ x11f1_ : Int, ∃ x11f2_ : Int, ∃ x11f3_ : ByteArray, cellsAt hp_1 b_ 0 [(Value.int .i64 x11f0_), (Value.int .u64 x11f1_), (Value.int .i64 x11f2_), (Value.string x11f3_)] ∧
  CallsH Tryd.prog 16 #[(Value.agg #[(Value.int .i64 x11f0_), (Value.int .u64 x11f1_), (Value.int .i64 x11f2_), (Value.string x11f3_)])] hp_1 fun en_1 hp_2 =>
  ∃ x12f0_ : Int, ∃ x12f1_ : Int, ∃ x12f2_ : Int, ∃ x12f3_ : ByteArray, en_1 = .returned (Value.agg #[(Value.int .i64 x12f0_), (Value.int .u64 x12f1_), (Value.int .i64 x12f2_), (Value.string x12f3_)]) ∧
  CallsH Tryd.prog 18 #[(Value.pointer none), (Value.int .i64 atv_), (Value.agg #[(Value.int .i64 x12f0_), (Value.int .u64 x12f1_), (Value.int .i64 x12f2_), (Value.string x12f3_)])] hp_2 fun en_2 hp_3 =>
  ∃ x13_ : Int, en_2 = .returned (Value.int .i64 x13_) ∧
  CallsH Tryd.prog 19 #[(Value.pointer none), (Value.int .i64 atv_)] hp_3 fun en_3 hp_4 =>
  ∃ x16r0f0_ : Int, ∃ x16r0f1_ : Int, ∃ x16r0f2_ : Int, ∃ x16r0f3_ : ByteArray, ∃ x16r1_ : Int, en_3 = .returned (Value.tuple #[(Value.agg #[(Value.int .i64 x16r0f0_), (Value.int .u64 x16r0f1_), (Value.int .i64 x16r0f2_), (Value.string x16r0f3_)]), (Value.int .i64 x16r1_)]) ∧
  ∀ b_1 hp_5, b_1 = Array.size hp_4 → hp_5 = Array.push hp_4 (.cells (zeros Tryd.prog 24) 24) → (∃ i z, Tryd.prog.info? 24 = some i ∧ i.zero = some z) ∧
  List.length [(Value.int .i64 x16r0f0_), (Value.int .u64 x16r0f1_), (Value.int .i64 x16r0f2_), (Value.string x16r0f3_)] = 4 ∧ (∀ c ∈ [(Value.int .i64 x16r0f0_), (Value.int .u64 x16r0f1_), (Value.int .i64 x16r0f2_), (Value.string x16r0f3_)], c.oneCell' = true) ∧ wrAt hp_5 b_1 0 4 ∧ ∀ hp_6, hp_6 = setsH hp_5 b_1 0 [(Value.int .i64 x16r0f0_), (Value.int .u64 x16r0f1_), (Value.int .i64 x16r0f2_), (Value.string x16r0f3_)] →
  ∃ B_ : Bool, (((x9_ = true →
     (((decide (x13_ = (1 : Int))) = true →
       (((decide (x16r1_ = (1 : Int))) = true →
         ∃ x29f0_ : Int, ∃ x29f1_ : Int, ∃ x29f2_ : Int, ∃ x29f3_ : ByteArray, cellsAt hp_6 b_1 0 [(Value.int .i64 x29f0_), (Value.int .u64 x29f1_), (Value.int .i64 x29f2_), (Value.string x29f3_)] ∧
         ∃ x31_, EqV Tryd.prog 24 (Value.agg #[(Value.int .i64 x29f0_), (Value.int .u64 x29f1_), (Value.int .i64 x29f2_), (Value.string x29f3_)]) (Value.agg #[(Value.int .i64 (0 : Int)), (Value.int .u64 (0 : Int)), (Value.int .i64 (0 : Int)), (Value.string (⟨#[]⟩ : ByteArray))]) x31_ ∧
         hp_6 = hp_6 ∧ B_ = x31_) ∧
        ((decide (x16r1_ = (1 : Int))) = false →
         hp_6 = hp_6 ∧ B_ = false))) ∧
      ((decide (x13_ = (1 : Int))) = false →
       hp_6 = hp_6 ∧ B_ = false))) ∧
    (x9_ = false →
     hp_6 = hp_6 ∧ B_ = false))) ∧
  R (.returned (Value.bool B_)) hp_6) :
  CallsH Tryd.prog 8 #[(Value.int .i64 atv_), (Value.agg #[(Value.int .i64 rawf0_), (Value.int .u64 rawf1_), (Value.int .i64 rawf2_), (Value.string rawf3_)])] h R := calls_vc fine false Tryd.func8 (ann := A8) (args := [(Value.int .i64 atv_), (Value.agg #[(Value.int .i64 rawf0_), (Value.int .u64 rawf1_), (Value.int .i64 rawf2_), (Value.string rawf3_)])]) (by kernel_rfl) (Eq.mpr (by kernel_rfl) H)
/-- turnout/turnoutlaw05.FrameWhole -/
def A9 : Ann := (.seq .nil (.seq .nil (.seq .nil (.seq .nil (.seq .nil (.cut (.seq (.join 38) (.cond (.seq .nil .nil) .nil)) [] (.seq .nil (.seq .nil (.seq (.join 10) .nil)))))))))
theorem V9 (first_ : ByteArray) (lp_ : Option Addr) (ln_ lc_ : Nat) (fatesp_ : Option Addr) (fatesn_ fatesc_ : Nat) (againp_ : Option Addr) (againn_ againc_ : Nat) (morep_ : Option Addr) (moren_ morec_ : Nat) (h : Hp) (R : Ending → Hp → Prop) (H :
  CallsH Tryd.prog 11 #[] h fun en_ hp_ =>
  ∃ x17_ : Bool, en_ = .returned (Value.bool x17_) ∧
  SemH Tryd.prog (Instr.makeSlice 37 (Value.int .i64 (1024 : Int)) (Value.int .i64 (1024 : Int))) hp_ fun v_ hp_1 =>
  ∃ (x18p_ : Option Addr) (x18n_ x18c_ : Nat), v_ = (Value.slice x18p_ x18n_ x18c_) ∧
  ∃ l_ : Nat, (512 : Int) = (l_ : Int) ∧
  l_ ≤ x18n_ ∧ x18n_ ≤ x18c_ ∧ ∃ x20p_, cutP x18p_ x18c_ l_ 1 = x20p_ ∧
  SemH Tryd.prog (Builtin.copy_ #[37, 9] 3 #[(Value.slice x20p_ (x18n_ - l_) (x18c_ - l_)), (Value.string first_)]) hp_1 fun v_1 hp_2 =>
  ∃ x22_ : Int, v_1 = (Value.int .i64 x22_) ∧
  SemH Tryd.prog (convert 37 9 (Value.slice x18p_ x18n_ x18c_)) hp_2 fun v_2 hp_3 =>
  ∃ x25_ : ByteArray, v_2 = (Value.string x25_) ∧
  CallsH Tryd.prog 20 #[(Value.string x25_)] hp_3 fun en_1 hp_4 =>
  ∃ x26r0_ : Option Addr, ∃ x26r1_ : Int, en_1 = .returned (Value.tuple #[(Value.pointer x26r0_), (Value.int .i64 x26r1_)]) ∧
  ∃ Jv_ : List Value → Hp → Prop,
  (∃ B_ : Bool, ((((!x17_) = true →
      hp_4 = hp_4 ∧ B_ = true) ∧
     ((!x17_) = false →
      (((decide (x26r1_ ≠ (0 : Int))) = true →
        hp_4 = hp_4 ∧ B_ = true) ∧
       ((decide (x26r1_ ≠ (0 : Int))) = false →
        ∃ x37_, EqV Tryd.prog 45 (Value.pointer x26r0_) (Value.pointer none) x37_ ∧
        hp_4 = hp_4 ∧ B_ = x37_))))) ∧
   ((B_ = true →
     R (.returned (Value.bool false)) hp_4) ∧
    (B_ = false →
     Jv_ [] hp_4))) ∧
  (∀  hp_5, Jv_ [] hp_5 →
   CallsH Tryd.prog 21 #[(Value.pointer x26r0_), (Value.slice lp_ ln_ lc_), (Value.slice fatesp_ fatesn_ fatesc_)] hp_5 fun en_2 hp_6 =>
   ∃ x42_ : Bool, en_2 = .returned (Value.bool x42_) ∧
   CallsH Tryd.prog 21 #[(Value.pointer x26r0_), (Value.slice againp_ againn_ againc_), (Value.slice morep_ moren_ morec_)] hp_6 fun en_3 hp_7 =>
   ∃ x46_ : Bool, en_3 = .returned (Value.bool x46_) ∧
   ∃ B_1 : Bool, (((x42_ = true →
      hp_7 = hp_7 ∧ B_1 = x46_) ∧
     (x42_ = false →
      hp_7 = hp_7 ∧ B_1 = false))) ∧
   R (.returned (Value.bool B_1)) hp_7)) :
  CallsH Tryd.prog 9 #[(Value.string first_), (Value.slice lp_ ln_ lc_), (Value.slice fatesp_ fatesn_ fatesc_), (Value.slice againp_ againn_ againc_), (Value.slice morep_ moren_ morec_)] h R := calls_vc fine false Tryd.func9 (ann := A9) (args := [(Value.string first_), (Value.slice lp_ ln_ lc_), (Value.slice fatesp_ fatesn_ fatesc_), (Value.slice againp_ againn_ againc_), (Value.slice morep_ moren_ morec_)]) (by kernel_rfl) (Eq.mpr (by kernel_rfl) H)
/-- turnout/turnoutlaw05.FrameKeeps -/
def A10 : Ann := (.seq .nil (.seq .nil (.seq .nil (.cut (.seq .nil (.cond .nil .nil)) [(6, (.int .i64))] (.seq .nil (.cut (.seq (.join 39) (.cond (.seq .nil .nil) .nil)) [] (.cut (.seq .nil (.block (.loop [(9, (.int .i64))] (.cut (.seq (.join 48) (.cond .nil .nil)) [] (.seq (.block (.seq .nil (.seq .nil (.cond (.seq .nil .nil) .nil)))) .nil))))) [] (.seq .nil (.cut (.seq .nil (.block (.loop [(12, (.int .i64))] (.cut (.seq (.join 70) (.cond .nil .nil)) [] (.seq (.block (.seq .nil (.seq .nil (.cond (.seq .nil .nil) .nil)))) .nil))))) [] (.seq .nil (.cut (.seq .nil (.block (.loop [(14, (.int .i64))] (.cut (.seq (.join 95) (.cond .nil .nil)) [] (.seq (.block (.seq .nil (.seq (.drawLast [3]) (.cond (.seq .nil .nil) .nil)))) .nil))))) [] (.seq .nil (.seq (.join 4) .nil)))))))))))))
theorem V10 (rawp_ : Option Addr) (rawn_ rawc_ : Nat) (overp_ : Option Addr) (overn_ overc_ : Nat) (h : Hp) (R : Ending → Hp → Prop) (H :
  CallsH Tryd.prog 11 #[] h fun en_ hp_ =>
  ∃ x19_ : Bool, en_ = .returned (Value.bool x19_) ∧
  ∃ x22_, IntKind.i64.wrap ((1 : Int) + ((rawn_ : Nat) : Int)) = x22_ ∧
  ∃ Jv_ : List Value → Hp → Prop,
  ((((decide ((40 : Int) < x22_)) = true →
     Jv_ [(Value.int .i64 (40 : Int))] hp_) ∧
    ((decide ((40 : Int) < x22_)) = false →
     Jv_ [(Value.int .i64 x22_)] hp_))) ∧
  (∀ (n_ : Int) hp_1, Jv_ [(Value.int .i64 n_)] hp_1 →
   CallsH Tryd.prog 22 #[(Value.int .i64 n_)] hp_1 fun en_1 hp_2 =>
   ∃ x27r0_ : Option Addr, ∃ x27r1_ : Int, en_1 = .returned (Value.tuple #[(Value.pointer x27r0_), (Value.int .i64 x27r1_)]) ∧
   ∃ Jv_1 : List Value → Hp → Prop,
   (∃ B_ : Bool, ((((!x19_) = true →
       hp_2 = hp_2 ∧ B_ = true) ∧
      ((!x19_) = false →
       (((decide (x27r1_ ≠ (0 : Int))) = true →
         hp_2 = hp_2 ∧ B_ = true) ∧
        ((decide (x27r1_ ≠ (0 : Int))) = false →
         ∃ x38_, EqV Tryd.prog 45 (Value.pointer x27r0_) (Value.pointer none) x38_ ∧
         hp_2 = hp_2 ∧ B_ = x38_))))) ∧
    ((B_ = true →
      R (.returned (Value.bool false)) hp_2) ∧
     (B_ = false →
      Jv_1 [] hp_2))) ∧
   (∀  hp_3, Jv_1 [] hp_3 →
    ∃ Jv_2 : List Value → Hp → Prop,
    (∃ (Iv_ : List Value → Hp → Prop) (m_ : List Value → Hp → Nat), Iv_ [(Value.int .i64 (0 : Int))] hp_3 ∧
     (∀ (i_ : Int) hp_4, Iv_ [(Value.int .i64 i_)] hp_4 →
      ∃ Jv_3 : List Value → Hp → Prop,
      (∃ B_1 : Bool, ((((decide (i_ < n_)) = true →
          hp_4 = hp_4 ∧ B_1 = (decide (i_ < ((rawn_ : Nat) : Int)))) ∧
         ((decide (i_ < n_)) = false →
          hp_4 = hp_4 ∧ B_1 = false))) ∧
       ((B_1 = true →
         Jv_3 [] hp_4) ∧
        (B_1 = false →
         Jv_2 [] hp_4))) ∧
      (∀  hp_5, Jv_3 [] hp_5 →
       ∃ b_ o_, rawp_ = some ⟨b_, o_, none⟩ ∧ 0 ≤ i_ ∧ i_ < (rawn_ : Int) ∧
       ∃ x56f0_ : Int, ∃ x56f1_ : Int, ∃ x56f2_ : Int, ∃ x56f3_ : ByteArray, cellsAt hp_5 b_ (o_ + Int.toNat i_ * 4) [(Value.int .i64 x56f0_), (Value.int .u64 x56f1_), (Value.int .i64 x56f2_), (Value.string x56f3_)] ∧
       CallsH Tryd.prog 16 #[(Value.agg #[(Value.int .i64 x56f0_), (Value.int .u64 x56f1_), (Value.int .i64 x56f2_), (Value.string x56f3_)])] hp_5 fun en_2 hp_6 =>
       ∃ x57f0_ : Int, ∃ x57f1_ : Int, ∃ x57f2_ : Int, ∃ x57f3_ : ByteArray, en_2 = .returned (Value.agg #[(Value.int .i64 x57f0_), (Value.int .u64 x57f1_), (Value.int .i64 x57f2_), (Value.string x57f3_)]) ∧
       CallsH Tryd.prog 18 #[(Value.pointer x27r0_), (Value.int .i64 i_), (Value.agg #[(Value.int .i64 x57f0_), (Value.int .u64 x57f1_), (Value.int .i64 x57f2_), (Value.string x57f3_)])] hp_6 fun en_3 hp_7 =>
       ∃ x58_ : Int, en_3 = .returned (Value.int .i64 x58_) ∧
       (((decide (x58_ ≠ (0 : Int))) = true →
         R (.returned (Value.bool false)) hp_7) ∧
        ((decide (x58_ ≠ (0 : Int))) = false →
         ∃ x50_, IntKind.i64.wrap (i_ + (1 : Int)) = x50_ ∧
         (Iv_ [(Value.int .i64 x50_)] hp_7 ∧ m_ [(Value.int .i64 x50_)] hp_7 < m_ [(Value.int .i64 i_)] hp_4)))))) ∧
    (∀  hp_8, Jv_2 [] hp_8 →
     CallsH Tryd.prog 23 #[(Value.pointer x27r0_)] hp_8 fun en_4 hp_9 =>
     ∃ x62_ : Int, en_4 = .returned (Value.int .i64 x62_) ∧
     ∃ Jv_4 : List Value → Hp → Prop,
     (∃ (Iv_1 : List Value → Hp → Prop) (m_1 : List Value → Hp → Nat), Iv_1 [(Value.int .i64 (0 : Int))] hp_9 ∧
      (∀ (i_1 : Int) hp_10, Iv_1 [(Value.int .i64 i_1)] hp_10 →
       ∃ Jv_5 : List Value → Hp → Prop,
       (∃ B_2 : Bool, ((((decide (i_1 < ((overn_ : Nat) : Int))) = true →
           hp_10 = hp_10 ∧ B_2 = (decide (i_1 < (255 : Int)))) ∧
          ((decide (i_1 < ((overn_ : Nat) : Int))) = false →
           hp_10 = hp_10 ∧ B_2 = false))) ∧
        ((B_2 = true →
          Jv_5 [] hp_10) ∧
         (B_2 = false →
          Jv_4 [] hp_10))) ∧
       (∀  hp_11, Jv_5 [] hp_11 →
        n_ ≠ 0 ∧ ∃ x76_, Int.tmod i_1 n_ = x76_ ∧
        ∃ b_1 o_1, overp_ = some ⟨b_1, o_1, none⟩ ∧ 0 ≤ i_1 ∧ i_1 < (overn_ : Int) ∧
        ∃ x80f0_ : Int, ∃ x80f1_ : Int, ∃ x80f2_ : Int, ∃ x80f3_ : ByteArray, cellsAt hp_11 b_1 (o_1 + Int.toNat i_1 * 4) [(Value.int .i64 x80f0_), (Value.int .u64 x80f1_), (Value.int .i64 x80f2_), (Value.string x80f3_)] ∧
        CallsH Tryd.prog 16 #[(Value.agg #[(Value.int .i64 x80f0_), (Value.int .u64 x80f1_), (Value.int .i64 x80f2_), (Value.string x80f3_)])] hp_11 fun en_5 hp_12 =>
        ∃ x81f0_ : Int, ∃ x81f1_ : Int, ∃ x81f2_ : Int, ∃ x81f3_ : ByteArray, en_5 = .returned (Value.agg #[(Value.int .i64 x81f0_), (Value.int .u64 x81f1_), (Value.int .i64 x81f2_), (Value.string x81f3_)]) ∧
        CallsH Tryd.prog 18 #[(Value.pointer x27r0_), (Value.int .i64 x76_), (Value.agg #[(Value.int .i64 x81f0_), (Value.int .u64 x81f1_), (Value.int .i64 x81f2_), (Value.string x81f3_)])] hp_12 fun en_6 hp_13 =>
        ∃ x82_ : Int, en_6 = .returned (Value.int .i64 x82_) ∧
        (((decide (x82_ ≠ (0 : Int))) = true →
          R (.returned (Value.bool false)) hp_13) ∧
         ((decide (x82_ ≠ (0 : Int))) = false →
          ∃ x72_, IntKind.i64.wrap (i_1 + (1 : Int)) = x72_ ∧
          (Iv_1 [(Value.int .i64 x72_)] hp_13 ∧ m_1 [(Value.int .i64 x72_)] hp_13 < m_1 [(Value.int .i64 i_1)] hp_10)))))) ∧
     (∀  hp_14, Jv_4 [] hp_14 →
      CallsH Tryd.prog 24 #[(Value.pointer x27r0_), (Value.slice none 0 0)] hp_14 fun en_7 hp_15 =>
      en_7 = .returned (Value.tuple #[]) ∧
      ∃ Jv_6 : List Value → Hp → Prop,
      (∃ (Iv_2 : List Value → Hp → Prop) (m_2 : List Value → Hp → Nat), Iv_2 [(Value.int .i64 (0 : Int))] hp_15 ∧
       (∀ (i_2 : Int) hp_16, Iv_2 [(Value.int .i64 i_2)] hp_16 →
        ∃ Jv_7 : List Value → Hp → Prop,
        (∃ B_3 : Bool, ((((decide (i_2 < n_)) = true →
            hp_16 = hp_16 ∧ B_3 = (decide (i_2 < ((rawn_ : Nat) : Int)))) ∧
           ((decide (i_2 < n_)) = false →
            hp_16 = hp_16 ∧ B_3 = false))) ∧
         ((B_3 = true →
           Jv_7 [] hp_16) ∧
          (B_3 = false →
           Jv_6 [] hp_16))) ∧
        (∀  hp_17, Jv_7 [] hp_17 →
         CallsH Tryd.prog 19 #[(Value.pointer x27r0_), (Value.int .i64 i_2)] hp_17 fun en_8 hp_18 =>
         ∃ x101r0f0_ : Int, ∃ x101r0f1_ : Int, ∃ x101r0f2_ : Int, ∃ x101r0f3_ : ByteArray, ∃ x101r1_ : Int, en_8 = .returned (Value.tuple #[(Value.agg #[(Value.int .i64 x101r0f0_), (Value.int .u64 x101r0f1_), (Value.int .i64 x101r0f2_), (Value.string x101r0f3_)]), (Value.int .i64 x101r1_)]) ∧
         ∀ b_2 hp_19, b_2 = Array.size hp_18 → hp_19 = Array.push hp_18 (.cells (zeros Tryd.prog 24) 24) → (∃ i z, Tryd.prog.info? 24 = some i ∧ i.zero = some z) ∧
         List.length [(Value.int .i64 x101r0f0_), (Value.int .u64 x101r0f1_), (Value.int .i64 x101r0f2_), (Value.string x101r0f3_)] = 4 ∧ (∀ c ∈ [(Value.int .i64 x101r0f0_), (Value.int .u64 x101r0f1_), (Value.int .i64 x101r0f2_), (Value.string x101r0f3_)], c.oneCell' = true) ∧ wrAt hp_19 b_2 0 4 ∧ ∀ hp_20, hp_20 = setsH hp_19 b_2 0 [(Value.int .i64 x101r0f0_), (Value.int .u64 x101r0f1_), (Value.int .i64 x101r0f2_), (Value.string x101r0f3_)] →
         ∃ Cv_ : Hp → Prop, Cv_ hp_20 ∧
         (((decide (x101r1_ ≠ (0 : Int))) = true →
           R (.returned (Value.bool false)) hp_20) ∧
          ((decide (x101r1_ ≠ (0 : Int))) = false →
           ∃ x107f0_ : Int, ∃ x107f1_ : Int, ∃ x107f2_ : Int, ∃ x107f3_ : ByteArray, (∀ h', Cv_ h' → cellsAt h' b_2 0 [(Value.int .i64 x107f0_), (Value.int .u64 x107f1_), (Value.int .i64 x107f2_), (Value.string x107f3_)]) ∧
           ∃ b_3 o_2, rawp_ = some ⟨b_3, o_2, none⟩ ∧ 0 ≤ i_2 ∧ i_2 < (rawn_ : Int) ∧
           ∃ x111f0_ : Int, ∃ x111f1_ : Int, ∃ x111f2_ : Int, ∃ x111f3_ : ByteArray, cellsAt hp_20 b_3 (o_2 + Int.toNat i_2 * 4) [(Value.int .i64 x111f0_), (Value.int .u64 x111f1_), (Value.int .i64 x111f2_), (Value.string x111f3_)] ∧
           CallsH Tryd.prog 16 #[(Value.agg #[(Value.int .i64 x111f0_), (Value.int .u64 x111f1_), (Value.int .i64 x111f2_), (Value.string x111f3_)])] hp_20 fun en_9 hp_21 =>
           ∃ x112f0_ : Int, ∃ x112f1_ : Int, ∃ x112f2_ : Int, ∃ x112f3_ : ByteArray, en_9 = .returned (Value.agg #[(Value.int .i64 x112f0_), (Value.int .u64 x112f1_), (Value.int .i64 x112f2_), (Value.string x112f3_)]) ∧
           Cv_ hp_21 ∧
           ∃ x113_, EqV Tryd.prog 24 (Value.agg #[(Value.int .i64 x107f0_), (Value.int .u64 x107f1_), (Value.int .i64 x107f2_), (Value.string x107f3_)]) (Value.agg #[(Value.int .i64 x112f0_), (Value.int .u64 x112f1_), (Value.int .i64 x112f2_), (Value.string x112f3_)]) x113_ ∧
           (((!x113_) = true →
             R (.returned (Value.bool false)) hp_21) ∧
            ((!x113_) = false →
             ∃ x97_, IntKind.i64.wrap (i_2 + (1 : Int)) = x97_ ∧
             (Iv_2 [(Value.int .i64 x97_)] hp_21 ∧ m_2 [(Value.int .i64 x97_)] hp_21 < m_2 [(Value.int .i64 i_2)] hp_16)))))))) ∧
      (∀  hp_22, Jv_6 [] hp_22 →
       CallsH Tryd.prog 19 #[(Value.pointer x27r0_), (Value.int .i64 n_)] hp_22 fun en_10 hp_23 =>
       ∃ x118r0f0_ : Int, ∃ x118r0f1_ : Int, ∃ x118r0f2_ : Int, ∃ x118r0f3_ : ByteArray, ∃ x118r1_ : Int, en_10 = .returned (Value.tuple #[(Value.agg #[(Value.int .i64 x118r0f0_), (Value.int .u64 x118r0f1_), (Value.int .i64 x118r0f2_), (Value.string x118r0f3_)]), (Value.int .i64 x118r1_)]) ∧
       ∀ b_4 hp_24, b_4 = Array.size hp_23 → hp_24 = Array.push hp_23 (.cells (zeros Tryd.prog 24) 24) → (∃ i z, Tryd.prog.info? 24 = some i ∧ i.zero = some z) ∧
       List.length [(Value.int .i64 x118r0f0_), (Value.int .u64 x118r0f1_), (Value.int .i64 x118r0f2_), (Value.string x118r0f3_)] = 4 ∧ (∀ c ∈ [(Value.int .i64 x118r0f0_), (Value.int .u64 x118r0f1_), (Value.int .i64 x118r0f2_), (Value.string x118r0f3_)], c.oneCell' = true) ∧ wrAt hp_24 b_4 0 4 ∧ ∀ hp_25, hp_25 = setsH hp_24 b_4 0 [(Value.int .i64 x118r0f0_), (Value.int .u64 x118r0f1_), (Value.int .i64 x118r0f2_), (Value.string x118r0f3_)] →
       ∃ B_4 : Bool, ((((decide (x62_ = (0 : Int))) = true →
          hp_25 = hp_25 ∧ B_4 = (decide (x118r1_ = (41 : Int)))) ∧
         ((decide (x62_ = (0 : Int))) = false →
          hp_25 = hp_25 ∧ B_4 = false))) ∧
       R (.returned (Value.bool B_4)) hp_25)))))) :
  CallsH Tryd.prog 10 #[(Value.slice rawp_ rawn_ rawc_), (Value.slice overp_ overn_ overc_)] h R := calls_vc fine false Tryd.func10 (ann := A10) (args := [(Value.slice rawp_ rawn_ rawc_), (Value.slice overp_ overn_ overc_)]) (by kernel_rfl) (Eq.mpr (by kernel_rfl) H)
/-- turnout/turnoutlaw05.awake -/
def A11 : Ann := (.seq .nil (.seq .nil (.cut (.seq (.join 33) (.cond (.seq .nil .nil) .nil)) [] (.seq .nil (.seq .nil (.cut (.seq (.join 49) (.cond (.seq .nil .nil) .nil)) [] (.seq .nil (.seq .nil (.seq .nil (.seq .nil (.seq (.join 0) .nil)))))))))))
theorem V11  (h : Hp) (R : Ending → Hp → Prop) (H :
  CallsH Tryd.prog 12 #[(Value.agg #[(Value.int .i64 (1 : Int)), (Value.int .u64 (2 : Int)), (Value.int .i64 (3 : Int)), (Value.string (⟨#[97, 98]⟩ : ByteArray))]), (Value.int .i64 (7 : Int))] h fun en_ hp_ =>
  ∃ x14r0_ : ByteArray, ∃ x14r1_ : Int, en_ = .returned (Value.tuple #[(Value.string x14r0_), (Value.int .i64 x14r1_)]) ∧
  ∃ Jv_ : List Value → Hp → Prop,
  (∃ B_ : Bool, ((((decide (x14r1_ ≠ (0 : Int))) = true →
      hp_ = hp_ ∧ B_ = true) ∧
     ((decide (x14r1_ ≠ (0 : Int))) = false →
      (((decide ((ByteArray.size x14r0_ : Int) ≠ (512 : Int))) = true →
        hp_ = hp_ ∧ B_ = true) ∧
       ((decide ((ByteArray.size x14r0_ : Int) ≠ (512 : Int))) = false →
        ∃ u_ : Nat, (18 : Int) = (u_ : Int) ∧
        0 ≤ u_ ∧ u_ ≤ ByteArray.size x14r0_ ∧ ∃ x26_, ByteArray.extract x14r0_ 0 u_ = x26_ ∧
        (((decide (x26_ ≠ (⟨#[7, 1, 0, 0, 0, 0, 0, 0, 0, 2, 0, 0, 0, 3, 0, 2, 97, 98]⟩ : ByteArray))) = true →
          hp_ = hp_ ∧ B_ = true) ∧
         ((decide (x26_ ≠ (⟨#[7, 1, 0, 0, 0, 0, 0, 0, 0, 2, 0, 0, 0, 3, 0, 2, 97, 98]⟩ : ByteArray))) = false →
          0 ≤ (511 : Int) ∧ ∃ x31_ : UInt8, x14r0_[Int.toNat (511 : Int)]? = some x31_ ∧
          hp_ = hp_ ∧ B_ = (decide ((x31_.toNat : Int) ≠ (7 : Int)))))))))) ∧
   ((B_ = true →
     R (.returned (Value.bool false)) hp_) ∧
    (B_ = false →
     Jv_ [] hp_))) ∧
  (∀  hp_1, Jv_ [] hp_1 →
   CallsH Tryd.prog 14 #[(Value.string x14r0_)] hp_1 fun en_1 hp_2 =>
   ∃ x36r0f0_ : Int, ∃ x36r0f1_ : Int, ∃ x36r0f2_ : Int, ∃ x36r0f3_ : ByteArray, ∃ x36r1_ : Int, ∃ x36r2_ : Int, en_1 = .returned (Value.tuple #[(Value.agg #[(Value.int .i64 x36r0f0_), (Value.int .u64 x36r0f1_), (Value.int .i64 x36r0f2_), (Value.string x36r0f3_)]), (Value.int .i64 x36r1_), (Value.int .i64 x36r2_)]) ∧
   ∀ b_ hp_3, b_ = Array.size hp_2 → hp_3 = Array.push hp_2 (.cells (zeros Tryd.prog 24) 24) → (∃ i z, Tryd.prog.info? 24 = some i ∧ i.zero = some z) ∧
   List.length [(Value.int .i64 x36r0f0_), (Value.int .u64 x36r0f1_), (Value.int .i64 x36r0f2_), (Value.string x36r0f3_)] = 4 ∧ (∀ c ∈ [(Value.int .i64 x36r0f0_), (Value.int .u64 x36r0f1_), (Value.int .i64 x36r0f2_), (Value.string x36r0f3_)], c.oneCell' = true) ∧ wrAt hp_3 b_ 0 4 ∧ ∀ hp_4, hp_4 = setsH hp_3 b_ 0 [(Value.int .i64 x36r0f0_), (Value.int .u64 x36r0f1_), (Value.int .i64 x36r0f2_), (Value.string x36r0f3_)] →
   CallsH Tryd.prog 22 #[(Value.int .i64 (1 : Int))] hp_4 fun en_2 hp_5 =>
   ∃ x41r0_ : Option Addr, ∃ x41r1_ : Int, en_2 = .returned (Value.tuple #[(Value.pointer x41r0_), (Value.int .i64 x41r1_)]) ∧
   ∃ Jv_1 : List Value → Hp → Prop,
   (∃ B_1 : Bool, (∃ x45_, EqV Tryd.prog 45 (Value.pointer x41r0_) (Value.pointer none) x45_ ∧
     ((x45_ = true →
       hp_5 = hp_5 ∧ B_1 = true) ∧
      (x45_ = false →
       hp_5 = hp_5 ∧ B_1 = (decide (x41r1_ ≠ (0 : Int)))))) ∧
    ((B_1 = true →
      R (.returned (Value.bool false)) hp_5) ∧
     (B_1 = false →
      Jv_1 [] hp_5))) ∧
   (∀  hp_6, Jv_1 [] hp_6 →
    ∃ x51f0_ : Int, ∃ x51f1_ : Int, ∃ x51f2_ : Int, ∃ x51f3_ : ByteArray, cellsAt hp_6 b_ 0 [(Value.int .i64 x51f0_), (Value.int .u64 x51f1_), (Value.int .i64 x51f2_), (Value.string x51f3_)] ∧
    CallsH Tryd.prog 18 #[(Value.pointer x41r0_), (Value.int .i64 (0 : Int)), (Value.agg #[(Value.int .i64 x51f0_), (Value.int .u64 x51f1_), (Value.int .i64 x51f2_), (Value.string x51f3_)])] hp_6 fun en_3 hp_7 =>
    ∃ x52_ : Int, en_3 = .returned (Value.int .i64 x52_) ∧
    CallsH Tryd.prog 18 #[(Value.pointer x41r0_), (Value.int .i64 (0 : Int)), (Value.agg #[(Value.int .i64 (9 : Int)), (Value.int .u64 (0 : Int)), (Value.int .i64 (0 : Int)), (Value.string (⟨#[]⟩ : ByteArray))])] hp_7 fun en_4 hp_8 =>
    ∃ x55_ : Int, en_4 = .returned (Value.int .i64 x55_) ∧
    SemH Tryd.prog (Instr.buildSlice 44 2 #[(0, (Value.agg #[(Value.int .i64 (1 : Int)), (Value.int .i64 (0 : Int))])), (1, (Value.agg #[(Value.int .i64 (2 : Int)), (Value.int .i64 (100 : Int))]))]) hp_8 fun v_ hp_9 =>
    ∃ (x59p_ : Option Addr) (x59n_ x59c_ : Nat), v_ = (Value.slice x59p_ x59n_ x59c_) ∧
    CallsH Tryd.prog 24 #[(Value.pointer x41r0_), (Value.slice x59p_ x59n_ x59c_)] hp_9 fun en_5 hp_10 =>
    en_5 = .returned (Value.tuple #[]) ∧
    CallsH Tryd.prog 19 #[(Value.pointer x41r0_), (Value.int .i64 (0 : Int))] hp_10 fun en_6 hp_11 =>
    ∃ x63r0f0_ : Int, ∃ x63r0f1_ : Int, ∃ x63r0f2_ : Int, ∃ x63r0f3_ : ByteArray, ∃ x63r1_ : Int, en_6 = .returned (Value.tuple #[(Value.agg #[(Value.int .i64 x63r0f0_), (Value.int .u64 x63r0f1_), (Value.int .i64 x63r0f2_), (Value.string x63r0f3_)]), (Value.int .i64 x63r1_)]) ∧
    ∀ b_1 hp_12, b_1 = Array.size hp_11 → hp_12 = Array.push hp_11 (.cells (zeros Tryd.prog 24) 24) → (∃ i z, Tryd.prog.info? 24 = some i ∧ i.zero = some z) ∧
    List.length [(Value.int .i64 x63r0f0_), (Value.int .u64 x63r0f1_), (Value.int .i64 x63r0f2_), (Value.string x63r0f3_)] = 4 ∧ (∀ c ∈ [(Value.int .i64 x63r0f0_), (Value.int .u64 x63r0f1_), (Value.int .i64 x63r0f2_), (Value.string x63r0f3_)], c.oneCell' = true) ∧ wrAt hp_12 b_1 0 4 ∧ ∀ hp_13, hp_13 = setsH hp_12 b_1 0 [(Value.int .i64 x63r0f0_), (Value.int .u64 x63r0f1_), (Value.int .i64 x63r0f2_), (Value.string x63r0f3_)] →
    ∃ B_2 : Bool, ((((decide (x36r2_ = (0 : Int))) = true →
       (((decide (x36r1_ = (7 : Int))) = true →
         ∃ x74_ : ByteArray, cellsAt hp_13 b_ (0 + 3) [(Value.string x74_)] ∧
         (((decide (x74_ = (⟨#[97, 98]⟩ : ByteArray))) = true →
           ∃ x79_ : Int, cellsAt hp_13 b_ (0 + 2) [(Value.int .i64 x79_)] ∧
           (((decide (x79_ = (3 : Int))) = true →
             (((decide (x52_ = (0 : Int))) = true →
               (((decide (x55_ = (0 : Int))) = true →
                 hp_13 = hp_13 ∧ B_2 = (decide (x63r1_ = (50 : Int)))) ∧
                ((decide (x55_ = (0 : Int))) = false →
                 hp_13 = hp_13 ∧ B_2 = false))) ∧
              ((decide (x52_ = (0 : Int))) = false →
               hp_13 = hp_13 ∧ B_2 = false))) ∧
            ((decide (x79_ = (3 : Int))) = false →
             hp_13 = hp_13 ∧ B_2 = false))) ∧
          ((decide (x74_ = (⟨#[97, 98]⟩ : ByteArray))) = false →
           hp_13 = hp_13 ∧ B_2 = false))) ∧
        ((decide (x36r1_ = (7 : Int))) = false →
         hp_13 = hp_13 ∧ B_2 = false))) ∧
      ((decide (x36r2_ = (0 : Int))) = false →
       hp_13 = hp_13 ∧ B_2 = false))) ∧
    R (.returned (Value.bool B_2)) hp_13))) :
  CallsH Tryd.prog 11 #[] h R := calls_vc fine false Tryd.func11 (ann := A11) (args := []) (by kernel_rfl) (Eq.mpr (by kernel_rfl) H)
/-- turnout/frame.Seal -/
def A12 : Ann := (.seq .nil (.cut (.seq (.join 15) (.cond (.seq .nil .nil) .nil)) [] (.seq (.seq .nil (.seq .nil (.cond (.seq .nil .nil) .nil))) (.seq .nil (.seq .nil (.seq .nil (.seq .nil (.seq .nil (.seq .nil (.seq .nil (.seq .nil (.seq (.seq .nil (.block (.loop [(51, (.int .i64))] (.seq .nil (.seq (.cond .nil .nil) (.seq (.block (.seq .nil .nil)) .nil)))))) (.seq .nil (.seq .nil .nil))))))))))))))
theorem V12 (ff0_ : Int) (ff1_ : Int) (ff2_ : Int) (ff3_ : ByteArray) (mark_ : Int) (h : Hp) (R : Ending → Hp → Prop) (H :
  ∀ b_ hp_, b_ = Array.size h → hp_ = Array.push h (.cells #[(Value.int .i64 ff0_), (Value.int .u64 ff1_), (Value.int .i64 ff2_), (Value.string ff3_)] 24) →
  ∃ Jv_ : List Value → Hp → Prop,
  (∃ B_ : Bool, ((((decide (mark_ < (0 : Int))) = true →
      hp_ = hp_ ∧ B_ = true) ∧
     ((decide (mark_ < (0 : Int))) = false →
      hp_ = hp_ ∧ B_ = (decide ((255 : Int) < mark_))))) ∧
   ((B_ = true →
     R (.returned (Value.tuple #[(Value.string (⟨#[]⟩ : ByteArray)), (Value.int .i64 (1 : Int))])) hp_) ∧
    (B_ = false →
     Jv_ [] hp_))) ∧
  (∀  hp_1, Jv_ [] hp_1 →
   ∃ x16f0_ : Int, ∃ x16f1_ : Int, ∃ x16f2_ : Int, ∃ x16f3_ : ByteArray, cellsAt hp_1 b_ 0 [(Value.int .i64 x16f0_), (Value.int .u64 x16f1_), (Value.int .i64 x16f2_), (Value.string x16f3_)] ∧
   CallsH Tryd.prog 25 #[(Value.agg #[(Value.int .i64 x16f0_), (Value.int .u64 x16f1_), (Value.int .i64 x16f2_), (Value.string x16f3_)])] hp_1 fun en_ hp_2 =>
   ∃ x17_ : Int, en_ = .returned (Value.int .i64 x17_) ∧
   (((decide (x17_ ≠ (0 : Int))) = true →
     R (.returned (Value.tuple #[(Value.string (⟨#[]⟩ : ByteArray)), (Value.int .i64 x17_)])) hp_2) ∧
    ((decide (x17_ ≠ (0 : Int))) = false →
     ∀ b_1 hp_3, b_1 = Array.size hp_2 → hp_3 = Array.push hp_2 (.cells (zeros Tryd.prog 57) 57) → (∃ i z, Tryd.prog.info? 57 = some i ∧ i.zero = some z) ∧
     ∃ x22_, IntKind.u8.wrap mark_ = x22_ ∧
     0 ≤ (0 : Int) ∧ (0 : Int) < ((512 : Nat) : Int) ∧
     Value.oneCell' (Value.int .u8 x22_) = true ∧ wrAt hp_3 b_1 (0 + Int.toNat (0 : Int) * 1) 1 ∧ ∀ hp_4, hp_4 = setsH hp_3 b_1 (0 + Int.toNat (0 : Int) * 1) [(Value.int .u8 x22_)] →
     ∃ x25_ : Int, cellsAt hp_4 b_ (0 + 0) [(Value.int .i64 x25_)] ∧
     ∃ x26_, IntKind.u8.wrap x25_ = x26_ ∧
     0 ≤ (1 : Int) ∧ (1 : Int) < ((512 : Nat) : Int) ∧
     Value.oneCell' (Value.int .u8 x26_) = true ∧ wrAt hp_4 b_1 (0 + Int.toNat (1 : Int) * 1) 1 ∧ ∀ hp_5, hp_5 = setsH hp_4 b_1 (0 + Int.toNat (1 : Int) * 1) [(Value.int .u8 x26_)] →
     ∃ l_ : Nat, (2 : Int) = (l_ : Int) ∧
     ∃ u_ : Nat, (10 : Int) = (u_ : Int) ∧
     l_ ≤ u_ ∧ u_ ≤ 512 ∧ ∃ x28p_, cutP (some ⟨b_1, 0, none⟩) 512 l_ 1 = x28p_ ∧
     ∃ x30_ : Int, cellsAt hp_5 b_ (0 + 1) [(Value.int .u64 x30_)] ∧
     CallsH Tryd.prog 26 #[(Value.slice x28p_ (u_ - l_) (512 - l_)), (Value.int .u64 x30_)] hp_5 fun en_1 hp_6 =>
     en_1 = .returned (Value.tuple #[]) ∧
     ∃ l_1 : Nat, (10 : Int) = (l_1 : Int) ∧
     ∃ u_1 : Nat, (14 : Int) = (u_1 : Int) ∧
     l_1 ≤ u_1 ∧ u_1 ≤ 512 ∧ ∃ x32p_, cutP (some ⟨b_1, 0, none⟩) 512 l_1 1 = x32p_ ∧
     ∃ x34_ : Int, cellsAt hp_6 b_ (0 + 2) [(Value.int .i64 x34_)] ∧
     ∃ x35_, IntKind.u64.wrap x34_ = x35_ ∧
     CallsH Tryd.prog 26 #[(Value.slice x32p_ (u_1 - l_1) (512 - l_1)), (Value.int .u64 x35_)] hp_6 fun en_2 hp_7 =>
     en_2 = .returned (Value.tuple #[]) ∧
     ∃ l_2 : Nat, (14 : Int) = (l_2 : Int) ∧
     ∃ u_2 : Nat, (16 : Int) = (u_2 : Int) ∧
     l_2 ≤ u_2 ∧ u_2 ≤ 512 ∧ ∃ x37p_, cutP (some ⟨b_1, 0, none⟩) 512 l_2 1 = x37p_ ∧
     ∃ x39_ : ByteArray, cellsAt hp_7 b_ (0 + 3) [(Value.string x39_)] ∧
     ∃ x41_, IntKind.u64.wrap (ByteArray.size x39_ : Int) = x41_ ∧
     CallsH Tryd.prog 26 #[(Value.slice x37p_ (u_2 - l_2) (512 - l_2)), (Value.int .u64 x41_)] hp_7 fun en_3 hp_8 =>
     en_3 = .returned (Value.tuple #[]) ∧
     ∃ l_3 : Nat, (16 : Int) = (l_3 : Int) ∧
     l_3 ≤ 512 ∧ 512 ≤ 512 ∧ ∃ x43p_, cutP (some ⟨b_1, 0, none⟩) 512 l_3 1 = x43p_ ∧
     ∃ x45_ : ByteArray, cellsAt hp_8 b_ (0 + 3) [(Value.string x45_)] ∧
     SemH Tryd.prog (Builtin.copy_ #[37, 9] 3 #[(Value.slice x43p_ (512 - l_3) (512 - l_3)), (Value.string x45_)]) hp_8 fun v_ hp_9 =>
     ∃ x46_ : Int, v_ = (Value.int .i64 x46_) ∧
     ∃ l_4 : Nat, (1 : Int) = (l_4 : Int) ∧
     ∃ u_3 : Nat, (507 : Int) = (u_3 : Int) ∧
     l_4 ≤ u_3 ∧ u_3 ≤ 512 ∧ ∃ x47p_, cutP (some ⟨b_1, 0, none⟩) 512 l_4 1 = x47p_ ∧
     SemH Tryd.prog (convert 37 9 (Value.slice x47p_ (u_3 - l_4) (512 - l_4))) hp_9 fun v_1 hp_10 =>
     ∃ x48_ : ByteArray, v_1 = (Value.string x48_) ∧
     SemH Tryd.prog (Instr.buildSlice 68 1 #[(0, (Value.string x48_))]) hp_10 fun v_2 hp_11 =>
     ∃ (x49p_ : Option Addr) (x49n_ x49c_ : Nat), v_2 = (Value.slice x49p_ x49n_ x49c_) ∧
     CallsH Tryd.prog 27 #[(Value.slice x49p_ x49n_ x49c_)] hp_11 fun en_4 hp_12 =>
     ∃ x50_ : Int, en_4 = .returned (Value.int .u32 x50_) ∧
     ∃ (Iv_ : List Value → Hp → Prop) (m_ : List Value → Hp → Nat), Iv_ [(Value.int .i64 (0 : Int))] hp_12 ∧
     (∀ (x51_ : Int) hp_13, Iv_ [(Value.int .i64 x51_)] hp_13 →
      (((decide (x51_ < (4 : Int))) = true →
        ∃ x55_, IntKind.i64.wrap ((507 : Int) + x51_) = x55_ ∧
        ∃ x58_, IntKind.i64.wrap ((8 : Int) * x51_) = x58_ ∧
        0 ≤ x58_ ∧ ∃ x59_, shrI .u32 x50_ x58_ = x59_ ∧
        ∃ x60_, IntKind.u8.wrap x59_ = x60_ ∧
        0 ≤ x55_ ∧ x55_ < ((512 : Nat) : Int) ∧
        Value.oneCell' (Value.int .u8 x60_) = true ∧ wrAt hp_13 b_1 (0 + Int.toNat x55_ * 1) 1 ∧ ∀ hp_14, hp_14 = setsH hp_13 b_1 (0 + Int.toNat x55_ * 1) [(Value.int .u8 x60_)] →
        ∃ x62_, IntKind.i64.wrap (x51_ + (1 : Int)) = x62_ ∧
        (Iv_ [(Value.int .i64 x62_)] hp_14 ∧ m_ [(Value.int .i64 x62_)] hp_14 < m_ [(Value.int .i64 x51_)] hp_13)) ∧
       ((decide (x51_ < (4 : Int))) = false →
        ∃ x64_, IntKind.u8.wrap mark_ = x64_ ∧
        0 ≤ (511 : Int) ∧ (511 : Int) < ((512 : Nat) : Int) ∧
        Value.oneCell' (Value.int .u8 x64_) = true ∧ wrAt hp_13 b_1 (0 + Int.toNat (511 : Int) * 1) 1 ∧ ∀ hp_15, hp_15 = setsH hp_13 b_1 (0 + Int.toNat (511 : Int) * 1) [(Value.int .u8 x64_)] →
        0 ≤ 512 ∧ 512 ≤ 512 ∧ ∃ x66p_, cutP (some ⟨b_1, 0, none⟩) 512 0 1 = x66p_ ∧
        SemH Tryd.prog (convert 37 9 (Value.slice x66p_ (512 - 0) (512 - 0))) hp_15 fun v_3 hp_16 =>
        ∃ x67_ : ByteArray, v_3 = (Value.string x67_) ∧
        R (.returned (Value.tuple #[(Value.string x67_), (Value.int .i64 (0 : Int))])) hp_16))))))) :
  CallsH Tryd.prog 12 #[(Value.agg #[(Value.int .i64 ff0_), (Value.int .u64 ff1_), (Value.int .i64 ff2_), (Value.string ff3_)]), (Value.int .i64 mark_)] h R := calls_vc fine false Tryd.func12 (ann := A12) (args := [(Value.agg #[(Value.int .i64 ff0_), (Value.int .u64 ff1_), (Value.int .i64 ff2_), (Value.string ff3_)]), (Value.int .i64 mark_)]) (by kernel_rfl) (Eq.mpr (by kernel_rfl) H)
/-- turnout/turnoutref05.Seal -/
def A13 : Ann := (.seq .nil (.cut (.seq (.join 14) (.cond (.seq .nil .nil) .nil)) [] (.seq .nil (.seq (.seq .nil (.cond (.seq .nil .nil) .nil)) (.seq (.drawLast [5, 9, 14, 20]) (.seq .nil (.seq .nil (.seq .nil .nil))))))))
theorem V13 (ff0_ : Int) (ff1_ : Int) (ff2_ : Int) (ff3_ : ByteArray) (mark_ : Int) (h : Hp) (R : Ending → Hp → Prop) (H :
  ∀ b_ hp_, b_ = Array.size h → hp_ = Array.push h (.cells #[(Value.int .i64 ff0_), (Value.int .u64 ff1_), (Value.int .i64 ff2_), (Value.string ff3_)] 24) →
  ∃ Jv_ : List Value → Hp → Prop,
  (∃ B_ : Bool, ((((decide (mark_ < (0 : Int))) = true →
      hp_ = hp_ ∧ B_ = true) ∧
     ((decide (mark_ < (0 : Int))) = false →
      hp_ = hp_ ∧ B_ = (decide ((255 : Int) < mark_))))) ∧
   ((B_ = true →
     R (.returned (Value.tuple #[(Value.string (⟨#[]⟩ : ByteArray)), (Value.int .i64 (1 : Int))])) hp_) ∧
    (B_ = false →
     Jv_ [] hp_))) ∧
  (∀  hp_1, Jv_ [] hp_1 →
   ∃ x15f0_ : Int, ∃ x15f1_ : Int, ∃ x15f2_ : Int, ∃ x15f3_ : ByteArray, cellsAt hp_1 b_ 0 [(Value.int .i64 x15f0_), (Value.int .u64 x15f1_), (Value.int .i64 x15f2_), (Value.string x15f3_)] ∧
   CallsH Tryd.prog 28 #[(Value.agg #[(Value.int .i64 x15f0_), (Value.int .u64 x15f1_), (Value.int .i64 x15f2_), (Value.string x15f3_)])] hp_1 fun en_ hp_2 =>
   ∃ x16_ : Int, en_ = .returned (Value.int .i64 x16_) ∧
   (((decide (x16_ ≠ (0 : Int))) = true →
     R (.returned (Value.tuple #[(Value.string (⟨#[]⟩ : ByteArray)), (Value.int .i64 x16_)])) hp_2) ∧
    ((decide (x16_ ≠ (0 : Int))) = false →
     ∃ Cv_ : Hp → Prop, Cv_ hp_2 ∧
     ∃ x21_ : Int, cellsAt hp_2 b_ (0 + 0) [(Value.int .i64 x21_)] ∧
     ∃ x22_, IntKind.u64.wrap x21_ = x22_ ∧
     CallsH Tryd.prog 29 #[(Value.int .u64 x22_), (Value.int .i64 (1 : Int))] hp_2 fun en_1 hp_3 =>
     ∃ x23_ : ByteArray, en_1 = .returned (Value.string x23_) ∧
     Cv_ hp_3 ∧
     ∃ x25_ : Int, (∀ h', Cv_ h' → cellsAt h' b_ (0 + 1) [(Value.int .u64 x25_)]) ∧
     CallsH Tryd.prog 29 #[(Value.int .u64 x25_), (Value.int .i64 (8 : Int))] hp_3 fun en_2 hp_4 =>
     ∃ x26_ : ByteArray, en_2 = .returned (Value.string x26_) ∧
     Cv_ hp_4 ∧
     ByteArray.size x23_ + ByteArray.size x26_ ≤ 9223372036854775807 ∧ ∃ x27_, x23_ ++ x26_ = x27_ ∧
     ∃ x29_ : Int, (∀ h', Cv_ h' → cellsAt h' b_ (0 + 2) [(Value.int .i64 x29_)]) ∧
     ∃ x30_, IntKind.u64.wrap x29_ = x30_ ∧
     CallsH Tryd.prog 29 #[(Value.int .u64 x30_), (Value.int .i64 (4 : Int))] hp_4 fun en_3 hp_5 =>
     ∃ x31_ : ByteArray, en_3 = .returned (Value.string x31_) ∧
     Cv_ hp_5 ∧
     ByteArray.size x27_ + ByteArray.size x31_ ≤ 9223372036854775807 ∧ ∃ x32_, x27_ ++ x31_ = x32_ ∧
     ∃ x34_ : ByteArray, (∀ h', Cv_ h' → cellsAt h' b_ (0 + 3) [(Value.string x34_)]) ∧
     ∃ x36_, IntKind.u64.wrap (ByteArray.size x34_ : Int) = x36_ ∧
     CallsH Tryd.prog 29 #[(Value.int .u64 x36_), (Value.int .i64 (2 : Int))] hp_5 fun en_4 hp_6 =>
     ∃ x37_ : ByteArray, en_4 = .returned (Value.string x37_) ∧
     Cv_ hp_6 ∧
     ByteArray.size x32_ + ByteArray.size x37_ ≤ 9223372036854775807 ∧ ∃ x38_, x32_ ++ x37_ = x38_ ∧
     ∃ x40_ : ByteArray, (∀ h', Cv_ h' → cellsAt h' b_ (0 + 3) [(Value.string x40_)]) ∧
     ByteArray.size x38_ + ByteArray.size x40_ ≤ 9223372036854775807 ∧ ∃ x41_, x38_ ++ x40_ = x41_ ∧
     ∃ x44_ : ByteArray, cellsAt hp_6 b_ (0 + 3) [(Value.string x44_)] ∧
     ∃ x46_, IntKind.i64.wrap ((491 : Int) - (ByteArray.size x44_ : Int)) = x46_ ∧
     SemH Tryd.prog (Instr.makeSlice 37 (Value.int .i64 x46_) (Value.int .i64 x46_)) hp_6 fun v_ hp_7 =>
     ∃ (x47p_ : Option Addr) (x47n_ x47c_ : Nat), v_ = (Value.slice x47p_ x47n_ x47c_) ∧
     SemH Tryd.prog (convert 37 9 (Value.slice x47p_ x47n_ x47c_)) hp_7 fun v_1 hp_8 =>
     ∃ x48_ : ByteArray, v_1 = (Value.string x48_) ∧
     ByteArray.size x41_ + ByteArray.size x48_ ≤ 9223372036854775807 ∧ ∃ x49_, x41_ ++ x48_ = x49_ ∧
     ∃ x51_, IntKind.u64.wrap mark_ = x51_ ∧
     CallsH Tryd.prog 29 #[(Value.int .u64 x51_), (Value.int .i64 (1 : Int))] hp_8 fun en_5 hp_9 =>
     ∃ x52_ : ByteArray, en_5 = .returned (Value.string x52_) ∧
     ByteArray.size x52_ + ByteArray.size x49_ ≤ 9223372036854775807 ∧ ∃ x55_, x52_ ++ x49_ = x55_ ∧
     CallsH Tryd.prog 30 #[(Value.string x49_)] hp_9 fun en_6 hp_10 =>
     ∃ x57_ : ByteArray, en_6 = .returned (Value.string x57_) ∧
     ByteArray.size x55_ + ByteArray.size x57_ ≤ 9223372036854775807 ∧ ∃ x58_, x55_ ++ x57_ = x58_ ∧
     ByteArray.size x58_ + ByteArray.size x52_ ≤ 9223372036854775807 ∧ ∃ x60_, x58_ ++ x52_ = x60_ ∧
     R (.returned (Value.tuple #[(Value.string x60_), (Value.int .i64 (0 : Int))])) hp_10)))) :
  CallsH Tryd.prog 13 #[(Value.agg #[(Value.int .i64 ff0_), (Value.int .u64 ff1_), (Value.int .i64 ff2_), (Value.string ff3_)]), (Value.int .i64 mark_)] h R := calls_vc fine false Tryd.func13 (ann := A13) (args := [(Value.agg #[(Value.int .i64 ff0_), (Value.int .u64 ff1_), (Value.int .i64 ff2_), (Value.string ff3_)]), (Value.int .i64 mark_)]) (by kernel_rfl) (Eq.mpr (by kernel_rfl) H)
/-- turnout/frame.Open -/
def A14h : Ann := .nil
def A14 : Ann := (.seq .nil (.seq .nil (.seq .nil (.seq (.seq .nil (.block (.loop [(25, (.int .i64))] (.seq .nil (.seq (.cond .nil .nil) (.seq (.block (.seq .nil .nil)) .nil)))))) (.seq .nil (.cut .nil [] (.seq (.seq .nil (.block (.loop [(9, (.int .i64))] (.seq (.seq .nil (.cond .nil .nil)) (.seq (.block .nil) .nil))))) (.seq .nil (.seq .nil .nil)))))))))
theorem V14 (s_ : ByteArray) (h : Hp) (R : Ending → Hp → Prop) (H :
  ∀ b_ hp_, b_ = Array.size h → hp_ = Array.push h (.cells (zeros Tryd.prog 24) 24) → (∃ i z, Tryd.prog.info? 24 = some i ∧ i.zero = some z) ∧
  ∀ b_1 hp_1, b_1 = Array.size hp_ → hp_1 = Array.push hp_ (.cells (zeros Tryd.prog 3) 3) → (∃ i z, Tryd.prog.info? 3 = some i ∧ i.zero = some z) ∧
  ∀ b_2 hp_2, b_2 = Array.size hp_1 → hp_2 = Array.push hp_1 (.cells (zeros Tryd.prog 26) 26) → (∃ i z, Tryd.prog.info? 26 = some i ∧ i.zero = some z) ∧
  CallsH Tryd.prog 32 #[(Value.bool (decide ((ByteArray.size s_ : Int) = (512 : Int)))), (Value.int .i64 (42 : Int))] hp_2 fun en_ hp_3 =>
  ((en_ = .returned (Value.tuple #[]) ∧
    0 ≤ (0 : Int) ∧ ∃ x16_ : UInt8, s_[Int.toNat (0 : Int)]? = some x16_ ∧
    0 ≤ (511 : Int) ∧ ∃ x18_ : UInt8, s_[Int.toNat (511 : Int)]? = some x18_ ∧
    CallsH Tryd.prog 32 #[(Value.bool (decide ((x16_.toNat : Int) = (x18_.toNat : Int)))), (Value.int .i64 (50 : Int))] hp_3 fun en_1 hp_4 =>
    ((en_1 = .returned (Value.tuple #[]) ∧
      ∃ l_ : Nat, (1 : Int) = (l_ : Int) ∧
      ∃ u_ : Nat, (507 : Int) = (u_ : Int) ∧
      l_ ≤ u_ ∧ u_ ≤ ByteArray.size s_ ∧ ∃ x22_, ByteArray.extract s_ l_ u_ = x22_ ∧
      SemH Tryd.prog (Instr.buildSlice 68 1 #[(0, (Value.string x22_))]) hp_4 fun v_ hp_5 =>
      ∃ (x23p_ : Option Addr) (x23n_ x23c_ : Nat), v_ = (Value.slice x23p_ x23n_ x23c_) ∧
      CallsH Tryd.prog 27 #[(Value.slice x23p_ x23n_ x23c_)] hp_5 fun en_2 hp_6 =>
      ∃ x24_ : Int, en_2 = .returned (Value.int .u32 x24_) ∧
      ∃ (Iv_ : List Value → Hp → Prop) (m_ : List Value → Hp → Nat), Iv_ [(Value.int .i64 (0 : Int))] hp_6 ∧
      (∀ (x25_ : Int) hp_7, Iv_ [(Value.int .i64 x25_)] hp_7 →
       (((decide (x25_ < (4 : Int))) = true →
         ∃ x30_, IntKind.i64.wrap ((507 : Int) + x25_) = x30_ ∧
         0 ≤ x30_ ∧ ∃ x31_ : UInt8, s_[Int.toNat x30_]? = some x31_ ∧
         ∃ x34_, IntKind.i64.wrap ((8 : Int) * x25_) = x34_ ∧
         0 ≤ x34_ ∧ ∃ x35_, shrI .u32 x24_ x34_ = x35_ ∧
         ∃ x36_, IntKind.u8.wrap x35_ = x36_ ∧
         CallsH Tryd.prog 32 #[(Value.bool (decide ((x31_.toNat : Int) = x36_))), (Value.int .i64 (51 : Int))] hp_7 fun en_3 hp_8 =>
         ((en_3 = .returned (Value.tuple #[]) ∧
           ∃ x39_, IntKind.i64.wrap (x25_ + (1 : Int)) = x39_ ∧
           (Iv_ [(Value.int .i64 x39_)] hp_8 ∧ m_ [(Value.int .i64 x39_)] hp_8 < m_ [(Value.int .i64 x25_)] hp_7)) ∨
          ∃ c_, en_3 = .panicked c_ ∧ DefH Tryd.prog 31 #[(Value.pointer (some ⟨b_, 0, none⟩)), (Value.pointer (some ⟨b_1, 0, none⟩)), (Value.pointer (some ⟨b_2, 0, none⟩))] (.panicking c_) hp_8 fun md_ hp_9 =>
          settle md_ = .returning ∧
          ∃ resf0_ : Int, ∃ resf1_ : Int, ∃ resf2_ : Int, ∃ resf3_ : ByteArray, cellsAt hp_9 b_ 0 [(Value.int .i64 resf0_), (Value.int .u64 resf1_), (Value.int .i64 resf2_), (Value.string resf3_)] ∧
          ∃ res_ : Int, cellsAt hp_9 b_1 0 [(Value.int .i64 res_)] ∧
          ∃ res_1 : Int, cellsAt hp_9 b_2 0 [(Value.int .i64 res_1)] ∧
          R (.returned (Value.tuple #[(Value.agg #[(Value.int .i64 resf0_), (Value.int .u64 resf1_), (Value.int .i64 resf2_), (Value.string resf3_)]), (Value.int .i64 res_), (Value.int .i64 res_1)])) hp_9)) ∧
        ((decide (x25_ < (4 : Int))) = false →
         ∃ l_1 : Nat, (10 : Int) = (l_1 : Int) ∧
         ∃ u_1 : Nat, (14 : Int) = (u_1 : Int) ∧
         l_1 ≤ u_1 ∧ u_1 ≤ ByteArray.size s_ ∧ ∃ x41_, ByteArray.extract s_ l_1 u_1 = x41_ ∧
         CallsH Tryd.prog 33 #[(Value.string x41_)] hp_7 fun en_4 hp_10 =>
         ∃ x42_ : Int, en_4 = .returned (Value.int .u64 x42_) ∧
         ∃ l_2 : Nat, (14 : Int) = (l_2 : Int) ∧
         ∃ u_2 : Nat, (16 : Int) = (u_2 : Int) ∧
         l_2 ≤ u_2 ∧ u_2 ≤ ByteArray.size s_ ∧ ∃ x44_, ByteArray.extract s_ l_2 u_2 = x44_ ∧
         CallsH Tryd.prog 33 #[(Value.string x44_)] hp_10 fun en_5 hp_11 =>
         ∃ x45_ : Int, en_5 = .returned (Value.int .u64 x45_) ∧
         ∃ x46_, IntKind.i64.wrap x45_ = x46_ ∧
         ∃ Jv_ : List Value → Hp → Prop,
         (0 ≤ (1 : Int) ∧ ∃ x48_ : UInt8, s_[Int.toNat (1 : Int)]? = some x48_ ∧
          (((decide ((x48_.toNat : Int) ≠ (0 : Int))) = true →
            (((decide (x42_ ≤ (2147483647 : Int))) = true →
              CallsH Tryd.prog 32 #[(Value.bool (decide (x46_ ≤ (491 : Int)))), (Value.int .i64 (52 : Int))] hp_11 fun en_6 hp_12 =>
              ((en_6 = .returned (Value.tuple #[]) ∧
                Jv_ [] hp_12) ∨
               ∃ c_1, en_6 = .panicked c_1 ∧ DefH Tryd.prog 31 #[(Value.pointer (some ⟨b_, 0, none⟩)), (Value.pointer (some ⟨b_1, 0, none⟩)), (Value.pointer (some ⟨b_2, 0, none⟩))] (.panicking c_1) hp_12 fun md_1 hp_13 =>
               settle md_1 = .returning ∧
               ∃ resf0_1 : Int, ∃ resf1_1 : Int, ∃ resf2_1 : Int, ∃ resf3_1 : ByteArray, cellsAt hp_13 b_ 0 [(Value.int .i64 resf0_1), (Value.int .u64 resf1_1), (Value.int .i64 resf2_1), (Value.string resf3_1)] ∧
               ∃ res_2 : Int, cellsAt hp_13 b_1 0 [(Value.int .i64 res_2)] ∧
               ∃ res_3 : Int, cellsAt hp_13 b_2 0 [(Value.int .i64 res_3)] ∧
               R (.returned (Value.tuple #[(Value.agg #[(Value.int .i64 resf0_1), (Value.int .u64 resf1_1), (Value.int .i64 resf2_1), (Value.string resf3_1)]), (Value.int .i64 res_2), (Value.int .i64 res_3)])) hp_13)) ∧
             ((decide (x42_ ≤ (2147483647 : Int))) = false →
              CallsH Tryd.prog 32 #[(Value.bool false), (Value.int .i64 (52 : Int))] hp_11 fun en_7 hp_14 =>
              ((en_7 = .returned (Value.tuple #[]) ∧
                Jv_ [] hp_14) ∨
               ∃ c_2, en_7 = .panicked c_2 ∧ DefH Tryd.prog 31 #[(Value.pointer (some ⟨b_, 0, none⟩)), (Value.pointer (some ⟨b_1, 0, none⟩)), (Value.pointer (some ⟨b_2, 0, none⟩))] (.panicking c_2) hp_14 fun md_2 hp_15 =>
               settle md_2 = .returning ∧
               ∃ resf0_2 : Int, ∃ resf1_2 : Int, ∃ resf2_2 : Int, ∃ resf3_2 : ByteArray, cellsAt hp_15 b_ 0 [(Value.int .i64 resf0_2), (Value.int .u64 resf1_2), (Value.int .i64 resf2_2), (Value.string resf3_2)] ∧
               ∃ res_4 : Int, cellsAt hp_15 b_1 0 [(Value.int .i64 res_4)] ∧
               ∃ res_5 : Int, cellsAt hp_15 b_2 0 [(Value.int .i64 res_5)] ∧
               R (.returned (Value.tuple #[(Value.agg #[(Value.int .i64 resf0_2), (Value.int .u64 resf1_2), (Value.int .i64 resf2_2), (Value.string resf3_2)]), (Value.int .i64 res_4), (Value.int .i64 res_5)])) hp_15)))) ∧
           ((decide ((x48_.toNat : Int) ≠ (0 : Int))) = false →
            CallsH Tryd.prog 32 #[(Value.bool false), (Value.int .i64 (52 : Int))] hp_11 fun en_8 hp_16 =>
            ((en_8 = .returned (Value.tuple #[]) ∧
              Jv_ [] hp_16) ∨
             ∃ c_3, en_8 = .panicked c_3 ∧ DefH Tryd.prog 31 #[(Value.pointer (some ⟨b_, 0, none⟩)), (Value.pointer (some ⟨b_1, 0, none⟩)), (Value.pointer (some ⟨b_2, 0, none⟩))] (.panicking c_3) hp_16 fun md_3 hp_17 =>
             settle md_3 = .returning ∧
             ∃ resf0_3 : Int, ∃ resf1_3 : Int, ∃ resf2_3 : Int, ∃ resf3_3 : ByteArray, cellsAt hp_17 b_ 0 [(Value.int .i64 resf0_3), (Value.int .u64 resf1_3), (Value.int .i64 resf2_3), (Value.string resf3_3)] ∧
             ∃ res_6 : Int, cellsAt hp_17 b_1 0 [(Value.int .i64 res_6)] ∧
             ∃ res_7 : Int, cellsAt hp_17 b_2 0 [(Value.int .i64 res_7)] ∧
             R (.returned (Value.tuple #[(Value.agg #[(Value.int .i64 resf0_3), (Value.int .u64 resf1_3), (Value.int .i64 resf2_3), (Value.string resf3_3)]), (Value.int .i64 res_6), (Value.int .i64 res_7)])) hp_17)))) ∧
         (∀  hp_18, Jv_ [] hp_18 →
          ∃ x60_, IntKind.i64.wrap ((16 : Int) + x46_) = x60_ ∧
          ∃ (Iv_1 : List Value → Hp → Prop) (m_1 : List Value → Hp → Nat), Iv_1 [(Value.int .i64 x60_)] hp_18 ∧
          (∀ (i_ : Int) hp_19, Iv_1 [(Value.int .i64 i_)] hp_19 →
           (((decide (i_ < (507 : Int))) = true →
             0 ≤ i_ ∧ ∃ x67_ : UInt8, s_[Int.toNat i_]? = some x67_ ∧
             CallsH Tryd.prog 32 #[(Value.bool (decide ((x67_.toNat : Int) = (0 : Int)))), (Value.int .i64 (52 : Int))] hp_19 fun en_9 hp_20 =>
             ((en_9 = .returned (Value.tuple #[]) ∧
               ∃ x64_, IntKind.i64.wrap (i_ + (1 : Int)) = x64_ ∧
               (Iv_1 [(Value.int .i64 x64_)] hp_20 ∧ m_1 [(Value.int .i64 x64_)] hp_20 < m_1 [(Value.int .i64 i_)] hp_19)) ∨
              ∃ c_4, en_9 = .panicked c_4 ∧ DefH Tryd.prog 31 #[(Value.pointer (some ⟨b_, 0, none⟩)), (Value.pointer (some ⟨b_1, 0, none⟩)), (Value.pointer (some ⟨b_2, 0, none⟩))] (.panicking c_4) hp_20 fun md_4 hp_21 =>
              settle md_4 = .returning ∧
              ∃ resf0_4 : Int, ∃ resf1_4 : Int, ∃ resf2_4 : Int, ∃ resf3_4 : ByteArray, cellsAt hp_21 b_ 0 [(Value.int .i64 resf0_4), (Value.int .u64 resf1_4), (Value.int .i64 resf2_4), (Value.string resf3_4)] ∧
              ∃ res_8 : Int, cellsAt hp_21 b_1 0 [(Value.int .i64 res_8)] ∧
              ∃ res_9 : Int, cellsAt hp_21 b_2 0 [(Value.int .i64 res_9)] ∧
              R (.returned (Value.tuple #[(Value.agg #[(Value.int .i64 resf0_4), (Value.int .u64 resf1_4), (Value.int .i64 resf2_4), (Value.string resf3_4)]), (Value.int .i64 res_8), (Value.int .i64 res_9)])) hp_21)) ∧
            ((decide (i_ < (507 : Int))) = false →
             0 ≤ (1 : Int) ∧ ∃ x71_ : UInt8, s_[Int.toNat (1 : Int)]? = some x71_ ∧
             ∃ x72_, IntKind.i64.wrap (x71_.toNat : Int) = x72_ ∧
             ∃ l_3 : Nat, (2 : Int) = (l_3 : Int) ∧
             ∃ u_3 : Nat, (10 : Int) = (u_3 : Int) ∧
             l_3 ≤ u_3 ∧ u_3 ≤ ByteArray.size s_ ∧ ∃ x74_, ByteArray.extract s_ l_3 u_3 = x74_ ∧
             CallsH Tryd.prog 33 #[(Value.string x74_)] hp_19 fun en_10 hp_22 =>
             ∃ x75_ : Int, en_10 = .returned (Value.int .u64 x75_) ∧
             ∃ x77_, IntKind.i64.wrap x42_ = x77_ ∧
             ∃ x80_, IntKind.i64.wrap ((16 : Int) + x46_) = x80_ ∧
             ∃ l_4 : Nat, (16 : Int) = (l_4 : Int) ∧
             ∃ u_4 : Nat, x80_ = (u_4 : Int) ∧
             l_4 ≤ u_4 ∧ u_4 ≤ ByteArray.size s_ ∧ ∃ x81_, ByteArray.extract s_ l_4 u_4 = x81_ ∧
             List.length [(Value.int .i64 x72_), (Value.int .u64 x75_), (Value.int .i64 x77_), (Value.string x81_)] = 4 ∧ (∀ c ∈ [(Value.int .i64 x72_), (Value.int .u64 x75_), (Value.int .i64 x77_), (Value.string x81_)], c.oneCell' = true) ∧ wrAt hp_22 b_ 0 4 ∧ ∀ hp_23, hp_23 = setsH hp_22 b_ 0 [(Value.int .i64 x72_), (Value.int .u64 x75_), (Value.int .i64 x77_), (Value.string x81_)] →
             ∃ x83f0_ : Int, ∃ x83f1_ : Int, ∃ x83f2_ : Int, ∃ x83f3_ : ByteArray, cellsAt hp_23 b_ 0 [(Value.int .i64 x83f0_), (Value.int .u64 x83f1_), (Value.int .i64 x83f2_), (Value.string x83f3_)] ∧
             0 ≤ (0 : Int) ∧ ∃ x85_ : UInt8, s_[Int.toNat (0 : Int)]? = some x85_ ∧
             ∃ x86_, IntKind.i64.wrap (x85_.toNat : Int) = x86_ ∧
             List.length [(Value.int .i64 x83f0_), (Value.int .u64 x83f1_), (Value.int .i64 x83f2_), (Value.string x83f3_)] = 4 ∧ (∀ c ∈ [(Value.int .i64 x83f0_), (Value.int .u64 x83f1_), (Value.int .i64 x83f2_), (Value.string x83f3_)], c.oneCell' = true) ∧ wrAt hp_23 b_ 0 4 ∧ ∀ hp_24, hp_24 = setsH hp_23 b_ 0 [(Value.int .i64 x83f0_), (Value.int .u64 x83f1_), (Value.int .i64 x83f2_), (Value.string x83f3_)] →
             Value.oneCell' (Value.int .i64 x86_) = true ∧ wrAt hp_24 b_1 0 1 ∧ ∀ hp_25, hp_25 = setsH hp_24 b_1 0 [(Value.int .i64 x86_)] →
             Value.oneCell' (Value.int .i64 (0 : Int)) = true ∧ wrAt hp_25 b_2 0 1 ∧ ∀ hp_26, hp_26 = setsH hp_25 b_2 0 [(Value.int .i64 (0 : Int))] →
             DefH Tryd.prog 31 #[(Value.pointer (some ⟨b_, 0, none⟩)), (Value.pointer (some ⟨b_1, 0, none⟩)), (Value.pointer (some ⟨b_2, 0, none⟩))] .returning hp_26 fun md_5 hp_27 =>
             settle md_5 = .returning ∧
             ∃ resf0_5 : Int, ∃ resf1_5 : Int, ∃ resf2_5 : Int, ∃ resf3_5 : ByteArray, cellsAt hp_27 b_ 0 [(Value.int .i64 resf0_5), (Value.int .u64 resf1_5), (Value.int .i64 resf2_5), (Value.string resf3_5)] ∧
             ∃ res_10 : Int, cellsAt hp_27 b_1 0 [(Value.int .i64 res_10)] ∧
             ∃ res_11 : Int, cellsAt hp_27 b_2 0 [(Value.int .i64 res_11)] ∧
             R (.returned (Value.tuple #[(Value.agg #[(Value.int .i64 resf0_5), (Value.int .u64 resf1_5), (Value.int .i64 resf2_5), (Value.string resf3_5)]), (Value.int .i64 res_10), (Value.int .i64 res_11)])) hp_27)))))))) ∨
     ∃ c_5, en_1 = .panicked c_5 ∧ DefH Tryd.prog 31 #[(Value.pointer (some ⟨b_, 0, none⟩)), (Value.pointer (some ⟨b_1, 0, none⟩)), (Value.pointer (some ⟨b_2, 0, none⟩))] (.panicking c_5) hp_4 fun md_6 hp_28 =>
     settle md_6 = .returning ∧
     ∃ resf0_6 : Int, ∃ resf1_6 : Int, ∃ resf2_6 : Int, ∃ resf3_6 : ByteArray, cellsAt hp_28 b_ 0 [(Value.int .i64 resf0_6), (Value.int .u64 resf1_6), (Value.int .i64 resf2_6), (Value.string resf3_6)] ∧
     ∃ res_12 : Int, cellsAt hp_28 b_1 0 [(Value.int .i64 res_12)] ∧
     ∃ res_13 : Int, cellsAt hp_28 b_2 0 [(Value.int .i64 res_13)] ∧
     R (.returned (Value.tuple #[(Value.agg #[(Value.int .i64 resf0_6), (Value.int .u64 resf1_6), (Value.int .i64 resf2_6), (Value.string resf3_6)]), (Value.int .i64 res_12), (Value.int .i64 res_13)])) hp_28)) ∨
   ∃ c_6, en_ = .panicked c_6 ∧ DefH Tryd.prog 31 #[(Value.pointer (some ⟨b_, 0, none⟩)), (Value.pointer (some ⟨b_1, 0, none⟩)), (Value.pointer (some ⟨b_2, 0, none⟩))] (.panicking c_6) hp_3 fun md_7 hp_29 =>
   settle md_7 = .returning ∧
   ∃ resf0_7 : Int, ∃ resf1_7 : Int, ∃ resf2_7 : Int, ∃ resf3_7 : ByteArray, cellsAt hp_29 b_ 0 [(Value.int .i64 resf0_7), (Value.int .u64 resf1_7), (Value.int .i64 resf2_7), (Value.string resf3_7)] ∧
   ∃ res_14 : Int, cellsAt hp_29 b_1 0 [(Value.int .i64 res_14)] ∧
   ∃ res_15 : Int, cellsAt hp_29 b_2 0 [(Value.int .i64 res_15)] ∧
   R (.returned (Value.tuple #[(Value.agg #[(Value.int .i64 resf0_7), (Value.int .u64 resf1_7), (Value.int .i64 resf2_7), (Value.string resf3_7)]), (Value.int .i64 res_14), (Value.int .i64 res_15)])) hp_29)) :
  CallsH Tryd.prog 14 #[(Value.string s_)] h R := calls_vcD fine true Tryd.func14 (a0 := A14h) (a2 := A14) (args := [(Value.string s_)]) (by kernel_rfl) (Eq.mpr (by kernel_rfl) H)
/-- turnout/turnoutref05.Open -/
def A15 : Ann := (.seq .nil (.seq (.seq .nil (.cond (.seq .nil .nil) .nil)) (.seq (.seq .nil (.cond (.seq .nil .nil) .nil)) (.seq (.seq .nil (.cond (.seq .nil .nil) .nil)) (.seq .nil (.cut (.seq .nil (.cond (.seq .nil .nil) .nil)) [] (.seq (.seq .nil (.block (.loop [(6, (.int .i64))] (.seq (.seq .nil (.cond .nil .nil)) (.seq (.block (.seq .nil (.cond (.seq .nil .nil) .nil))) .nil))))) (.seq .nil .nil))))))))
theorem V15 (s_ : ByteArray) (h : Hp) (R : Ending → Hp → Prop) (H :
  ∀ b_ hp_, b_ = Array.size h → hp_ = Array.push h (.cells (zeros Tryd.prog 24) 24) → (∃ i z, Tryd.prog.info? 24 = some i ∧ i.zero = some z) ∧
  (((decide ((ByteArray.size s_ : Int) ≠ (512 : Int))) = true →
    List.length [(Value.int .i64 (0 : Int)), (Value.int .u64 (0 : Int)), (Value.int .i64 (0 : Int)), (Value.string (⟨#[]⟩ : ByteArray))] = 4 ∧ (∀ c ∈ [(Value.int .i64 (0 : Int)), (Value.int .u64 (0 : Int)), (Value.int .i64 (0 : Int)), (Value.string (⟨#[]⟩ : ByteArray))], c.oneCell' = true) ∧ wrAt hp_ b_ 0 4 ∧ ∀ hp_1, hp_1 = setsH hp_ b_ 0 [(Value.int .i64 (0 : Int)), (Value.int .u64 (0 : Int)), (Value.int .i64 (0 : Int)), (Value.string (⟨#[]⟩ : ByteArray))] →
    ∃ resf0_ : Int, ∃ resf1_ : Int, ∃ resf2_ : Int, ∃ resf3_ : ByteArray, cellsAt hp_1 b_ 0 [(Value.int .i64 resf0_), (Value.int .u64 resf1_), (Value.int .i64 resf2_), (Value.string resf3_)] ∧
    R (.returned (Value.tuple #[(Value.agg #[(Value.int .i64 resf0_), (Value.int .u64 resf1_), (Value.int .i64 resf2_), (Value.string resf3_)]), (Value.int .i64 (0 : Int)), (Value.int .i64 (42 : Int))])) hp_1) ∧
   ((decide ((ByteArray.size s_ : Int) ≠ (512 : Int))) = false →
    0 ≤ (0 : Int) ∧ ∃ x12_ : UInt8, s_[Int.toNat (0 : Int)]? = some x12_ ∧
    0 ≤ (511 : Int) ∧ ∃ x14_ : UInt8, s_[Int.toNat (511 : Int)]? = some x14_ ∧
    (((decide ((x12_.toNat : Int) ≠ (x14_.toNat : Int))) = true →
      List.length [(Value.int .i64 (0 : Int)), (Value.int .u64 (0 : Int)), (Value.int .i64 (0 : Int)), (Value.string (⟨#[]⟩ : ByteArray))] = 4 ∧ (∀ c ∈ [(Value.int .i64 (0 : Int)), (Value.int .u64 (0 : Int)), (Value.int .i64 (0 : Int)), (Value.string (⟨#[]⟩ : ByteArray))], c.oneCell' = true) ∧ wrAt hp_ b_ 0 4 ∧ ∀ hp_2, hp_2 = setsH hp_ b_ 0 [(Value.int .i64 (0 : Int)), (Value.int .u64 (0 : Int)), (Value.int .i64 (0 : Int)), (Value.string (⟨#[]⟩ : ByteArray))] →
      ∃ resf0_1 : Int, ∃ resf1_1 : Int, ∃ resf2_1 : Int, ∃ resf3_1 : ByteArray, cellsAt hp_2 b_ 0 [(Value.int .i64 resf0_1), (Value.int .u64 resf1_1), (Value.int .i64 resf2_1), (Value.string resf3_1)] ∧
      R (.returned (Value.tuple #[(Value.agg #[(Value.int .i64 resf0_1), (Value.int .u64 resf1_1), (Value.int .i64 resf2_1), (Value.string resf3_1)]), (Value.int .i64 (0 : Int)), (Value.int .i64 (50 : Int))])) hp_2) ∧
     ((decide ((x12_.toNat : Int) ≠ (x14_.toNat : Int))) = false →
      ∃ l_ : Nat, (507 : Int) = (l_ : Int) ∧
      ∃ u_ : Nat, (511 : Int) = (u_ : Int) ∧
      l_ ≤ u_ ∧ u_ ≤ ByteArray.size s_ ∧ ∃ x18_, ByteArray.extract s_ l_ u_ = x18_ ∧
      ∃ l_1 : Nat, (1 : Int) = (l_1 : Int) ∧
      ∃ u_1 : Nat, (507 : Int) = (u_1 : Int) ∧
      l_1 ≤ u_1 ∧ u_1 ≤ ByteArray.size s_ ∧ ∃ x20_, ByteArray.extract s_ l_1 u_1 = x20_ ∧
      CallsH Tryd.prog 30 #[(Value.string x20_)] hp_ fun en_ hp_3 =>
      ∃ x21_ : ByteArray, en_ = .returned (Value.string x21_) ∧
      (((decide (x18_ ≠ x21_)) = true →
        List.length [(Value.int .i64 (0 : Int)), (Value.int .u64 (0 : Int)), (Value.int .i64 (0 : Int)), (Value.string (⟨#[]⟩ : ByteArray))] = 4 ∧ (∀ c ∈ [(Value.int .i64 (0 : Int)), (Value.int .u64 (0 : Int)), (Value.int .i64 (0 : Int)), (Value.string (⟨#[]⟩ : ByteArray))], c.oneCell' = true) ∧ wrAt hp_3 b_ 0 4 ∧ ∀ hp_4, hp_4 = setsH hp_3 b_ 0 [(Value.int .i64 (0 : Int)), (Value.int .u64 (0 : Int)), (Value.int .i64 (0 : Int)), (Value.string (⟨#[]⟩ : ByteArray))] →
        ∃ resf0_2 : Int, ∃ resf1_2 : Int, ∃ resf2_2 : Int, ∃ resf3_2 : ByteArray, cellsAt hp_4 b_ 0 [(Value.int .i64 resf0_2), (Value.int .u64 resf1_2), (Value.int .i64 resf2_2), (Value.string resf3_2)] ∧
        R (.returned (Value.tuple #[(Value.agg #[(Value.int .i64 resf0_2), (Value.int .u64 resf1_2), (Value.int .i64 resf2_2), (Value.string resf3_2)]), (Value.int .i64 (0 : Int)), (Value.int .i64 (51 : Int))])) hp_4) ∧
       ((decide (x18_ ≠ x21_)) = false →
        ∃ l_2 : Nat, (14 : Int) = (l_2 : Int) ∧
        ∃ u_2 : Nat, (16 : Int) = (u_2 : Int) ∧
        l_2 ≤ u_2 ∧ u_2 ≤ ByteArray.size s_ ∧ ∃ x25_, ByteArray.extract s_ l_2 u_2 = x25_ ∧
        CallsH Tryd.prog 34 #[(Value.string x25_)] hp_3 fun en_1 hp_5 =>
        ∃ x26_ : Int, en_1 = .returned (Value.int .u64 x26_) ∧
        ∃ x27_, IntKind.i64.wrap x26_ = x27_ ∧
        ∃ Jv_ : List Value → Hp → Prop,
        (0 ≤ (1 : Int) ∧ ∃ x29_ : UInt8, s_[Int.toNat (1 : Int)]? = some x29_ ∧
         (((decide ((x29_.toNat : Int) = (0 : Int))) = true →
           List.length [(Value.int .i64 (0 : Int)), (Value.int .u64 (0 : Int)), (Value.int .i64 (0 : Int)), (Value.string (⟨#[]⟩ : ByteArray))] = 4 ∧ (∀ c ∈ [(Value.int .i64 (0 : Int)), (Value.int .u64 (0 : Int)), (Value.int .i64 (0 : Int)), (Value.string (⟨#[]⟩ : ByteArray))], c.oneCell' = true) ∧ wrAt hp_5 b_ 0 4 ∧ ∀ hp_6, hp_6 = setsH hp_5 b_ 0 [(Value.int .i64 (0 : Int)), (Value.int .u64 (0 : Int)), (Value.int .i64 (0 : Int)), (Value.string (⟨#[]⟩ : ByteArray))] →
           ∃ resf0_3 : Int, ∃ resf1_3 : Int, ∃ resf2_3 : Int, ∃ resf3_3 : ByteArray, cellsAt hp_6 b_ 0 [(Value.int .i64 resf0_3), (Value.int .u64 resf1_3), (Value.int .i64 resf2_3), (Value.string resf3_3)] ∧
           R (.returned (Value.tuple #[(Value.agg #[(Value.int .i64 resf0_3), (Value.int .u64 resf1_3), (Value.int .i64 resf2_3), (Value.string resf3_3)]), (Value.int .i64 (0 : Int)), (Value.int .i64 (52 : Int))])) hp_6) ∧
          ((decide ((x29_.toNat : Int) = (0 : Int))) = false →
           ∃ l_3 : Nat, (10 : Int) = (l_3 : Int) ∧
           ∃ u_3 : Nat, (14 : Int) = (u_3 : Int) ∧
           l_3 ≤ u_3 ∧ u_3 ≤ ByteArray.size s_ ∧ ∃ x33_, ByteArray.extract s_ l_3 u_3 = x33_ ∧
           CallsH Tryd.prog 34 #[(Value.string x33_)] hp_5 fun en_2 hp_7 =>
           ∃ x34_ : Int, en_2 = .returned (Value.int .u64 x34_) ∧
           (((decide ((2147483647 : Int) < x34_)) = true →
             List.length [(Value.int .i64 (0 : Int)), (Value.int .u64 (0 : Int)), (Value.int .i64 (0 : Int)), (Value.string (⟨#[]⟩ : ByteArray))] = 4 ∧ (∀ c ∈ [(Value.int .i64 (0 : Int)), (Value.int .u64 (0 : Int)), (Value.int .i64 (0 : Int)), (Value.string (⟨#[]⟩ : ByteArray))], c.oneCell' = true) ∧ wrAt hp_7 b_ 0 4 ∧ ∀ hp_8, hp_8 = setsH hp_7 b_ 0 [(Value.int .i64 (0 : Int)), (Value.int .u64 (0 : Int)), (Value.int .i64 (0 : Int)), (Value.string (⟨#[]⟩ : ByteArray))] →
             ∃ resf0_4 : Int, ∃ resf1_4 : Int, ∃ resf2_4 : Int, ∃ resf3_4 : ByteArray, cellsAt hp_8 b_ 0 [(Value.int .i64 resf0_4), (Value.int .u64 resf1_4), (Value.int .i64 resf2_4), (Value.string resf3_4)] ∧
             R (.returned (Value.tuple #[(Value.agg #[(Value.int .i64 resf0_4), (Value.int .u64 resf1_4), (Value.int .i64 resf2_4), (Value.string resf3_4)]), (Value.int .i64 (0 : Int)), (Value.int .i64 (52 : Int))])) hp_8) ∧
            ((decide ((2147483647 : Int) < x34_)) = false →
             (((decide ((491 : Int) < x27_)) = true →
               List.length [(Value.int .i64 (0 : Int)), (Value.int .u64 (0 : Int)), (Value.int .i64 (0 : Int)), (Value.string (⟨#[]⟩ : ByteArray))] = 4 ∧ (∀ c ∈ [(Value.int .i64 (0 : Int)), (Value.int .u64 (0 : Int)), (Value.int .i64 (0 : Int)), (Value.string (⟨#[]⟩ : ByteArray))], c.oneCell' = true) ∧ wrAt hp_7 b_ 0 4 ∧ ∀ hp_9, hp_9 = setsH hp_7 b_ 0 [(Value.int .i64 (0 : Int)), (Value.int .u64 (0 : Int)), (Value.int .i64 (0 : Int)), (Value.string (⟨#[]⟩ : ByteArray))] →
               ∃ resf0_5 : Int, ∃ resf1_5 : Int, ∃ resf2_5 : Int, ∃ resf3_5 : ByteArray, cellsAt hp_9 b_ 0 [(Value.int .i64 resf0_5), (Value.int .u64 resf1_5), (Value.int .i64 resf2_5), (Value.string resf3_5)] ∧
               R (.returned (Value.tuple #[(Value.agg #[(Value.int .i64 resf0_5), (Value.int .u64 resf1_5), (Value.int .i64 resf2_5), (Value.string resf3_5)]), (Value.int .i64 (0 : Int)), (Value.int .i64 (52 : Int))])) hp_9) ∧
              ((decide ((491 : Int) < x27_)) = false →
               Jv_ [] hp_7))))))) ∧
        (∀  hp_10, Jv_ [] hp_10 →
         ∃ x43_, IntKind.i64.wrap ((16 : Int) + x27_) = x43_ ∧
         ∃ (Iv_ : List Value → Hp → Prop) (m_ : List Value → Hp → Nat), Iv_ [(Value.int .i64 x43_)] hp_10 ∧
         (∀ (i_ : Int) hp_11, Iv_ [(Value.int .i64 i_)] hp_11 →
          (((decide (i_ < (507 : Int))) = true →
            0 ≤ i_ ∧ ∃ x50_ : UInt8, s_[Int.toNat i_]? = some x50_ ∧
            (((decide ((x50_.toNat : Int) ≠ (0 : Int))) = true →
              List.length [(Value.int .i64 (0 : Int)), (Value.int .u64 (0 : Int)), (Value.int .i64 (0 : Int)), (Value.string (⟨#[]⟩ : ByteArray))] = 4 ∧ (∀ c ∈ [(Value.int .i64 (0 : Int)), (Value.int .u64 (0 : Int)), (Value.int .i64 (0 : Int)), (Value.string (⟨#[]⟩ : ByteArray))], c.oneCell' = true) ∧ wrAt hp_11 b_ 0 4 ∧ ∀ hp_12, hp_12 = setsH hp_11 b_ 0 [(Value.int .i64 (0 : Int)), (Value.int .u64 (0 : Int)), (Value.int .i64 (0 : Int)), (Value.string (⟨#[]⟩ : ByteArray))] →
              ∃ resf0_6 : Int, ∃ resf1_6 : Int, ∃ resf2_6 : Int, ∃ resf3_6 : ByteArray, cellsAt hp_12 b_ 0 [(Value.int .i64 resf0_6), (Value.int .u64 resf1_6), (Value.int .i64 resf2_6), (Value.string resf3_6)] ∧
              R (.returned (Value.tuple #[(Value.agg #[(Value.int .i64 resf0_6), (Value.int .u64 resf1_6), (Value.int .i64 resf2_6), (Value.string resf3_6)]), (Value.int .i64 (0 : Int)), (Value.int .i64 (52 : Int))])) hp_12) ∧
             ((decide ((x50_.toNat : Int) ≠ (0 : Int))) = false →
              ∃ x47_, IntKind.i64.wrap (i_ + (1 : Int)) = x47_ ∧
              (Iv_ [(Value.int .i64 x47_)] hp_11 ∧ m_ [(Value.int .i64 x47_)] hp_11 < m_ [(Value.int .i64 i_)] hp_11)))) ∧
           ((decide (i_ < (507 : Int))) = false →
            0 ≤ (1 : Int) ∧ ∃ x54_ : UInt8, s_[Int.toNat (1 : Int)]? = some x54_ ∧
            ∃ x55_, IntKind.i64.wrap (x54_.toNat : Int) = x55_ ∧
            ∃ l_4 : Nat, (2 : Int) = (l_4 : Int) ∧
            ∃ u_4 : Nat, (10 : Int) = (u_4 : Int) ∧
            l_4 ≤ u_4 ∧ u_4 ≤ ByteArray.size s_ ∧ ∃ x57_, ByteArray.extract s_ l_4 u_4 = x57_ ∧
            CallsH Tryd.prog 34 #[(Value.string x57_)] hp_11 fun en_3 hp_13 =>
            ∃ x58_ : Int, en_3 = .returned (Value.int .u64 x58_) ∧
            ∃ l_5 : Nat, (10 : Int) = (l_5 : Int) ∧
            ∃ u_5 : Nat, (14 : Int) = (u_5 : Int) ∧
            l_5 ≤ u_5 ∧ u_5 ≤ ByteArray.size s_ ∧ ∃ x60_, ByteArray.extract s_ l_5 u_5 = x60_ ∧
            CallsH Tryd.prog 34 #[(Value.string x60_)] hp_13 fun en_4 hp_14 =>
            ∃ x61_ : Int, en_4 = .returned (Value.int .u64 x61_) ∧
            ∃ x62_, IntKind.i64.wrap x61_ = x62_ ∧
            ∃ x65_, IntKind.i64.wrap ((16 : Int) + x27_) = x65_ ∧
            ∃ l_6 : Nat, (16 : Int) = (l_6 : Int) ∧
            ∃ u_6 : Nat, x65_ = (u_6 : Int) ∧
            l_6 ≤ u_6 ∧ u_6 ≤ ByteArray.size s_ ∧ ∃ x66_, ByteArray.extract s_ l_6 u_6 = x66_ ∧
            0 ≤ (0 : Int) ∧ ∃ x69_ : UInt8, s_[Int.toNat (0 : Int)]? = some x69_ ∧
            ∃ x70_, IntKind.i64.wrap (x69_.toNat : Int) = x70_ ∧
            List.length [(Value.int .i64 x55_), (Value.int .u64 x58_), (Value.int .i64 x62_), (Value.string x66_)] = 4 ∧ (∀ c ∈ [(Value.int .i64 x55_), (Value.int .u64 x58_), (Value.int .i64 x62_), (Value.string x66_)], c.oneCell' = true) ∧ wrAt hp_14 b_ 0 4 ∧ ∀ hp_15, hp_15 = setsH hp_14 b_ 0 [(Value.int .i64 x55_), (Value.int .u64 x58_), (Value.int .i64 x62_), (Value.string x66_)] →
            ∃ resf0_7 : Int, ∃ resf1_7 : Int, ∃ resf2_7 : Int, ∃ resf3_7 : ByteArray, cellsAt hp_15 b_ 0 [(Value.int .i64 resf0_7), (Value.int .u64 resf1_7), (Value.int .i64 resf2_7), (Value.string resf3_7)] ∧
            R (.returned (Value.tuple #[(Value.agg #[(Value.int .i64 resf0_7), (Value.int .u64 resf1_7), (Value.int .i64 resf2_7), (Value.string resf3_7)]), (Value.int .i64 x70_), (Value.int .i64 (0 : Int))])) hp_15))))))))))) :
  CallsH Tryd.prog 15 #[(Value.string s_)] h R := calls_vc fine false Tryd.func15 (ann := A15) (args := [(Value.string s_)]) (by kernel_rfl) (Eq.mpr (by kernel_rfl) H)
/-- turnout/turnoutlaw05.right -/
def A16 : Ann := (.seq .nil (.seq (.orders 12 [[0, 1, 2, 3, 4, 5, 6, 7, 8, 9, 10, 11, 12, 13], [0, 1, 12, 2, 3, 4, 5, 6, 7, 8, 9, 10, 11, 13], [0, 1, 2, 3, 4, 5, 6, 7, 12, 8, 9, 10, 11, 13]] [1, 5, 7, 10]) (.seq (.seq .nil (.cond .nil .nil)) (.seq .nil .nil))))
theorem V16 (ff0_ : Int) (ff1_ : Int) (ff2_ : Int) (ff3_ : ByteArray) (h : Hp) (R : Ending → Hp → Prop) (H :
  ∀ b_ hp_, b_ = Array.size h → hp_ = Array.push h (.cells #[(Value.int .i64 ff0_), (Value.int .u64 ff1_), (Value.int .i64 ff2_), (Value.string ff3_)] 24) →
  ∀ b_1 hp_1, b_1 = Array.size hp_ → hp_1 = Array.push hp_ (.cells (zeros Tryd.prog 24) 24) → (∃ i z, Tryd.prog.info? 24 = some i ∧ i.zero = some z) ∧
  (∃ Cv_ : Hp → Prop, Cv_ hp_1 ∧
   ∃ x5_ : Int, (∀ h', Cv_ h' → cellsAt h' b_ (0 + 0) [(Value.int .i64 x5_)]) ∧
   CallsH Tryd.prog 17 #[(Value.int .i64 x5_), (Value.int .i64 (255 : Int))] hp_1 fun en_ hp_2 =>
   ∃ x6_ : Int, en_ = .returned (Value.int .i64 x6_) ∧
   Cv_ hp_2 ∧
   ∃ x7_, IntKind.i64.wrap ((1 : Int) + x6_) = x7_ ∧
   ∃ x9_ : Int, (∀ h', Cv_ h' → cellsAt h' b_ (0 + 1) [(Value.int .u64 x9_)]) ∧
   ∃ x11_ : Int, (∀ h', Cv_ h' → cellsAt h' b_ (0 + 2) [(Value.int .i64 x11_)]) ∧
   CallsH Tryd.prog 17 #[(Value.int .i64 x11_), (Value.int .i64 (2147483647 : Int))] hp_2 fun en_1 hp_3 =>
   ∃ x12_ : Int, en_1 = .returned (Value.int .i64 x12_) ∧
   Cv_ hp_3 ∧
   ∃ x14_ : ByteArray, (∀ h', Cv_ h' → cellsAt h' b_ (0 + 3) [(Value.string x14_)]) ∧
   ∀ b_2 hp_4, b_2 = Array.size hp_3 → hp_4 = Array.push hp_3 (.cells (zeros Tryd.prog 24) 24) → (∃ i z, Tryd.prog.info? 24 = some i ∧ i.zero = some z) ∧
   Cv_ hp_4 ∧
   List.length [(Value.int .i64 x7_), (Value.int .u64 x9_), (Value.int .i64 x12_), (Value.string x14_)] = 4 ∧ (∀ c ∈ [(Value.int .i64 x7_), (Value.int .u64 x9_), (Value.int .i64 x12_), (Value.string x14_)], c.oneCell' = true) ∧ wrAt hp_4 b_2 0 4 ∧ ∀ hp_5, hp_5 = setsH hp_4 b_2 0 [(Value.int .i64 x7_), (Value.int .u64 x9_), (Value.int .i64 x12_), (Value.string x14_)] →
   Cv_ hp_5 ∧
   ∃ x17_ : ByteArray, cellsAt hp_5 b_2 (0 + 3) [(Value.string x17_)] ∧
   (((decide ((491 : Int) < (ByteArray.size x17_ : Int))) = true →
     ∃ x21_ : ByteArray, cellsAt hp_5 b_2 (0 + 3) [(Value.string x21_)] ∧
     ∃ u_ : Nat, (491 : Int) = (u_ : Int) ∧
     0 ≤ u_ ∧ u_ ≤ ByteArray.size x21_ ∧ ∃ x22_, ByteArray.extract x21_ 0 u_ = x22_ ∧
     Value.oneCell' (Value.string x22_) = true ∧ wrAt hp_5 b_2 (0 + 3) 1 ∧ ∀ hp_6, hp_6 = setsH hp_5 b_2 (0 + 3) [(Value.string x22_)] →
     ∃ x24f0_ : Int, ∃ x24f1_ : Int, ∃ x24f2_ : Int, ∃ x24f3_ : ByteArray, cellsAt hp_6 b_2 0 [(Value.int .i64 x24f0_), (Value.int .u64 x24f1_), (Value.int .i64 x24f2_), (Value.string x24f3_)] ∧
     List.length [(Value.int .i64 x24f0_), (Value.int .u64 x24f1_), (Value.int .i64 x24f2_), (Value.string x24f3_)] = 4 ∧ (∀ c ∈ [(Value.int .i64 x24f0_), (Value.int .u64 x24f1_), (Value.int .i64 x24f2_), (Value.string x24f3_)], c.oneCell' = true) ∧ wrAt hp_6 b_1 0 4 ∧ ∀ hp_7, hp_7 = setsH hp_6 b_1 0 [(Value.int .i64 x24f0_), (Value.int .u64 x24f1_), (Value.int .i64 x24f2_), (Value.string x24f3_)] →
     ∃ resf0_ : Int, ∃ resf1_ : Int, ∃ resf2_ : Int, ∃ resf3_ : ByteArray, cellsAt hp_7 b_1 0 [(Value.int .i64 resf0_), (Value.int .u64 resf1_), (Value.int .i64 resf2_), (Value.string resf3_)] ∧
     R (.returned (Value.agg #[(Value.int .i64 resf0_), (Value.int .u64 resf1_), (Value.int .i64 resf2_), (Value.string resf3_)])) hp_7) ∧
    ((decide ((491 : Int) < (ByteArray.size x17_ : Int))) = false →
     ∃ x24f0_1 : Int, ∃ x24f1_1 : Int, ∃ x24f2_1 : Int, ∃ x24f3_1 : ByteArray, cellsAt hp_5 b_2 0 [(Value.int .i64 x24f0_1), (Value.int .u64 x24f1_1), (Value.int .i64 x24f2_1), (Value.string x24f3_1)] ∧
     List.length [(Value.int .i64 x24f0_1), (Value.int .u64 x24f1_1), (Value.int .i64 x24f2_1), (Value.string x24f3_1)] = 4 ∧ (∀ c ∈ [(Value.int .i64 x24f0_1), (Value.int .u64 x24f1_1), (Value.int .i64 x24f2_1), (Value.string x24f3_1)], c.oneCell' = true) ∧ wrAt hp_5 b_1 0 4 ∧ ∀ hp_8, hp_8 = setsH hp_5 b_1 0 [(Value.int .i64 x24f0_1), (Value.int .u64 x24f1_1), (Value.int .i64 x24f2_1), (Value.string x24f3_1)] →
     ∃ resf0_1 : Int, ∃ resf1_1 : Int, ∃ resf2_1 : Int, ∃ resf3_1 : ByteArray, cellsAt hp_8 b_1 0 [(Value.int .i64 resf0_1), (Value.int .u64 resf1_1), (Value.int .i64 resf2_1), (Value.string resf3_1)] ∧
     R (.returned (Value.agg #[(Value.int .i64 resf0_1), (Value.int .u64 resf1_1), (Value.int .i64 resf2_1), (Value.string resf3_1)])) hp_8))) ∧
  (∃ Cv_1 : Hp → Prop, Cv_1 hp_1 ∧
   ∃ x5_1 : Int, (∀ h', Cv_1 h' → cellsAt h' b_ (0 + 0) [(Value.int .i64 x5_1)]) ∧
   ∀ b_3 hp_9, b_3 = Array.size hp_1 → hp_9 = Array.push hp_1 (.cells (zeros Tryd.prog 24) 24) → (∃ i z, Tryd.prog.info? 24 = some i ∧ i.zero = some z) ∧
   Cv_1 hp_9 ∧
   CallsH Tryd.prog 17 #[(Value.int .i64 x5_1), (Value.int .i64 (255 : Int))] hp_9 fun en_2 hp_10 =>
   ∃ x6_1 : Int, en_2 = .returned (Value.int .i64 x6_1) ∧
   Cv_1 hp_10 ∧
   ∃ x7_1, IntKind.i64.wrap ((1 : Int) + x6_1) = x7_1 ∧
   ∃ x9_1 : Int, (∀ h', Cv_1 h' → cellsAt h' b_ (0 + 1) [(Value.int .u64 x9_1)]) ∧
   ∃ x11_1 : Int, (∀ h', Cv_1 h' → cellsAt h' b_ (0 + 2) [(Value.int .i64 x11_1)]) ∧
   CallsH Tryd.prog 17 #[(Value.int .i64 x11_1), (Value.int .i64 (2147483647 : Int))] hp_10 fun en_3 hp_11 =>
   ∃ x12_1 : Int, en_3 = .returned (Value.int .i64 x12_1) ∧
   Cv_1 hp_11 ∧
   ∃ x14_1 : ByteArray, (∀ h', Cv_1 h' → cellsAt h' b_ (0 + 3) [(Value.string x14_1)]) ∧
   List.length [(Value.int .i64 x7_1), (Value.int .u64 x9_1), (Value.int .i64 x12_1), (Value.string x14_1)] = 4 ∧ (∀ c ∈ [(Value.int .i64 x7_1), (Value.int .u64 x9_1), (Value.int .i64 x12_1), (Value.string x14_1)], c.oneCell' = true) ∧ wrAt hp_11 b_3 0 4 ∧ ∀ hp_12, hp_12 = setsH hp_11 b_3 0 [(Value.int .i64 x7_1), (Value.int .u64 x9_1), (Value.int .i64 x12_1), (Value.string x14_1)] →
   Cv_1 hp_12 ∧
   ∃ x17_1 : ByteArray, cellsAt hp_12 b_3 (0 + 3) [(Value.string x17_1)] ∧
   (((decide ((491 : Int) < (ByteArray.size x17_1 : Int))) = true →
     ∃ x21_1 : ByteArray, cellsAt hp_12 b_3 (0 + 3) [(Value.string x21_1)] ∧
     ∃ u_1 : Nat, (491 : Int) = (u_1 : Int) ∧
     0 ≤ u_1 ∧ u_1 ≤ ByteArray.size x21_1 ∧ ∃ x22_1, ByteArray.extract x21_1 0 u_1 = x22_1 ∧
     Value.oneCell' (Value.string x22_1) = true ∧ wrAt hp_12 b_3 (0 + 3) 1 ∧ ∀ hp_13, hp_13 = setsH hp_12 b_3 (0 + 3) [(Value.string x22_1)] →
     ∃ x24f0_2 : Int, ∃ x24f1_2 : Int, ∃ x24f2_2 : Int, ∃ x24f3_2 : ByteArray, cellsAt hp_13 b_3 0 [(Value.int .i64 x24f0_2), (Value.int .u64 x24f1_2), (Value.int .i64 x24f2_2), (Value.string x24f3_2)] ∧
     List.length [(Value.int .i64 x24f0_2), (Value.int .u64 x24f1_2), (Value.int .i64 x24f2_2), (Value.string x24f3_2)] = 4 ∧ (∀ c ∈ [(Value.int .i64 x24f0_2), (Value.int .u64 x24f1_2), (Value.int .i64 x24f2_2), (Value.string x24f3_2)], c.oneCell' = true) ∧ wrAt hp_13 b_1 0 4 ∧ ∀ hp_14, hp_14 = setsH hp_13 b_1 0 [(Value.int .i64 x24f0_2), (Value.int .u64 x24f1_2), (Value.int .i64 x24f2_2), (Value.string x24f3_2)] →
     ∃ resf0_2 : Int, ∃ resf1_2 : Int, ∃ resf2_2 : Int, ∃ resf3_2 : ByteArray, cellsAt hp_14 b_1 0 [(Value.int .i64 resf0_2), (Value.int .u64 resf1_2), (Value.int .i64 resf2_2), (Value.string resf3_2)] ∧
     R (.returned (Value.agg #[(Value.int .i64 resf0_2), (Value.int .u64 resf1_2), (Value.int .i64 resf2_2), (Value.string resf3_2)])) hp_14) ∧
    ((decide ((491 : Int) < (ByteArray.size x17_1 : Int))) = false →
     ∃ x24f0_3 : Int, ∃ x24f1_3 : Int, ∃ x24f2_3 : Int, ∃ x24f3_3 : ByteArray, cellsAt hp_12 b_3 0 [(Value.int .i64 x24f0_3), (Value.int .u64 x24f1_3), (Value.int .i64 x24f2_3), (Value.string x24f3_3)] ∧
     List.length [(Value.int .i64 x24f0_3), (Value.int .u64 x24f1_3), (Value.int .i64 x24f2_3), (Value.string x24f3_3)] = 4 ∧ (∀ c ∈ [(Value.int .i64 x24f0_3), (Value.int .u64 x24f1_3), (Value.int .i64 x24f2_3), (Value.string x24f3_3)], c.oneCell' = true) ∧ wrAt hp_12 b_1 0 4 ∧ ∀ hp_15, hp_15 = setsH hp_12 b_1 0 [(Value.int .i64 x24f0_3), (Value.int .u64 x24f1_3), (Value.int .i64 x24f2_3), (Value.string x24f3_3)] →
     ∃ resf0_3 : Int, ∃ resf1_3 : Int, ∃ resf2_3 : Int, ∃ resf3_3 : ByteArray, cellsAt hp_15 b_1 0 [(Value.int .i64 resf0_3), (Value.int .u64 resf1_3), (Value.int .i64 resf2_3), (Value.string resf3_3)] ∧
     R (.returned (Value.agg #[(Value.int .i64 resf0_3), (Value.int .u64 resf1_3), (Value.int .i64 resf2_3), (Value.string resf3_3)])) hp_15))) ∧
  (∃ Cv_2 : Hp → Prop, Cv_2 hp_1 ∧
   ∃ x5_2 : Int, (∀ h', Cv_2 h' → cellsAt h' b_ (0 + 0) [(Value.int .i64 x5_2)]) ∧
   CallsH Tryd.prog 17 #[(Value.int .i64 x5_2), (Value.int .i64 (255 : Int))] hp_1 fun en_4 hp_16 =>
   ∃ x6_2 : Int, en_4 = .returned (Value.int .i64 x6_2) ∧
   Cv_2 hp_16 ∧
   ∃ x7_2, IntKind.i64.wrap ((1 : Int) + x6_2) = x7_2 ∧
   ∃ x9_2 : Int, (∀ h', Cv_2 h' → cellsAt h' b_ (0 + 1) [(Value.int .u64 x9_2)]) ∧
   ∃ x11_2 : Int, (∀ h', Cv_2 h' → cellsAt h' b_ (0 + 2) [(Value.int .i64 x11_2)]) ∧
   ∀ b_4 hp_17, b_4 = Array.size hp_16 → hp_17 = Array.push hp_16 (.cells (zeros Tryd.prog 24) 24) → (∃ i z, Tryd.prog.info? 24 = some i ∧ i.zero = some z) ∧
   Cv_2 hp_17 ∧
   CallsH Tryd.prog 17 #[(Value.int .i64 x11_2), (Value.int .i64 (2147483647 : Int))] hp_17 fun en_5 hp_18 =>
   ∃ x12_2 : Int, en_5 = .returned (Value.int .i64 x12_2) ∧
   Cv_2 hp_18 ∧
   ∃ x14_2 : ByteArray, (∀ h', Cv_2 h' → cellsAt h' b_ (0 + 3) [(Value.string x14_2)]) ∧
   List.length [(Value.int .i64 x7_2), (Value.int .u64 x9_2), (Value.int .i64 x12_2), (Value.string x14_2)] = 4 ∧ (∀ c ∈ [(Value.int .i64 x7_2), (Value.int .u64 x9_2), (Value.int .i64 x12_2), (Value.string x14_2)], c.oneCell' = true) ∧ wrAt hp_18 b_4 0 4 ∧ ∀ hp_19, hp_19 = setsH hp_18 b_4 0 [(Value.int .i64 x7_2), (Value.int .u64 x9_2), (Value.int .i64 x12_2), (Value.string x14_2)] →
   Cv_2 hp_19 ∧
   ∃ x17_2 : ByteArray, cellsAt hp_19 b_4 (0 + 3) [(Value.string x17_2)] ∧
   (((decide ((491 : Int) < (ByteArray.size x17_2 : Int))) = true →
     ∃ x21_2 : ByteArray, cellsAt hp_19 b_4 (0 + 3) [(Value.string x21_2)] ∧
     ∃ u_2 : Nat, (491 : Int) = (u_2 : Int) ∧
     0 ≤ u_2 ∧ u_2 ≤ ByteArray.size x21_2 ∧ ∃ x22_2, ByteArray.extract x21_2 0 u_2 = x22_2 ∧
     Value.oneCell' (Value.string x22_2) = true ∧ wrAt hp_19 b_4 (0 + 3) 1 ∧ ∀ hp_20, hp_20 = setsH hp_19 b_4 (0 + 3) [(Value.string x22_2)] →
     ∃ x24f0_4 : Int, ∃ x24f1_4 : Int, ∃ x24f2_4 : Int, ∃ x24f3_4 : ByteArray, cellsAt hp_20 b_4 0 [(Value.int .i64 x24f0_4), (Value.int .u64 x24f1_4), (Value.int .i64 x24f2_4), (Value.string x24f3_4)] ∧
     List.length [(Value.int .i64 x24f0_4), (Value.int .u64 x24f1_4), (Value.int .i64 x24f2_4), (Value.string x24f3_4)] = 4 ∧ (∀ c ∈ [(Value.int .i64 x24f0_4), (Value.int .u64 x24f1_4), (Value.int .i64 x24f2_4), (Value.string x24f3_4)], c.oneCell' = true) ∧ wrAt hp_20 b_1 0 4 ∧ ∀ hp_21, hp_21 = setsH hp_20 b_1 0 [(Value.int .i64 x24f0_4), (Value.int .u64 x24f1_4), (Value.int .i64 x24f2_4), (Value.string x24f3_4)] →
     ∃ resf0_4 : Int, ∃ resf1_4 : Int, ∃ resf2_4 : Int, ∃ resf3_4 : ByteArray, cellsAt hp_21 b_1 0 [(Value.int .i64 resf0_4), (Value.int .u64 resf1_4), (Value.int .i64 resf2_4), (Value.string resf3_4)] ∧
     R (.returned (Value.agg #[(Value.int .i64 resf0_4), (Value.int .u64 resf1_4), (Value.int .i64 resf2_4), (Value.string resf3_4)])) hp_21) ∧
    ((decide ((491 : Int) < (ByteArray.size x17_2 : Int))) = false →
     ∃ x24f0_5 : Int, ∃ x24f1_5 : Int, ∃ x24f2_5 : Int, ∃ x24f3_5 : ByteArray, cellsAt hp_19 b_4 0 [(Value.int .i64 x24f0_5), (Value.int .u64 x24f1_5), (Value.int .i64 x24f2_5), (Value.string x24f3_5)] ∧
     List.length [(Value.int .i64 x24f0_5), (Value.int .u64 x24f1_5), (Value.int .i64 x24f2_5), (Value.string x24f3_5)] = 4 ∧ (∀ c ∈ [(Value.int .i64 x24f0_5), (Value.int .u64 x24f1_5), (Value.int .i64 x24f2_5), (Value.string x24f3_5)], c.oneCell' = true) ∧ wrAt hp_19 b_1 0 4 ∧ ∀ hp_22, hp_22 = setsH hp_19 b_1 0 [(Value.int .i64 x24f0_5), (Value.int .u64 x24f1_5), (Value.int .i64 x24f2_5), (Value.string x24f3_5)] →
     ∃ resf0_5 : Int, ∃ resf1_5 : Int, ∃ resf2_5 : Int, ∃ resf3_5 : ByteArray, cellsAt hp_22 b_1 0 [(Value.int .i64 resf0_5), (Value.int .u64 resf1_5), (Value.int .i64 resf2_5), (Value.string resf3_5)] ∧
     R (.returned (Value.agg #[(Value.int .i64 resf0_5), (Value.int .u64 resf1_5), (Value.int .i64 resf2_5), (Value.string resf3_5)])) hp_22)))) :
  CallsH Tryd.prog 16 #[(Value.agg #[(Value.int .i64 ff0_), (Value.int .u64 ff1_), (Value.int .i64 ff2_), (Value.string ff3_)])] h R := calls_vc fine false Tryd.func16 (ann := A16) (args := [(Value.agg #[(Value.int .i64 ff0_), (Value.int .u64 ff1_), (Value.int .i64 ff2_), (Value.string ff3_)])]) (by kernel_rfl) (Eq.mpr (by kernel_rfl) H)
/-- turnout/turnoutlaw05.pick -/
def A17 : Ann := (.seq .nil (.seq (.seq .nil (.cond .nil .nil)) (.seq .nil .nil)))
theorem V17 (c_ : Int) (n_ : Int) (h : Hp) (R : Ending → Hp → Prop) (H :
  (((decide (c_ < (0 : Int))) = true →
    ∃ x8_, IntKind.i64.wrap (c_ + (1 : Int)) = x8_ ∧
    ∃ x9_, IntKind.i64.wrap (0 - x8_) = x9_ ∧
    n_ ≠ 0 ∧ ∃ x12_, Int.tmod x9_ n_ = x12_ ∧
    R (.returned (Value.int .i64 x12_)) h) ∧
   ((decide (c_ < (0 : Int))) = false →
    n_ ≠ 0 ∧ ∃ x12_1, Int.tmod c_ n_ = x12_1 ∧
    R (.returned (Value.int .i64 x12_1)) h))) :
  CallsH Tryd.prog 17 #[(Value.int .i64 c_), (Value.int .i64 n_)] h R := calls_vc fine false Tryd.func17 (ann := A17) (args := [(Value.int .i64 c_), (Value.int .i64 n_)]) (by kernel_rfl) (Eq.mpr (by kernel_rfl) H)
/-- turnout/frame.Put -/
def A18 : Ann := (.seq .nil (.seq (.seq .nil (.cond (.seq .nil .nil) .nil)) (.seq (.seq .nil (.seq .nil (.cond (.seq .nil .nil) .nil))) (.seq .nil (.seq (.seq .nil (.cond (.seq .nil .nil) .nil)) (.seq .nil (.seq (.seq .nil (.cond (.seq .nil .nil) .nil)) (.seq .nil .nil))))))))
theorem V18 (d_ : Option Addr) (atv_ : Int) (ff0_ : Int) (ff1_ : Int) (ff2_ : Int) (ff3_ : ByteArray) (h : Hp) (R : Ending → Hp → Prop) (H :
  ∀ b_ hp_, b_ = Array.size h → hp_ = Array.push h (.cells #[(Value.int .i64 ff0_), (Value.int .u64 ff1_), (Value.int .i64 ff2_), (Value.string ff3_)] 24) →
  ∃ x12_, EqV Tryd.prog 45 (Value.pointer d_) (Value.pointer none) x12_ ∧
  ((x12_ = true →
    R (.returned (Value.int .i64 (1 : Int))) hp_) ∧
   (x12_ = false →
    ∃ x13f0_ : Int, ∃ x13f1_ : Int, ∃ x13f2_ : Int, ∃ x13f3_ : ByteArray, cellsAt hp_ b_ 0 [(Value.int .i64 x13f0_), (Value.int .u64 x13f1_), (Value.int .i64 x13f2_), (Value.string x13f3_)] ∧
    CallsH Tryd.prog 25 #[(Value.agg #[(Value.int .i64 x13f0_), (Value.int .u64 x13f1_), (Value.int .i64 x13f2_), (Value.string x13f3_)])] hp_ fun en_ hp_1 =>
    ∃ x14_ : Int, en_ = .returned (Value.int .i64 x14_) ∧
    (((decide (x14_ ≠ (0 : Int))) = true →
      R (.returned (Value.int .i64 x14_)) hp_1) ∧
     ((decide (x14_ ≠ (0 : Int))) = false →
      CallsH Tryd.prog 35 #[(Value.pointer d_), (Value.int .i64 atv_)] hp_1 fun en_1 hp_2 =>
      ∃ x21r0_ : ByteArray, ∃ x21r1_ : Int, en_1 = .returned (Value.tuple #[(Value.string x21r0_), (Value.int .i64 x21r1_)]) ∧
      (((decide (x21r1_ ≠ (0 : Int))) = true →
        R (.returned (Value.int .i64 x21r1_)) hp_2) ∧
       ((decide (x21r1_ ≠ (0 : Int))) = false →
        ∃ x28f0_ : Int, ∃ x28f1_ : Int, ∃ x28f2_ : Int, ∃ x28f3_ : ByteArray, cellsAt hp_2 b_ 0 [(Value.int .i64 x28f0_), (Value.int .u64 x28f1_), (Value.int .i64 x28f2_), (Value.string x28f3_)] ∧
        0 ≤ (511 : Int) ∧ ∃ x30_ : UInt8, x21r0_[Int.toNat (511 : Int)]? = some x30_ ∧
        ∃ x31_, IntKind.u8.wrap ((x30_.toNat : Int) + (1 : Int)) = x31_ ∧
        ∃ x32_, IntKind.i64.wrap x31_ = x32_ ∧
        ∃ x33_, andI .i64 x32_ (255 : Int) = x33_ ∧
        CallsH Tryd.prog 12 #[(Value.agg #[(Value.int .i64 x28f0_), (Value.int .u64 x28f1_), (Value.int .i64 x28f2_), (Value.string x28f3_)]), (Value.int .i64 x33_)] hp_2 fun en_2 hp_3 =>
        ∃ x34r0_ : ByteArray, ∃ x34r1_ : Int, en_2 = .returned (Value.tuple #[(Value.string x34r0_), (Value.int .i64 x34r1_)]) ∧
        (((decide (x34r1_ ≠ (0 : Int))) = true →
          R (.returned (Value.int .i64 x34r1_)) hp_3) ∧
         ((decide (x34r1_ ≠ (0 : Int))) = false →
          CallsH Tryd.prog 36 #[(Value.pointer d_), (Value.int .i64 atv_), (Value.string x34r0_)] hp_3 fun en_3 hp_4 =>
          ∃ x43_ : Int, en_3 = .returned (Value.int .i64 x43_) ∧
          R (.returned (Value.int .i64 x43_)) hp_4))))))))) :
  CallsH Tryd.prog 18 #[(Value.pointer d_), (Value.int .i64 atv_), (Value.agg #[(Value.int .i64 ff0_), (Value.int .u64 ff1_), (Value.int .i64 ff2_), (Value.string ff3_)])] h R := calls_vc fine false Tryd.func18 (ann := A18) (args := [(Value.pointer d_), (Value.int .i64 atv_), (Value.agg #[(Value.int .i64 ff0_), (Value.int .u64 ff1_), (Value.int .i64 ff2_), (Value.string ff3_)])]) (by kernel_rfl) (Eq.mpr (by kernel_rfl) H)
/-- turnout/frame.Get -/
def A19 : Ann := (.seq .nil (.seq .nil (.seq (.seq .nil (.cond (.seq .nil .nil) .nil)) (.seq .nil (.seq .nil .nil)))))
theorem V19 (d_ : Option Addr) (atv_ : Int) (h : Hp) (R : Ending → Hp → Prop) (H :
  ∀ b_ hp_, b_ = Array.size h → hp_ = Array.push h (.cells (zeros Tryd.prog 24) 24) → (∃ i z, Tryd.prog.info? 24 = some i ∧ i.zero = some z) ∧
  CallsH Tryd.prog 35 #[(Value.pointer d_), (Value.int .i64 atv_)] hp_ fun en_ hp_1 =>
  ∃ x13r0_ : ByteArray, ∃ x13r1_ : Int, en_ = .returned (Value.tuple #[(Value.string x13r0_), (Value.int .i64 x13r1_)]) ∧
  (((decide (x13r1_ ≠ (0 : Int))) = true →
    List.length [(Value.int .i64 (0 : Int)), (Value.int .u64 (0 : Int)), (Value.int .i64 (0 : Int)), (Value.string (⟨#[]⟩ : ByteArray))] = 4 ∧ (∀ c ∈ [(Value.int .i64 (0 : Int)), (Value.int .u64 (0 : Int)), (Value.int .i64 (0 : Int)), (Value.string (⟨#[]⟩ : ByteArray))], c.oneCell' = true) ∧ wrAt hp_1 b_ 0 4 ∧ ∀ hp_2, hp_2 = setsH hp_1 b_ 0 [(Value.int .i64 (0 : Int)), (Value.int .u64 (0 : Int)), (Value.int .i64 (0 : Int)), (Value.string (⟨#[]⟩ : ByteArray))] →
    ∃ resf0_ : Int, ∃ resf1_ : Int, ∃ resf2_ : Int, ∃ resf3_ : ByteArray, cellsAt hp_2 b_ 0 [(Value.int .i64 resf0_), (Value.int .u64 resf1_), (Value.int .i64 resf2_), (Value.string resf3_)] ∧
    R (.returned (Value.tuple #[(Value.agg #[(Value.int .i64 resf0_), (Value.int .u64 resf1_), (Value.int .i64 resf2_), (Value.string resf3_)]), (Value.int .i64 x13r1_)])) hp_2) ∧
   ((decide (x13r1_ ≠ (0 : Int))) = false →
    CallsH Tryd.prog 14 #[(Value.string x13r0_)] hp_1 fun en_1 hp_3 =>
    ∃ x22r0f0_ : Int, ∃ x22r0f1_ : Int, ∃ x22r0f2_ : Int, ∃ x22r0f3_ : ByteArray, ∃ x22r1_ : Int, ∃ x22r2_ : Int, en_1 = .returned (Value.tuple #[(Value.agg #[(Value.int .i64 x22r0f0_), (Value.int .u64 x22r0f1_), (Value.int .i64 x22r0f2_), (Value.string x22r0f3_)]), (Value.int .i64 x22r1_), (Value.int .i64 x22r2_)]) ∧
    ∀ b_1 hp_4, b_1 = Array.size hp_3 → hp_4 = Array.push hp_3 (.cells (zeros Tryd.prog 24) 24) → (∃ i z, Tryd.prog.info? 24 = some i ∧ i.zero = some z) ∧
    List.length [(Value.int .i64 x22r0f0_), (Value.int .u64 x22r0f1_), (Value.int .i64 x22r0f2_), (Value.string x22r0f3_)] = 4 ∧ (∀ c ∈ [(Value.int .i64 x22r0f0_), (Value.int .u64 x22r0f1_), (Value.int .i64 x22r0f2_), (Value.string x22r0f3_)], c.oneCell' = true) ∧ wrAt hp_4 b_1 0 4 ∧ ∀ hp_5, hp_5 = setsH hp_4 b_1 0 [(Value.int .i64 x22r0f0_), (Value.int .u64 x22r0f1_), (Value.int .i64 x22r0f2_), (Value.string x22r0f3_)] →
    ∃ x26f0_ : Int, ∃ x26f1_ : Int, ∃ x26f2_ : Int, ∃ x26f3_ : ByteArray, cellsAt hp_5 b_1 0 [(Value.int .i64 x26f0_), (Value.int .u64 x26f1_), (Value.int .i64 x26f2_), (Value.string x26f3_)] ∧
    List.length [(Value.int .i64 x26f0_), (Value.int .u64 x26f1_), (Value.int .i64 x26f2_), (Value.string x26f3_)] = 4 ∧ (∀ c ∈ [(Value.int .i64 x26f0_), (Value.int .u64 x26f1_), (Value.int .i64 x26f2_), (Value.string x26f3_)], c.oneCell' = true) ∧ wrAt hp_5 b_ 0 4 ∧ ∀ hp_6, hp_6 = setsH hp_5 b_ 0 [(Value.int .i64 x26f0_), (Value.int .u64 x26f1_), (Value.int .i64 x26f2_), (Value.string x26f3_)] →
    ∃ resf0_1 : Int, ∃ resf1_1 : Int, ∃ resf2_1 : Int, ∃ resf3_1 : ByteArray, cellsAt hp_6 b_ 0 [(Value.int .i64 resf0_1), (Value.int .u64 resf1_1), (Value.int .i64 resf2_1), (Value.string resf3_1)] ∧
    R (.returned (Value.tuple #[(Value.agg #[(Value.int .i64 resf0_1), (Value.int .u64 resf1_1), (Value.int .i64 resf2_1), (Value.string resf3_1)]), (Value.int .i64 x22r2_)])) hp_6))) :
  CallsH Tryd.prog 19 #[(Value.pointer d_), (Value.int .i64 atv_)] h R := calls_vc fine false Tryd.func19 (ann := A19) (args := [(Value.pointer d_), (Value.int .i64 atv_)]) (by kernel_rfl) (Eq.mpr (by kernel_rfl) H)
/-- turnout/disk.Load -/
def A20 : Ann := (.seq .nil (.seq .nil (.seq (.seq .nil (.cond (.seq .nil .nil) .nil)) (.seq .nil (.seq (.seq .nil (.cond (.seq .nil .nil) .nil)) (.seq (.seq .nil (.block (.loop [(29, (.int .i64))] (.seq .nil (.seq (.cond .nil .nil) (.seq (.block (.seq .nil .nil)) .nil)))))) (.seq .nil .nil)))))))
theorem V20 (image_ : ByteArray) (h : Hp) (R : Ending → Hp → Prop) (H :
  (512 : Int) ≠ 0 ∧ ∃ x10_, IntKind.i64.wrap (Int.tdiv (ByteArray.size image_ : Int) (512 : Int)) = x10_ ∧
  ∃ x12_, IntKind.i64.wrap (x10_ * (512 : Int)) = x12_ ∧
  (((decide (x12_ ≠ (ByteArray.size image_ : Int))) = true →
    R (.returned (Value.tuple #[(Value.pointer none), (Value.int .i64 (1 : Int))])) h) ∧
   ((decide (x12_ ≠ (ByteArray.size image_ : Int))) = false →
    CallsH Tryd.prog 22 #[(Value.int .i64 x10_)] h fun en_ hp_ =>
    ∃ x18r0_ : Option Addr, ∃ x18r1_ : Int, en_ = .returned (Value.tuple #[(Value.pointer x18r0_), (Value.int .i64 x18r1_)]) ∧
    (((decide (x18r1_ ≠ (0 : Int))) = true →
      R (.returned (Value.tuple #[(Value.pointer none), (Value.int .i64 x18r1_)])) hp_) ∧
     ((decide (x18r1_ ≠ (0 : Int))) = false →
      ∃ b_ o_, x18r0_ = some ⟨b_, o_, none⟩ ∧
      ∃ (x27p_ : Option Addr) (x27n_ x27c_ : Nat), cellsAt hp_ b_ (o_ + 0) [(Value.slice x27p_ x27n_ x27c_)] ∧
      ∃ (Iv_ : List Value → Hp → Prop) (m_ : List Value → Hp → Nat), Iv_ [(Value.int .i64 (0 : Int))] hp_ ∧
      (∀ (x29_ : Int) hp_1, Iv_ [(Value.int .i64 x29_)] hp_1 →
       (((decide (x29_ < ((x27n_ : Nat) : Int))) = true →
         ∃ b_1 o_1, x18r0_ = some ⟨b_1, o_1, none⟩ ∧
         ∃ (x35p_ : Option Addr) (x35n_ x35c_ : Nat), cellsAt hp_1 b_1 (o_1 + 0) [(Value.slice x35p_ x35n_ x35c_)] ∧
         ∃ x39_, IntKind.i64.wrap (x29_ * (512 : Int)) = x39_ ∧
         ∃ x41_, IntKind.i64.wrap (x29_ + (1 : Int)) = x41_ ∧
         ∃ x42_, IntKind.i64.wrap (x41_ * (512 : Int)) = x42_ ∧
         ∃ l_ : Nat, x39_ = (l_ : Int) ∧
         ∃ u_ : Nat, x42_ = (u_ : Int) ∧
         l_ ≤ u_ ∧ u_ ≤ ByteArray.size image_ ∧ ∃ x43_, ByteArray.extract image_ l_ u_ = x43_ ∧
         ∃ b_2 o_2, x35p_ = some ⟨b_2, o_2, none⟩ ∧ 0 ≤ x29_ ∧ x29_ < (x35n_ : Int) ∧
         Value.oneCell' (Value.string x43_) = true ∧ wrAt hp_1 b_2 (o_2 + Int.toNat x29_ * 1) 1 ∧ ∀ hp_2, hp_2 = setsH hp_1 b_2 (o_2 + Int.toNat x29_ * 1) [(Value.string x43_)] →
         ∃ x45_, IntKind.i64.wrap (x29_ + (1 : Int)) = x45_ ∧
         (Iv_ [(Value.int .i64 x45_)] hp_2 ∧ m_ [(Value.int .i64 x45_)] hp_2 < m_ [(Value.int .i64 x29_)] hp_1)) ∧
        ((decide (x29_ < ((x27n_ : Nat) : Int))) = false →
         R (.returned (Value.tuple #[(Value.pointer x18r0_), (Value.int .i64 (0 : Int))])) hp_1)))))))) :
  CallsH Tryd.prog 20 #[(Value.string image_)] h R := calls_vc fine false Tryd.func20 (ann := A20) (args := [(Value.string image_)]) (by kernel_rfl) (Eq.mpr (by kernel_rfl) H)
/-- turnout/turnoutlaw05.whole -/
def A21 : Ann := (.seq .nil (.seq .nil (.seq .nil (.cut (.seq .nil (.block (.loop [(9, .slice), (10, (.int .i64))] (.cut (.seq (.join 30) (.cond .nil .nil)) [] (.seq (.block (.seq .nil (.seq .nil (.seq .nil (.seq (.seq (.join 56) (.cond (.seq .nil .nil) .nil)) .nil))))) .nil))))) [(9, .slice)] (.seq .nil (.seq .nil (.seq (.seq .nil (.cond (.seq .nil .nil) .nil)) (.cut (.seq (.join 78) (.cond (.seq .nil .nil) .nil)) [] (.seq (.seq .nil (.block (.loop [(17, (.int .i64))] (.seq (.seq .nil (.cond .nil .nil)) (.seq (.block (.seq (.join 94) (.cond (.seq .nil .nil) .nil))) .nil))))) (.seq .nil .nil))))))))))
theorem V21 (d_ : Option Addr) (lp_ : Option Addr) (ln_ lc_ : Nat) (fatesp_ : Option Addr) (fatesn_ fatesc_ : Nat) (h : Hp) (R : Ending → Hp → Prop) (H :
  CallsH Tryd.prog 19 #[(Value.pointer d_), (Value.int .i64 (1 : Int))] h fun en_ hp_ =>
  ∃ x20r0f0_ : Int, ∃ x20r0f1_ : Int, ∃ x20r0f2_ : Int, ∃ x20r0f3_ : ByteArray, ∃ x20r1_ : Int, en_ = .returned (Value.tuple #[(Value.agg #[(Value.int .i64 x20r0f0_), (Value.int .u64 x20r0f1_), (Value.int .i64 x20r0f2_), (Value.string x20r0f3_)]), (Value.int .i64 x20r1_)]) ∧
  ∀ b_ hp_1, b_ = Array.size hp_ → hp_1 = Array.push hp_ (.cells (zeros Tryd.prog 24) 24) → (∃ i z, Tryd.prog.info? 24 = some i ∧ i.zero = some z) ∧
  List.length [(Value.int .i64 x20r0f0_), (Value.int .u64 x20r0f1_), (Value.int .i64 x20r0f2_), (Value.string x20r0f3_)] = 4 ∧ (∀ c ∈ [(Value.int .i64 x20r0f0_), (Value.int .u64 x20r0f1_), (Value.int .i64 x20r0f2_), (Value.string x20r0f3_)], c.oneCell' = true) ∧ wrAt hp_1 b_ 0 4 ∧ ∀ hp_2, hp_2 = setsH hp_1 b_ 0 [(Value.int .i64 x20r0f0_), (Value.int .u64 x20r0f1_), (Value.int .i64 x20r0f2_), (Value.string x20r0f3_)] →
  ∃ Jv_ : List Value → Hp → Prop,
  (∃ (Iv_ : List Value → Hp → Prop) (m_ : List Value → Hp → Nat), Iv_ [(Value.slice none 0 0), (Value.int .i64 (0 : Int))] hp_2 ∧
   (∀ (putp_ : Option Addr) (putn_ putc_ : Nat) (i_ : Int) hp_3, Iv_ [(Value.slice putp_ putn_ putc_), (Value.int .i64 i_)] hp_3 →
    ∃ Jv_1 : List Value → Hp → Prop,
    (∃ B_ : Bool, ((((decide (i_ < ((ln_ : Nat) : Int))) = true →
        hp_3 = hp_3 ∧ B_ = (decide (i_ < (255 : Int)))) ∧
       ((decide (i_ < ((ln_ : Nat) : Int))) = false →
        hp_3 = hp_3 ∧ B_ = false))) ∧
     ((B_ = true →
       Jv_1 [] hp_3) ∧
      (B_ = false →
       Jv_ [(Value.slice putp_ putn_ putc_)] hp_3))) ∧
    (∀  hp_4, Jv_1 [] hp_4 →
     ∃ b_1 o_, lp_ = some ⟨b_1, o_, none⟩ ∧ 0 ≤ i_ ∧ i_ < (ln_ : Int) ∧
     ∃ x36f0_ : Int, ∃ x36f1_ : Int, ∃ x36f2_ : Int, ∃ x36f3_ : ByteArray, cellsAt hp_4 b_1 (o_ + Int.toNat i_ * 4) [(Value.int .i64 x36f0_), (Value.int .u64 x36f1_), (Value.int .i64 x36f2_), (Value.string x36f3_)] ∧
     CallsH Tryd.prog 16 #[(Value.agg #[(Value.int .i64 x36f0_), (Value.int .u64 x36f1_), (Value.int .i64 x36f2_), (Value.string x36f3_)])] hp_4 fun en_1 hp_5 =>
     ∃ x37f0_ : Int, ∃ x37f1_ : Int, ∃ x37f2_ : Int, ∃ x37f3_ : ByteArray, en_1 = .returned (Value.agg #[(Value.int .i64 x37f0_), (Value.int .u64 x37f1_), (Value.int .i64 x37f2_), (Value.string x37f3_)]) ∧
     ∀ b_2 hp_6, b_2 = Array.size hp_5 → hp_6 = Array.push hp_5 (.cells (zeros Tryd.prog 24) 24) → (∃ i z, Tryd.prog.info? 24 = some i ∧ i.zero = some z) ∧
     List.length [(Value.int .i64 x37f0_), (Value.int .u64 x37f1_), (Value.int .i64 x37f2_), (Value.string x37f3_)] = 4 ∧ (∀ c ∈ [(Value.int .i64 x37f0_), (Value.int .u64 x37f1_), (Value.int .i64 x37f2_), (Value.string x37f3_)], c.oneCell' = true) ∧ wrAt hp_6 b_2 0 4 ∧ ∀ hp_7, hp_7 = setsH hp_6 b_2 0 [(Value.int .i64 x37f0_), (Value.int .u64 x37f1_), (Value.int .i64 x37f2_), (Value.string x37f3_)] →
     ∃ x39f0_ : Int, ∃ x39f1_ : Int, ∃ x39f2_ : Int, ∃ x39f3_ : ByteArray, cellsAt hp_7 b_2 0 [(Value.int .i64 x39f0_), (Value.int .u64 x39f1_), (Value.int .i64 x39f2_), (Value.string x39f3_)] ∧
     CallsH Tryd.prog 18 #[(Value.pointer d_), (Value.int .i64 (1 : Int)), (Value.agg #[(Value.int .i64 x39f0_), (Value.int .u64 x39f1_), (Value.int .i64 x39f2_), (Value.string x39f3_)])] hp_7 fun en_2 hp_8 =>
     ∃ x40_ : Int, en_2 = .returned (Value.int .i64 x40_) ∧
     CallsH Tryd.prog 19 #[(Value.pointer d_), (Value.int .i64 (1 : Int))] hp_8 fun en_3 hp_9 =>
     ∃ x43r0f0_ : Int, ∃ x43r0f1_ : Int, ∃ x43r0f2_ : Int, ∃ x43r0f3_ : ByteArray, ∃ x43r1_ : Int, en_3 = .returned (Value.tuple #[(Value.agg #[(Value.int .i64 x43r0f0_), (Value.int .u64 x43r0f1_), (Value.int .i64 x43r0f2_), (Value.string x43r0f3_)]), (Value.int .i64 x43r1_)]) ∧
     ∀ b_3 hp_10, b_3 = Array.size hp_9 → hp_10 = Array.push hp_9 (.cells (zeros Tryd.prog 24) 24) → (∃ i z, Tryd.prog.info? 24 = some i ∧ i.zero = some z) ∧
     List.length [(Value.int .i64 x43r0f0_), (Value.int .u64 x43r0f1_), (Value.int .i64 x43r0f2_), (Value.string x43r0f3_)] = 4 ∧ (∀ c ∈ [(Value.int .i64 x43r0f0_), (Value.int .u64 x43r0f1_), (Value.int .i64 x43r0f2_), (Value.string x43r0f3_)], c.oneCell' = true) ∧ wrAt hp_10 b_3 0 4 ∧ ∀ hp_11, hp_11 = setsH hp_10 b_3 0 [(Value.int .i64 x43r0f0_), (Value.int .u64 x43r0f1_), (Value.int .i64 x43r0f2_), (Value.string x43r0f3_)] →
     ∃ B_1 : Bool, ((((decide (x40_ ≠ (0 : Int))) = true →
        hp_11 = hp_11 ∧ B_1 = true) ∧
       ((decide (x40_ ≠ (0 : Int))) = false →
        (((decide (x43r1_ ≠ (0 : Int))) = true →
          hp_11 = hp_11 ∧ B_1 = true) ∧
         ((decide (x43r1_ ≠ (0 : Int))) = false →
          ∃ x53f0_ : Int, ∃ x53f1_ : Int, ∃ x53f2_ : Int, ∃ x53f3_ : ByteArray, cellsAt hp_11 b_3 0 [(Value.int .i64 x53f0_), (Value.int .u64 x53f1_), (Value.int .i64 x53f2_), (Value.string x53f3_)] ∧
          ∃ x54f0_ : Int, ∃ x54f1_ : Int, ∃ x54f2_ : Int, ∃ x54f3_ : ByteArray, cellsAt hp_11 b_2 0 [(Value.int .i64 x54f0_), (Value.int .u64 x54f1_), (Value.int .i64 x54f2_), (Value.string x54f3_)] ∧
          ∃ x55_, EqV Tryd.prog 24 (Value.agg #[(Value.int .i64 x53f0_), (Value.int .u64 x53f1_), (Value.int .i64 x53f2_), (Value.string x53f3_)]) (Value.agg #[(Value.int .i64 x54f0_), (Value.int .u64 x54f1_), (Value.int .i64 x54f2_), (Value.string x54f3_)]) x55_ ∧
          hp_11 = hp_11 ∧ B_1 = (!x55_)))))) ∧
     ((B_1 = true →
       R (.returned (Value.bool false)) hp_11) ∧
      (B_1 = false →
       ∃ x58f0_ : Int, ∃ x58f1_ : Int, ∃ x58f2_ : Int, ∃ x58f3_ : ByteArray, cellsAt hp_11 b_2 0 [(Value.int .i64 x58f0_), (Value.int .u64 x58f1_), (Value.int .i64 x58f2_), (Value.string x58f3_)] ∧
       SemH Tryd.prog (Instr.buildSlice 43 1 #[(0, (Value.agg #[(Value.int .i64 x58f0_), (Value.int .u64 x58f1_), (Value.int .i64 x58f2_), (Value.string x58f3_)]))]) hp_11 fun v_ hp_12 =>
       ∃ (x59p_ : Option Addr) (x59n_ x59c_ : Nat), v_ = (Value.slice x59p_ x59n_ x59c_) ∧
       SemH Tryd.prog (Builtin.append_ #[43, 43] 43 #[(Value.slice putp_ putn_ putc_), (Value.slice x59p_ x59n_ x59c_)]) hp_12 fun v_1 hp_13 =>
       ∃ (x60p_ : Option Addr) (x60n_ x60c_ : Nat), v_1 = (Value.slice x60p_ x60n_ x60c_) ∧
       ∃ x32_, IntKind.i64.wrap (i_ + (1 : Int)) = x32_ ∧
       (Iv_ [(Value.slice x60p_ x60n_ x60c_), (Value.int .i64 x32_)] hp_13 ∧ m_ [(Value.slice x60p_ x60n_ x60c_), (Value.int .i64 x32_)] hp_13 < m_ [(Value.slice putp_ putn_ putc_), (Value.int .i64 i_)] hp_3)))))) ∧
  (∀ (putp_1 : Option Addr) (putn_1 putc_1 : Nat) hp_14, Jv_ [(Value.slice putp_1 putn_1 putc_1)] hp_14 →
   CallsH Tryd.prog 24 #[(Value.pointer d_), (Value.slice fatesp_ fatesn_ fatesc_)] hp_14 fun en_4 hp_15 =>
   en_4 = .returned (Value.tuple #[]) ∧
   CallsH Tryd.prog 19 #[(Value.pointer d_), (Value.int .i64 (1 : Int))] hp_15 fun en_5 hp_16 =>
   ∃ x66r0f0_ : Int, ∃ x66r0f1_ : Int, ∃ x66r0f2_ : Int, ∃ x66r0f3_ : ByteArray, ∃ x66r1_ : Int, en_5 = .returned (Value.tuple #[(Value.agg #[(Value.int .i64 x66r0f0_), (Value.int .u64 x66r0f1_), (Value.int .i64 x66r0f2_), (Value.string x66r0f3_)]), (Value.int .i64 x66r1_)]) ∧
   ∀ b_4 hp_17, b_4 = Array.size hp_16 → hp_17 = Array.push hp_16 (.cells (zeros Tryd.prog 24) 24) → (∃ i z, Tryd.prog.info? 24 = some i ∧ i.zero = some z) ∧
   List.length [(Value.int .i64 x66r0f0_), (Value.int .u64 x66r0f1_), (Value.int .i64 x66r0f2_), (Value.string x66r0f3_)] = 4 ∧ (∀ c ∈ [(Value.int .i64 x66r0f0_), (Value.int .u64 x66r0f1_), (Value.int .i64 x66r0f2_), (Value.string x66r0f3_)], c.oneCell' = true) ∧ wrAt hp_17 b_4 0 4 ∧ ∀ hp_18, hp_18 = setsH hp_17 b_4 0 [(Value.int .i64 x66r0f0_), (Value.int .u64 x66r0f1_), (Value.int .i64 x66r0f2_), (Value.string x66r0f3_)] →
   (((decide (x66r1_ = (50 : Int))) = true →
     R (.returned (Value.bool true)) hp_18) ∧
    ((decide (x66r1_ = (50 : Int))) = false →
     ∃ Jv_2 : List Value → Hp → Prop,
     (∃ B_2 : Bool, (∃ x71f0_ : Int, ∃ x71f1_ : Int, ∃ x71f2_ : Int, ∃ x71f3_ : ByteArray, cellsAt hp_18 b_4 0 [(Value.int .i64 x71f0_), (Value.int .u64 x71f1_), (Value.int .i64 x71f2_), (Value.string x71f3_)] ∧
       ∃ x72f0_ : Int, ∃ x72f1_ : Int, ∃ x72f2_ : Int, ∃ x72f3_ : ByteArray, cellsAt hp_18 b_ 0 [(Value.int .i64 x72f0_), (Value.int .u64 x72f1_), (Value.int .i64 x72f2_), (Value.string x72f3_)] ∧
       ∃ x73_, EqV Tryd.prog 24 (Value.agg #[(Value.int .i64 x71f0_), (Value.int .u64 x71f1_), (Value.int .i64 x71f2_), (Value.string x71f3_)]) (Value.agg #[(Value.int .i64 x72f0_), (Value.int .u64 x72f1_), (Value.int .i64 x72f2_), (Value.string x72f3_)]) x73_ ∧
       ((x73_ = true →
         hp_18 = hp_18 ∧ B_2 = (decide (x66r1_ = x20r1_))) ∧
        (x73_ = false →
         hp_18 = hp_18 ∧ B_2 = false))) ∧
      ((B_2 = true →
        R (.returned (Value.bool true)) hp_18) ∧
       (B_2 = false →
        Jv_2 [] hp_18))) ∧
     (∀  hp_19, Jv_2 [] hp_19 →
      ∃ (Iv_1 : List Value → Hp → Prop) (m_1 : List Value → Hp → Nat), Iv_1 [(Value.int .i64 (0 : Int))] hp_19 ∧
      (∀ (i_1 : Int) hp_20, Iv_1 [(Value.int .i64 i_1)] hp_20 →
       (((decide (i_1 < ((putn_1 : Nat) : Int))) = true →
         ∃ B_3 : Bool, ((((decide (x66r1_ = (0 : Int))) = true →
            ∃ x88f0_ : Int, ∃ x88f1_ : Int, ∃ x88f2_ : Int, ∃ x88f3_ : ByteArray, cellsAt hp_20 b_4 0 [(Value.int .i64 x88f0_), (Value.int .u64 x88f1_), (Value.int .i64 x88f2_), (Value.string x88f3_)] ∧
            ∃ b_5 o_1, putp_1 = some ⟨b_5, o_1, none⟩ ∧ 0 ≤ i_1 ∧ i_1 < (putn_1 : Int) ∧
            ∃ x92f0_ : Int, ∃ x92f1_ : Int, ∃ x92f2_ : Int, ∃ x92f3_ : ByteArray, cellsAt hp_20 b_5 (o_1 + Int.toNat i_1 * 4) [(Value.int .i64 x92f0_), (Value.int .u64 x92f1_), (Value.int .i64 x92f2_), (Value.string x92f3_)] ∧
            ∃ x93_, EqV Tryd.prog 24 (Value.agg #[(Value.int .i64 x88f0_), (Value.int .u64 x88f1_), (Value.int .i64 x88f2_), (Value.string x88f3_)]) (Value.agg #[(Value.int .i64 x92f0_), (Value.int .u64 x92f1_), (Value.int .i64 x92f2_), (Value.string x92f3_)]) x93_ ∧
            hp_20 = hp_20 ∧ B_3 = x93_) ∧
           ((decide (x66r1_ = (0 : Int))) = false →
            hp_20 = hp_20 ∧ B_3 = false))) ∧
         ((B_3 = true →
           R (.returned (Value.bool true)) hp_20) ∧
          (B_3 = false →
           ∃ x84_, IntKind.i64.wrap (i_1 + (1 : Int)) = x84_ ∧
           (Iv_1 [(Value.int .i64 x84_)] hp_20 ∧ m_1 [(Value.int .i64 x84_)] hp_20 < m_1 [(Value.int .i64 i_1)] hp_20)))) ∧
        ((decide (i_1 < ((putn_1 : Nat) : Int))) = false →
         R (.returned (Value.bool false)) hp_20)))))))) :
  CallsH Tryd.prog 21 #[(Value.pointer d_), (Value.slice lp_ ln_ lc_), (Value.slice fatesp_ fatesn_ fatesc_)] h R := calls_vc fine false Tryd.func21 (ann := A21) (args := [(Value.pointer d_), (Value.slice lp_ ln_ lc_), (Value.slice fatesp_ fatesn_ fatesc_)]) (by kernel_rfl) (Eq.mpr (by kernel_rfl) H)
/-- turnout/disk.New -/
def A22 : Ann := (.seq .nil (.cut (.seq (.join 12) (.cond (.seq .nil .nil) .nil)) [] (.seq .nil (.seq .nil (.seq (.seq .nil (.block (.loop [(25, (.int .i64))] (.seq .nil (.seq (.cond .nil .nil) (.seq (.block (.seq .nil .nil)) .nil)))))) (.seq .nil .nil))))))
theorem V22 (sectors_ : Int) (h : Hp) (R : Ending → Hp → Prop) (H :
  ∃ Jv_ : List Value → Hp → Prop,
  (∃ B_ : Bool, ((((decide (sectors_ < (1 : Int))) = true →
      h = h ∧ B_ = true) ∧
     ((decide (sectors_ < (1 : Int))) = false →
      h = h ∧ B_ = (decide ((4096 : Int) < sectors_))))) ∧
   ((B_ = true →
     R (.returned (Value.tuple #[(Value.pointer none), (Value.int .i64 (1 : Int))])) h) ∧
    (B_ = false →
     Jv_ [] h))) ∧
  (∀  hp_, Jv_ [] hp_ →
   SemH Tryd.prog (Instr.makeSlice 37 (Value.int .i64 (512 : Int)) (Value.int .i64 (512 : Int))) hp_ fun v_ hp_1 =>
   ∃ (x13p_ : Option Addr) (x13n_ x13c_ : Nat), v_ = (Value.slice x13p_ x13n_ x13c_) ∧
   SemH Tryd.prog (convert 37 9 (Value.slice x13p_ x13n_ x13c_)) hp_1 fun v_1 hp_2 =>
   ∃ x14_ : ByteArray, v_1 = (Value.string x14_) ∧
   SemH Tryd.prog (Instr.makeSlice 68 (Value.int .i64 sectors_) (Value.int .i64 sectors_)) hp_2 fun v_2 hp_3 =>
   ∃ (x16p_ : Option Addr) (x16n_ x16c_ : Nat), v_2 = (Value.slice x16p_ x16n_ x16c_) ∧
   ∀ r_ hp_4, r_ = Array.size hp_3 → hp_4 = Array.push hp_3 (.map #[] 0) →
   ∀ b_ hp_5, b_ = Array.size hp_4 → hp_5 = Array.push hp_4 (.cells #[(Value.slice x16p_ x16n_ x16c_), (Value.map (some r_)), (Value.slice none 0 0), (Value.slice none 0 0), (Value.bool false), (Value.int .i64 (0 : Int)), (Value.int .i64 (0 : Int)), (Value.int .i64 (0 : Int)), (Value.int .i64 (0 : Int))] 75) →
   ∃ (x23p_ : Option Addr) (x23n_ x23c_ : Nat), cellsAt hp_5 b_ (0 + 0) [(Value.slice x23p_ x23n_ x23c_)] ∧
   ∃ (Iv_ : List Value → Hp → Prop) (m_ : List Value → Hp → Nat), Iv_ [(Value.int .i64 (0 : Int))] hp_5 ∧
   (∀ (x25_ : Int) hp_6, Iv_ [(Value.int .i64 x25_)] hp_6 →
    (((decide (x25_ < ((x23n_ : Nat) : Int))) = true →
      ∃ (x31p_ : Option Addr) (x31n_ x31c_ : Nat), cellsAt hp_6 b_ (0 + 0) [(Value.slice x31p_ x31n_ x31c_)] ∧
      ∃ b_1 o_, x31p_ = some ⟨b_1, o_, none⟩ ∧ 0 ≤ x25_ ∧ x25_ < (x31n_ : Int) ∧
      Value.oneCell' (Value.string x14_) = true ∧ wrAt hp_6 b_1 (o_ + Int.toNat x25_ * 1) 1 ∧ ∀ hp_7, hp_7 = setsH hp_6 b_1 (o_ + Int.toNat x25_ * 1) [(Value.string x14_)] →
      ∃ x35_, IntKind.i64.wrap (x25_ + (1 : Int)) = x35_ ∧
      (Iv_ [(Value.int .i64 x35_)] hp_7 ∧ m_ [(Value.int .i64 x35_)] hp_7 < m_ [(Value.int .i64 x25_)] hp_6)) ∧
     ((decide (x25_ < ((x23n_ : Nat) : Int))) = false →
      R (.returned (Value.tuple #[(Value.pointer (some ⟨b_, 0, none⟩)), (Value.int .i64 (0 : Int))])) hp_6))))) :
  CallsH Tryd.prog 22 #[(Value.int .i64 sectors_)] h R := calls_vc fine false Tryd.func22 (ann := A22) (args := [(Value.int .i64 sectors_)]) (by kernel_rfl) (Eq.mpr (by kernel_rfl) H)
/-- (*turnout/disk.Disk).Flush -/
def A23 : Ann := (.seq .nil (.seq .nil (.seq (.seq .nil (.cond (.seq .nil .nil) .nil)) (.seq (.seq .nil (.cond (.seq .nil .nil) .nil)) (.seq (.seq .nil (.block (.loop [(19, (.int .i64))] (.seq .nil (.seq (.cond .nil .nil) (.seq (.block (.seq .nil .nil)) .nil)))))) (.seq .nil (.seq .nil (.seq .nil .nil))))))))
theorem V23 (d_ : Option Addr) (h : Hp) (R : Ending → Hp → Prop) (H :
  CallsH Tryd.prog 37 #[(Value.pointer d_), (Value.int .i64 (0 : Int))] h fun en_ hp_ =>
  ∃ x7_ : Int, en_ = .returned (Value.int .i64 x7_) ∧
  (((decide (x7_ ≠ (0 : Int))) = true →
    R (.returned (Value.int .i64 x7_)) hp_) ∧
   ((decide (x7_ ≠ (0 : Int))) = false →
    CallsH Tryd.prog 38 #[(Value.pointer d_)] hp_ fun en_1 hp_1 =>
    ∃ x12_ : Bool, en_1 = .returned (Value.bool x12_) ∧
    (((!x12_) = true →
      R (.returned (Value.int .i64 (40 : Int))) hp_1) ∧
     ((!x12_) = false →
      ∃ b_ o_, d_ = some ⟨b_, o_, none⟩ ∧
      ∃ (x17p_ : Option Addr) (x17n_ x17c_ : Nat), cellsAt hp_1 b_ (o_ + 3) [(Value.slice x17p_ x17n_ x17c_)] ∧
      ∃ (Iv_ : List Value → Hp → Prop) (m_ : List Value → Hp → Nat), Iv_ [(Value.int .i64 (0 : Int))] hp_1 ∧
      (∀ (x19_ : Int) hp_2, Iv_ [(Value.int .i64 x19_)] hp_2 →
       (((decide (x19_ < ((x17n_ : Nat) : Int))) = true →
         ∃ b_1 o_1, x17p_ = some ⟨b_1, o_1, none⟩ ∧ 0 ≤ x19_ ∧ x19_ < (x17n_ : Int) ∧
         ∃ x22_ : Value, cellsAt hp_2 b_1 (o_1 + Int.toNat x19_ * 1) [x22_] ∧
         ∃ b_2 o_2, d_ = some ⟨b_2, o_2, none⟩ ∧
         ∃ (x27p_ : Option Addr) (x27n_ x27c_ : Nat), cellsAt hp_2 b_2 (o_2 + 0) [(Value.slice x27p_ x27n_ x27c_)] ∧
         ∃ fn_ fst_ cap_, x22_ = Value.func (.func fn_) fst_ cap_ ∧ bodied Tryd.prog fn_ = true ∧
         CallsH Tryd.prog fn_ (fst_.toList ++ [(Value.slice x27p_ x27n_ x27c_), (Value.int .i64 (512 : Int))] ++ cap_.toList).toArray hp_2 fun en_2 hp_3 =>
         en_2 = .returned (Value.tuple #[]) ∧
         ∃ x29_, IntKind.i64.wrap (x19_ + (1 : Int)) = x29_ ∧
         (Iv_ [(Value.int .i64 x29_)] hp_3 ∧ m_ [(Value.int .i64 x29_)] hp_3 < m_ [(Value.int .i64 x19_)] hp_2)) ∧
        ((decide (x19_ < ((x17n_ : Nat) : Int))) = false →
         CallsH Tryd.prog 39 #[(Value.pointer d_)] hp_2 fun en_3 hp_4 =>
         en_3 = .returned (Value.tuple #[]) ∧
         ∃ b_3 o_3, d_ = some ⟨b_3, o_3, none⟩ ∧
         ∃ x36_ : Int, cellsAt hp_4 b_3 ((o_3 + 6) + 2) [(Value.int .i64 x36_)] ∧
         ∃ x37_, IntKind.i64.wrap (x36_ + (1 : Int)) = x37_ ∧
         ∃ b_4 o_4, d_ = some ⟨b_4, o_4, none⟩ ∧
         Value.oneCell' (Value.int .i64 x37_) = true ∧ wrAt hp_4 b_4 ((o_4 + 6) + 2) 1 ∧ ∀ hp_5, hp_5 = setsH hp_4 b_4 ((o_4 + 6) + 2) [(Value.int .i64 x37_)] →
         R (.returned (Value.int .i64 (0 : Int))) hp_5)))))))) :
  CallsH Tryd.prog 23 #[(Value.pointer d_)] h R := calls_vc fine false Tryd.func23 (ann := A23) (args := [(Value.pointer d_)]) (by kernel_rfl) (Eq.mpr (by kernel_rfl) H)
/-- (*turnout/disk.Disk).Crash -/
def A24 : Ann := (.seq (.seq .nil (.cond .nil .nil)) (.cut (.seq .nil (.block (.loop [(13, (.int .i64))] (.seq .nil (.seq (.cond .nil .nil) (.seq (.block (.seq .nil (.seq (.seq .nil (.cond .nil .nil)) (.drawLast [4])))) .nil)))))) [] (.seq .nil (.seq .nil .nil))))
theorem V24 (d_ : Option Addr) (fatesp_ : Option Addr) (fatesn_ fatesc_ : Nat) (h : Hp) (R : Ending → Hp → Prop) (H :
  ∃ x7_, EqV Tryd.prog 45 (Value.pointer d_) (Value.pointer none) x7_ ∧
  ((x7_ = true →
    R (.returned (Value.tuple #[])) h) ∧
   (x7_ = false →
    ∃ Jv_ : List Value → Hp → Prop,
    (∃ b_ o_, d_ = some ⟨b_, o_, none⟩ ∧
     ∃ (x11p_ : Option Addr) (x11n_ x11c_ : Nat), cellsAt h b_ (o_ + 3) [(Value.slice x11p_ x11n_ x11c_)] ∧
     ∃ (Iv_ : List Value → Hp → Prop) (m_ : List Value → Hp → Nat), Iv_ [(Value.int .i64 (0 : Int))] h ∧
     (∀ (x13_ : Int) hp_, Iv_ [(Value.int .i64 x13_)] hp_ →
      (((decide (x13_ < ((x11n_ : Nat) : Int))) = true →
        ∃ b_1 o_1, x11p_ = some ⟨b_1, o_1, none⟩ ∧ 0 ≤ x13_ ∧ x13_ < (x11n_ : Int) ∧
        ∃ x17_ : Value, cellsAt hp_ b_1 (o_1 + Int.toNat x13_ * 1) [x17_] ∧
        (((decide (((fatesn_ : Nat) : Int) ≤ x13_)) = true →
          Jv_ [] hp_) ∧
         ((decide (((fatesn_ : Nat) : Int) ≤ x13_)) = false →
          ∃ Cv_ : Hp → Prop, Cv_ hp_ ∧
          ∃ b_2 o_2, d_ = some ⟨b_2, o_2, none⟩ ∧
          ∃ (x26p_ : Option Addr) (x26n_ x26c_ : Nat), (∀ h', Cv_ h' → cellsAt h' b_2 (o_2 + 0) [(Value.slice x26p_ x26n_ x26c_)]) ∧
          ∃ b_3 o_3, fatesp_ = some ⟨b_3, o_3, none⟩ ∧ 0 ≤ x13_ ∧ x13_ < (fatesn_ : Int) ∧
          ∃ x30f0_ : Int, ∃ x30f1_ : Int, cellsAt hp_ b_3 (o_3 + Int.toNat x13_ * 2) [(Value.int .i64 x30f0_), (Value.int .i64 x30f1_)] ∧
          CallsH Tryd.prog 40 #[(Value.agg #[(Value.int .i64 x30f0_), (Value.int .i64 x30f1_)])] hp_ fun en_ hp_1 =>
          ∃ x31_ : Int, en_ = .returned (Value.int .i64 x31_) ∧
          Cv_ hp_1 ∧
          ∃ fn_ fst_ cap_, x17_ = Value.func (.func fn_) fst_ cap_ ∧ bodied Tryd.prog fn_ = true ∧
          CallsH Tryd.prog fn_ (fst_.toList ++ [(Value.slice x26p_ x26n_ x26c_), (Value.int .i64 x31_)] ++ cap_.toList).toArray hp_1 fun en_1 hp_2 =>
          en_1 = .returned (Value.tuple #[]) ∧
          ∃ x33_, IntKind.i64.wrap (x13_ + (1 : Int)) = x33_ ∧
          (Iv_ [(Value.int .i64 x33_)] hp_2 ∧ m_ [(Value.int .i64 x33_)] hp_2 < m_ [(Value.int .i64 x13_)] hp_)))) ∧
       ((decide (x13_ < ((x11n_ : Nat) : Int))) = false →
        Jv_ [] hp_)))) ∧
    (∀  hp_3, Jv_ [] hp_3 →
     CallsH Tryd.prog 39 #[(Value.pointer d_)] hp_3 fun en_2 hp_4 =>
     en_2 = .returned (Value.tuple #[]) ∧
     ∃ b_4 o_4, d_ = some ⟨b_4, o_4, none⟩ ∧
     Value.oneCell' (Value.bool false) = true ∧ wrAt hp_4 b_4 (o_4 + 4) 1 ∧ ∀ hp_5, hp_5 = setsH hp_4 b_4 (o_4 + 4) [(Value.bool false)] →
     ∃ b_5 o_5, d_ = some ⟨b_5, o_5, none⟩ ∧
     Value.oneCell' (Value.int .i64 (0 : Int)) = true ∧ wrAt hp_5 b_5 (o_5 + 5) 1 ∧ ∀ hp_6, hp_6 = setsH hp_5 b_5 (o_5 + 5) [(Value.int .i64 (0 : Int))] →
     R (.returned (Value.tuple #[])) hp_6)))) :
  CallsH Tryd.prog 24 #[(Value.pointer d_), (Value.slice fatesp_ fatesn_ fatesc_)] h R := calls_vc fine false Tryd.func24 (ann := A24) (args := [(Value.pointer d_), (Value.slice fatesp_ fatesn_ fatesc_)]) (by kernel_rfl) (Eq.mpr (by kernel_rfl) H)
/-- turnout/frame.refused -/
def A25 : Ann := (.seq .nil (.seq (.seq (.join 20) (.cond (.seq .nil .nil) .nil)) (.seq (.seq .nil (.cond (.seq .nil .nil) .nil)) (.seq .nil .nil))))
theorem V25 (ff0_ : Int) (ff1_ : Int) (ff2_ : Int) (ff3_ : ByteArray) (h : Hp) (R : Ending → Hp → Prop) (H :
  ∀ b_ hp_, b_ = Array.size h → hp_ = Array.push h (.cells #[(Value.int .i64 ff0_), (Value.int .u64 ff1_), (Value.int .i64 ff2_), (Value.string ff3_)] 24) →
  ∃ B_ : Bool, (∃ x4_ : Int, cellsAt hp_ b_ (0 + 0) [(Value.int .i64 x4_)] ∧
   (((decide (x4_ < (1 : Int))) = true →
     hp_ = hp_ ∧ B_ = true) ∧
    ((decide (x4_ < (1 : Int))) = false →
     ∃ x8_ : Int, cellsAt hp_ b_ (0 + 0) [(Value.int .i64 x8_)] ∧
     (((decide ((255 : Int) < x8_)) = true →
       hp_ = hp_ ∧ B_ = true) ∧
      ((decide ((255 : Int) < x8_)) = false →
       ∃ x13_ : Int, cellsAt hp_ b_ (0 + 2) [(Value.int .i64 x13_)] ∧
       (((decide (x13_ < (0 : Int))) = true →
         hp_ = hp_ ∧ B_ = true) ∧
        ((decide (x13_ < (0 : Int))) = false →
         ∃ x18_ : Int, cellsAt hp_ b_ (0 + 2) [(Value.int .i64 x18_)] ∧
         hp_ = hp_ ∧ B_ = (decide ((2147483647 : Int) < x18_))))))))) ∧
  ((B_ = true →
    R (.returned (Value.int .i64 (1 : Int))) hp_) ∧
   (B_ = false →
    ∃ x22_ : ByteArray, cellsAt hp_ b_ (0 + 3) [(Value.string x22_)] ∧
    (((decide ((491 : Int) < (ByteArray.size x22_ : Int))) = true →
      R (.returned (Value.int .i64 (2 : Int))) hp_) ∧
     ((decide ((491 : Int) < (ByteArray.size x22_ : Int))) = false →
      R (.returned (Value.int .i64 (0 : Int))) hp_))))) :
  CallsH Tryd.prog 25 #[(Value.agg #[(Value.int .i64 ff0_), (Value.int .u64 ff1_), (Value.int .i64 ff2_), (Value.string ff3_)])] h R := calls_vc fine false Tryd.func25 (ann := A25) (args := [(Value.agg #[(Value.int .i64 ff0_), (Value.int .u64 ff1_), (Value.int .i64 ff2_), (Value.string ff3_)])]) (by kernel_rfl) (Eq.mpr (by kernel_rfl) H)
/-- turnout/frame.lay -/
def A26 : Ann := (.seq .nil (.block (.loop [(1, (.int .u64)), (4, (.int .i64))] (.seq (.seq .nil (.cond .nil .nil)) (.seq (.block (.seq .nil .nil)) .nil)))))
theorem V26 (bp_ : Option Addr) (bn_ bc_ : Nat) (n_ : Int) (h : Hp) (R : Ending → Hp → Prop) (H :
  ∃ x7_, IntKind.i64.wrap (((bn_ : Nat) : Int) - (1 : Int)) = x7_ ∧
  ∃ (Iv_ : List Value → Hp → Prop) (m_ : List Value → Hp → Nat), Iv_ [(Value.int .u64 n_), (Value.int .i64 x7_)] h ∧
  (∀ (n_1 : Int) (i_ : Int) hp_, Iv_ [(Value.int .u64 n_1), (Value.int .i64 i_)] hp_ →
   (((decide ((0 : Int) ≤ i_)) = true →
     ∃ x15_, IntKind.u8.wrap n_1 = x15_ ∧
     ∃ b_ o_, bp_ = some ⟨b_, o_, none⟩ ∧ 0 ≤ i_ ∧ i_ < (bn_ : Int) ∧
     Value.oneCell' (Value.int .u8 x15_) = true ∧ wrAt hp_ b_ (o_ + Int.toNat i_ * 1) 1 ∧ ∀ hp_1, hp_1 = setsH hp_ b_ (o_ + Int.toNat i_ * 1) [(Value.int .u8 x15_)] →
     0 ≤ (8 : Int) ∧ ∃ x18_, shrI .u64 n_1 (8 : Int) = x18_ ∧
     ∃ x11_, IntKind.i64.wrap (i_ - (1 : Int)) = x11_ ∧
     (Iv_ [(Value.int .u64 x18_), (Value.int .i64 x11_)] hp_1 ∧ m_ [(Value.int .u64 x18_), (Value.int .i64 x11_)] hp_1 < m_ [(Value.int .u64 n_1), (Value.int .i64 i_)] hp_)) ∧
    ((decide ((0 : Int) ≤ i_)) = false →
     R (.returned (Value.tuple #[])) hp_)))) :
  CallsH Tryd.prog 26 #[(Value.slice bp_ bn_ bc_), (Value.int .u64 n_)] h R := calls_vc fine false Tryd.func26 (ann := A26) (args := [(Value.slice bp_ bn_ bc_), (Value.int .u64 n_)]) (by kernel_rfl) (Eq.mpr (by kernel_rfl) H)
/-- turnout/sums.Sum -/
def A27 : Ann := (.seq .nil (.seq .nil (.seq (.seq .nil (.block (.loop [(3, (.int .u32)), (8, (.int .i64))] (.seq .nil (.seq (.cond .nil .nil) (.seq (.block (.seq .nil .nil)) .nil)))))) (.seq .nil .nil))))
theorem V27 (partsp_ : Option Addr) (partsn_ partsc_ : Nat) (h : Hp) (R : Ending → Hp → Prop) (H :
  ∃ (Iv_ : List Value → Hp → Prop) (m_ : List Value → Hp → Nat), Iv_ [(Value.int .u32 (4294967295 : Int)), (Value.int .i64 (0 : Int))] h ∧
  (∀ (r_ : Int) (x8_ : Int) hp_, Iv_ [(Value.int .u32 r_), (Value.int .i64 x8_)] hp_ →
   (((decide (x8_ < ((partsn_ : Nat) : Int))) = true →
     ∃ b_ o_, partsp_ = some ⟨b_, o_, none⟩ ∧ 0 ≤ x8_ ∧ x8_ < (partsn_ : Int) ∧
     ∃ x11_ : ByteArray, cellsAt hp_ b_ (o_ + Int.toNat x8_ * 1) [(Value.string x11_)] ∧
     CallsH Tryd.prog 41 #[(Value.int .u32 r_), (Value.string x11_)] hp_ fun en_ hp_1 =>
     ∃ x14_ : Int, en_ = .returned (Value.int .u32 x14_) ∧
     ∃ x15_, IntKind.i64.wrap (x8_ + (1 : Int)) = x15_ ∧
     (Iv_ [(Value.int .u32 x14_), (Value.int .i64 x15_)] hp_1 ∧ m_ [(Value.int .u32 x14_), (Value.int .i64 x15_)] hp_1 < m_ [(Value.int .u32 r_), (Value.int .i64 x8_)] hp_)) ∧
    ((decide (x8_ < ((partsn_ : Nat) : Int))) = false →
     ∃ x17_, notI .u32 r_ = x17_ ∧
     R (.returned (Value.int .u32 x17_)) hp_)))) :
  CallsH Tryd.prog 27 #[(Value.slice partsp_ partsn_ partsc_)] h R := calls_vc fine false Tryd.func27 (ann := A27) (args := [(Value.slice partsp_ partsn_ partsc_)]) (by kernel_rfl) (Eq.mpr (by kernel_rfl) H)
/-- turnout/turnoutref05.Wrong -/
def A28 : Ann := (.seq .nil (.seq (.seq (.join 20) (.cond (.seq .nil .nil) .nil)) (.seq (.seq .nil (.cond (.seq .nil .nil) .nil)) (.seq .nil .nil))))
theorem V28 (ff0_ : Int) (ff1_ : Int) (ff2_ : Int) (ff3_ : ByteArray) (h : Hp) (R : Ending → Hp → Prop) (H :
  ∀ b_ hp_, b_ = Array.size h → hp_ = Array.push h (.cells #[(Value.int .i64 ff0_), (Value.int .u64 ff1_), (Value.int .i64 ff2_), (Value.string ff3_)] 24) →
  ∃ B_ : Bool, (∃ x4_ : Int, cellsAt hp_ b_ (0 + 0) [(Value.int .i64 x4_)] ∧
   (((decide (x4_ < (1 : Int))) = true →
     hp_ = hp_ ∧ B_ = true) ∧
    ((decide (x4_ < (1 : Int))) = false →
     ∃ x8_ : Int, cellsAt hp_ b_ (0 + 0) [(Value.int .i64 x8_)] ∧
     (((decide ((255 : Int) < x8_)) = true →
       hp_ = hp_ ∧ B_ = true) ∧
      ((decide ((255 : Int) < x8_)) = false →
       ∃ x13_ : Int, cellsAt hp_ b_ (0 + 2) [(Value.int .i64 x13_)] ∧
       (((decide (x13_ < (0 : Int))) = true →
         hp_ = hp_ ∧ B_ = true) ∧
        ((decide (x13_ < (0 : Int))) = false →
         ∃ x18_ : Int, cellsAt hp_ b_ (0 + 2) [(Value.int .i64 x18_)] ∧
         hp_ = hp_ ∧ B_ = (decide ((2147483647 : Int) < x18_))))))))) ∧
  ((B_ = true →
    R (.returned (Value.int .i64 (1 : Int))) hp_) ∧
   (B_ = false →
    ∃ x22_ : ByteArray, cellsAt hp_ b_ (0 + 3) [(Value.string x22_)] ∧
    (((decide ((491 : Int) < (ByteArray.size x22_ : Int))) = true →
      R (.returned (Value.int .i64 (2 : Int))) hp_) ∧
     ((decide ((491 : Int) < (ByteArray.size x22_ : Int))) = false →
      R (.returned (Value.int .i64 (0 : Int))) hp_))))) :
  CallsH Tryd.prog 28 #[(Value.agg #[(Value.int .i64 ff0_), (Value.int .u64 ff1_), (Value.int .i64 ff2_), (Value.string ff3_)])] h R := calls_vc fine false Tryd.func28 (ann := A28) (args := [(Value.agg #[(Value.int .i64 ff0_), (Value.int .u64 ff1_), (Value.int .i64 ff2_), (Value.string ff3_)])]) (by kernel_rfl) (Eq.mpr (by kernel_rfl) H)
/-- turnout/turnoutref05.bytes -/
def A29 : Ann := (.seq .nil (.seq .nil (.seq (.seq .nil (.block (.loop [(0, (.int .u64)), (5, .str), (6, (.int .i64))] (.seq (.seq .nil (.cond .nil .nil)) (.seq (.block (.seq .nil .nil)) .nil))))) (.seq .nil .nil))))
theorem V29 (n_ : Int) (many_ : Int) (h : Hp) (R : Ending → Hp → Prop) (H :
  ∃ (Iv_ : List Value → Hp → Prop) (m_ : List Value → Hp → Nat), Iv_ [(Value.int .u64 n_), (Value.string (⟨#[]⟩ : ByteArray)), (Value.int .i64 (0 : Int))] h ∧
  (∀ (n_1 : Int) (s_ : ByteArray) (i_ : Int) hp_, Iv_ [(Value.int .u64 n_1), (Value.string s_), (Value.int .i64 i_)] hp_ →
   (((decide (i_ < many_)) = true →
     (256 : Int) ≠ 0 ∧ ∃ x13_, Int.tmod n_1 (256 : Int) = x13_ ∧
     ∃ x14_, IntKind.u8.wrap x13_ = x14_ ∧
     SemH Tryd.prog (Instr.buildSlice 37 1 #[(0, (Value.int .u8 x14_))]) hp_ fun v_ hp_1 =>
     ∃ (x15p_ : Option Addr) (x15n_ x15c_ : Nat), v_ = (Value.slice x15p_ x15n_ x15c_) ∧
     SemH Tryd.prog (convert 37 9 (Value.slice x15p_ x15n_ x15c_)) hp_1 fun v_1 hp_2 =>
     ∃ x16_ : ByteArray, v_1 = (Value.string x16_) ∧
     ByteArray.size x16_ + ByteArray.size s_ ≤ 9223372036854775807 ∧ ∃ x18_, x16_ ++ s_ = x18_ ∧
     (256 : Int) ≠ 0 ∧ ∃ x20_, IntKind.u64.wrap (Int.tdiv n_1 (256 : Int)) = x20_ ∧
     ∃ x11_, IntKind.i64.wrap (i_ + (1 : Int)) = x11_ ∧
     (Iv_ [(Value.int .u64 x20_), (Value.string x18_), (Value.int .i64 x11_)] hp_2 ∧ m_ [(Value.int .u64 x20_), (Value.string x18_), (Value.int .i64 x11_)] hp_2 < m_ [(Value.int .u64 n_1), (Value.string s_), (Value.int .i64 i_)] hp_)) ∧
    ((decide (i_ < many_)) = false →
     R (.returned (Value.string s_)) hp_)))) :
  CallsH Tryd.prog 29 #[(Value.int .u64 n_), (Value.int .i64 many_)] h R := calls_vc fine false Tryd.func29 (ann := A29) (args := [(Value.int .u64 n_), (Value.int .i64 many_)]) (by kernel_rfl) (Eq.mpr (by kernel_rfl) H)
/-- turnout/turnoutref05.Sum -/
def A30 : Ann := (.seq .nil (.seq .nil (.seq .nil .nil)))
theorem V30 (s_ : ByteArray) (h : Hp) (R : Ending → Hp → Prop) (H :
  CallsH Tryd.prog 42 #[(Value.int .u32 (0 : Int)), (Value.string s_)] h fun en_ hp_ =>
  ∃ x5_ : Int, en_ = .returned (Value.int .u32 x5_) ∧
  ∃ x6_, IntKind.u64.wrap x5_ = x6_ ∧
  CallsH Tryd.prog 29 #[(Value.int .u64 x6_), (Value.int .i64 (4 : Int))] hp_ fun en_1 hp_1 =>
  ∃ x7_ : ByteArray, en_1 = .returned (Value.string x7_) ∧
  ∃ l_ : Nat, (3 : Int) = (l_ : Int) ∧
  l_ ≤ (ByteArray.size x7_) ∧ (ByteArray.size x7_) ≤ ByteArray.size x7_ ∧ ∃ x9_, ByteArray.extract x7_ l_ (ByteArray.size x7_) = x9_ ∧
  ∃ l_1 : Nat, (2 : Int) = (l_1 : Int) ∧
  ∃ u_ : Nat, (3 : Int) = (u_ : Int) ∧
  l_1 ≤ u_ ∧ u_ ≤ ByteArray.size x7_ ∧ ∃ x11_, ByteArray.extract x7_ l_1 u_ = x11_ ∧
  ByteArray.size x9_ + ByteArray.size x11_ ≤ 9223372036854775807 ∧ ∃ x12_, x9_ ++ x11_ = x12_ ∧
  ∃ l_2 : Nat, (1 : Int) = (l_2 : Int) ∧
  ∃ u_1 : Nat, (2 : Int) = (u_1 : Int) ∧
  l_2 ≤ u_1 ∧ u_1 ≤ ByteArray.size x7_ ∧ ∃ x14_, ByteArray.extract x7_ l_2 u_1 = x14_ ∧
  ByteArray.size x12_ + ByteArray.size x14_ ≤ 9223372036854775807 ∧ ∃ x15_, x12_ ++ x14_ = x15_ ∧
  ∃ u_2 : Nat, (1 : Int) = (u_2 : Int) ∧
  0 ≤ u_2 ∧ u_2 ≤ ByteArray.size x7_ ∧ ∃ x17_, ByteArray.extract x7_ 0 u_2 = x17_ ∧
  ByteArray.size x15_ + ByteArray.size x17_ ≤ 9223372036854775807 ∧ ∃ x18_, x15_ ++ x17_ = x18_ ∧
  R (.returned (Value.string x18_)) hp_1) :
  CallsH Tryd.prog 30 #[(Value.string s_)] h R := calls_vc fine false Tryd.func30 (ann := A30) (args := [(Value.string s_)]) (by kernel_rfl) (Eq.mpr (by kernel_rfl) H)
/-- turnout/frame.Open$1 -/
def A31n : Ann := (.seq .nil (.cond .nil .nil))
theorem V31n (a0_ : Option Addr) (a1_ : Option Addr) (a2_ : Option Addr) (u u' : FrameMode) (hx : recU u = (Value.nilIface, u')) (h : Hp) (K : FrameMode → Hp → Prop) (H :
  K u' h) :
  DefH Tryd.prog 31 #[(Value.pointer a0_), (Value.pointer a1_), (Value.pointer a2_)] u h K := calls_vcR fine Tryd.func31 (ann := A31n) (args := [(Value.pointer a0_), (Value.pointer a1_), (Value.pointer a2_)]) hx (by kernel_rfl) (Eq.mpr (by kernel_rfl) H)
def A31p : Ann := (.seq .nil (.cond .nil .nil))
theorem V31p (a0_ : Option Addr) (a1_ : Option Addr) (a2_ : Option Addr) (code_ : Int) (u u' : FrameMode) (hx : recU u = ((Value.iface 63 (Value.agg #[(Value.int .i64 code_)])), u')) (h : Hp) (K : FrameMode → Hp → Prop) (H :
  ∃ b_ o_, a0_ = some ⟨b_, o_, none⟩ ∧
  List.length [(Value.int .i64 (0 : Int)), (Value.int .u64 (0 : Int)), (Value.int .i64 (0 : Int)), (Value.string (⟨#[]⟩ : ByteArray))] = 4 ∧ (∀ c ∈ [(Value.int .i64 (0 : Int)), (Value.int .u64 (0 : Int)), (Value.int .i64 (0 : Int)), (Value.string (⟨#[]⟩ : ByteArray))], c.oneCell' = true) ∧ wrAt h b_ o_ 4 ∧ ∀ hp_, hp_ = setsH h b_ o_ [(Value.int .i64 (0 : Int)), (Value.int .u64 (0 : Int)), (Value.int .i64 (0 : Int)), (Value.string (⟨#[]⟩ : ByteArray))] →
  ∃ b_1 o_1, a1_ = some ⟨b_1, o_1, none⟩ ∧
  Value.oneCell' (Value.int .i64 (0 : Int)) = true ∧ wrAt hp_ b_1 o_1 1 ∧ ∀ hp_1, hp_1 = setsH hp_ b_1 o_1 [(Value.int .i64 (0 : Int))] →
  ∃ b_2 o_2, a2_ = some ⟨b_2, o_2, none⟩ ∧
  Value.oneCell' (Value.int .i64 code_) = true ∧ wrAt hp_1 b_2 o_2 1 ∧ ∀ hp_2, hp_2 = setsH hp_1 b_2 o_2 [(Value.int .i64 code_)] →
  K u' hp_2) :
  DefH Tryd.prog 31 #[(Value.pointer a0_), (Value.pointer a1_), (Value.pointer a2_)] u h K := calls_vcR fine Tryd.func31 (ann := A31p) (args := [(Value.pointer a0_), (Value.pointer a1_), (Value.pointer a2_)]) hx (by kernel_rfl) (Eq.mpr (by kernel_rfl) H)
/-- turnout/frame.want -/
def A32 : Ann := (.seq .nil (.cond .nil .nil))
theorem V32 (ok_ : Bool) (code_ : Int) (h : Hp) (R : Ending → Hp → Prop) (H :
  (((!ok_) = true →
    R (.panicked [{ v := (Value.iface 63 (Value.agg #[(Value.int .i64 code_)])), recovered := false }]) h) ∧
   ((!ok_) = false →
    R (.returned (Value.tuple #[])) h))) :
  CallsH Tryd.prog 32 #[(Value.bool ok_), (Value.int .i64 code_)] h R := calls_vc fine true Tryd.func32 (ann := A32) (args := [(Value.bool ok_), (Value.int .i64 code_)]) (by kernel_rfl) (Eq.mpr (by kernel_rfl) H)
/-- turnout/frame.said -/
def A33 : Ann := (.seq .nil (.seq .nil (.seq (.seq .nil (.block (.loop [(3, (.int .u64)), (7, (.int .i64))] (.seq .nil (.seq (.cond .nil .nil) (.seq (.block (.seq .nil .nil)) .nil)))))) (.seq .nil .nil))))
theorem V33 (s_ : ByteArray) (h : Hp) (R : Ending → Hp → Prop) (H :
  ∃ (Iv_ : List Value → Hp → Prop) (m_ : List Value → Hp → Nat), Iv_ [(Value.int .u64 (0 : Int)), (Value.int .i64 (0 : Int))] h ∧
  (∀ (n_ : Int) (x7_ : Int) hp_, Iv_ [(Value.int .u64 n_), (Value.int .i64 x7_)] hp_ →
   (((decide (x7_ < (ByteArray.size s_ : Int))) = true →
     0 ≤ (8 : Int) ∧ ∃ x11_, shlI .u64 n_ (8 : Int) = x11_ ∧
     0 ≤ x7_ ∧ ∃ x14_ : UInt8, s_[Int.toNat x7_]? = some x14_ ∧
     ∃ x15_, IntKind.u64.wrap (x14_.toNat : Int) = x15_ ∧
     ∃ x16_, orI .u64 x11_ x15_ = x16_ ∧
     ∃ x17_, IntKind.i64.wrap (x7_ + (1 : Int)) = x17_ ∧
     (Iv_ [(Value.int .u64 x16_), (Value.int .i64 x17_)] hp_ ∧ m_ [(Value.int .u64 x16_), (Value.int .i64 x17_)] hp_ < m_ [(Value.int .u64 n_), (Value.int .i64 x7_)] hp_)) ∧
    ((decide (x7_ < (ByteArray.size s_ : Int))) = false →
     R (.returned (Value.int .u64 n_)) hp_)))) :
  CallsH Tryd.prog 33 #[(Value.string s_)] h R := calls_vc fine false Tryd.func33 (ann := A33) (args := [(Value.string s_)]) (by kernel_rfl) (Eq.mpr (by kernel_rfl) H)
/-- turnout/turnoutref05.number -/
def A34 : Ann := (.seq .nil (.seq .nil (.seq (.seq .nil (.block (.loop [(3, (.int .u64)), (4, (.int .i64))] (.seq (.seq .nil (.cond .nil .nil)) (.seq (.block .nil) .nil))))) (.seq .nil .nil))))
theorem V34 (s_ : ByteArray) (h : Hp) (R : Ending → Hp → Prop) (H :
  ∃ (Iv_ : List Value → Hp → Prop) (m_ : List Value → Hp → Nat), Iv_ [(Value.int .u64 (0 : Int)), (Value.int .i64 (0 : Int))] h ∧
  (∀ (n_ : Int) (i_ : Int) hp_, Iv_ [(Value.int .u64 n_), (Value.int .i64 i_)] hp_ →
   (((decide (i_ < (ByteArray.size s_ : Int))) = true →
     ∃ x12_, IntKind.u64.wrap ((256 : Int) * n_) = x12_ ∧
     0 ≤ i_ ∧ ∃ x15_ : UInt8, s_[Int.toNat i_]? = some x15_ ∧
     ∃ x16_, IntKind.u64.wrap (x15_.toNat : Int) = x16_ ∧
     ∃ x17_, IntKind.u64.wrap (x12_ + x16_) = x17_ ∧
     ∃ x10_, IntKind.i64.wrap (i_ + (1 : Int)) = x10_ ∧
     (Iv_ [(Value.int .u64 x17_), (Value.int .i64 x10_)] hp_ ∧ m_ [(Value.int .u64 x17_), (Value.int .i64 x10_)] hp_ < m_ [(Value.int .u64 n_), (Value.int .i64 i_)] hp_)) ∧
    ((decide (i_ < (ByteArray.size s_ : Int))) = false →
     R (.returned (Value.int .u64 n_)) hp_)))) :
  CallsH Tryd.prog 34 #[(Value.string s_)] h R := calls_vc fine false Tryd.func34 (ann := A34) (args := [(Value.string s_)]) (by kernel_rfl) (Eq.mpr (by kernel_rfl) H)
/-- (*turnout/disk.Disk).Read -/
def A35 : Ann := (.seq .nil (.seq .nil (.seq (.seq .nil (.cond (.seq .nil .nil) .nil)) (.seq .nil (.seq (.seq .nil (.seq .nil (.cond (.seq .nil .nil) .nil))) (.seq .nil .nil))))))
theorem V35 (d_ : Option Addr) (n_ : Int) (h : Hp) (R : Ending → Hp → Prop) (H :
  CallsH Tryd.prog 37 #[(Value.pointer d_), (Value.int .i64 n_)] h fun en_ hp_ =>
  ∃ x11_ : Int, en_ = .returned (Value.int .i64 x11_) ∧
  (((decide (x11_ ≠ (0 : Int))) = true →
    R (.returned (Value.tuple #[(Value.string (⟨#[]⟩ : ByteArray)), (Value.int .i64 x11_)])) hp_) ∧
   ((decide (x11_ ≠ (0 : Int))) = false →
    ∃ b_ o_, d_ = some ⟨b_, o_, none⟩ ∧
    ∃ x19_ : Int, cellsAt hp_ b_ ((o_ + 6) + 0) [(Value.int .i64 x19_)] ∧
    ∃ x20_, IntKind.i64.wrap (x19_ + (1 : Int)) = x20_ ∧
    ∃ b_1 o_1, d_ = some ⟨b_1, o_1, none⟩ ∧
    Value.oneCell' (Value.int .i64 x20_) = true ∧ wrAt hp_ b_1 ((o_1 + 6) + 0) 1 ∧ ∀ hp_1, hp_1 = setsH hp_ b_1 ((o_1 + 6) + 0) [(Value.int .i64 x20_)] →
    ∃ b_2 o_2, d_ = some ⟨b_2, o_2, none⟩ ∧
    ∃ x28_ : Option Nat, cellsAt hp_1 b_2 (o_2 + 1) [(Value.map x28_)] ∧
    SemH Tryd.prog (Instr.lookup 69 (Value.map x28_) (Value.int .i64 n_) true) hp_1 fun v_ hp_2 =>
    ∃ x30r0_ : ByteArray, ∃ x30r1_ : Bool, v_ = (Value.tuple #[(Value.string x30r0_), (Value.bool x30r1_)]) ∧
    ((x30r1_ = true →
      R (.returned (Value.tuple #[(Value.string x30r0_), (Value.int .i64 (0 : Int))])) hp_2) ∧
     (x30r1_ = false →
      ∃ b_3 o_3, d_ = some ⟨b_3, o_3, none⟩ ∧
      ∃ (x38p_ : Option Addr) (x38n_ x38c_ : Nat), cellsAt hp_2 b_3 (o_3 + 0) [(Value.slice x38p_ x38n_ x38c_)] ∧
      ∃ b_4 o_4, x38p_ = some ⟨b_4, o_4, none⟩ ∧ 0 ≤ n_ ∧ n_ < (x38n_ : Int) ∧
      ∃ x41_ : ByteArray, cellsAt hp_2 b_4 (o_4 + Int.toNat n_ * 1) [(Value.string x41_)] ∧
      R (.returned (Value.tuple #[(Value.string x41_), (Value.int .i64 (0 : Int))])) hp_2))))) :
  CallsH Tryd.prog 35 #[(Value.pointer d_), (Value.int .i64 n_)] h R := calls_vc fine false Tryd.func35 (ann := A35) (args := [(Value.pointer d_), (Value.int .i64 n_)]) (by kernel_rfl) (Eq.mpr (by kernel_rfl) H)
/-- (*turnout/disk.Disk).Write -/
def A36 : Ann := (.seq .nil (.seq .nil (.seq (.seq .nil (.cond (.seq .nil .nil) .nil)) (.seq (.seq .nil (.cond (.seq .nil .nil) .nil)) (.seq (.seq .nil (.cond (.seq .nil .nil) .nil)) (.seq .nil (.seq (.drawLast [4]) (.seq .nil (.seq .nil (.seq .nil .nil))))))))))
theorem V36 (d_ : Option Addr) (n_ : Int) (s_ : ByteArray) (h : Hp) (R : Ending → Hp → Prop) (H :
  ∀ b_ hp_, b_ = Array.size h → hp_ = Array.push h (.cells #[(Value.int .i64 n_)] 3) →
  ∀ b_1 hp_1, b_1 = Array.size hp_ → hp_1 = Array.push hp_ (.cells #[(Value.string s_)] 9) →
  ∃ x9_ : Int, cellsAt hp_1 b_ 0 [(Value.int .i64 x9_)] ∧
  CallsH Tryd.prog 37 #[(Value.pointer d_), (Value.int .i64 x9_)] hp_1 fun en_ hp_2 =>
  ∃ x10_ : Int, en_ = .returned (Value.int .i64 x10_) ∧
  (((decide (x10_ ≠ (0 : Int))) = true →
    R (.returned (Value.int .i64 x10_)) hp_2) ∧
   ((decide (x10_ ≠ (0 : Int))) = false →
    ∃ x14_ : ByteArray, cellsAt hp_2 b_1 0 [(Value.string x14_)] ∧
    (((decide ((ByteArray.size x14_ : Int) ≠ (512 : Int))) = true →
      R (.returned (Value.int .i64 (42 : Int))) hp_2) ∧
     ((decide ((ByteArray.size x14_ : Int) ≠ (512 : Int))) = false →
      CallsH Tryd.prog 38 #[(Value.pointer d_)] hp_2 fun en_1 hp_3 =>
      ∃ x18_ : Bool, en_1 = .returned (Value.bool x18_) ∧
      (((!x18_) = true →
        R (.returned (Value.int .i64 (40 : Int))) hp_3) ∧
       ((!x18_) = false →
        ∃ b_2 o_, d_ = some ⟨b_2, o_, none⟩ ∧
        ∃ x23_ : Option Nat, cellsAt hp_3 b_2 (o_ + 1) [(Value.map x23_)] ∧
        ∃ x24_ : Int, cellsAt hp_3 b_ 0 [(Value.int .i64 x24_)] ∧
        ∃ x25_ : ByteArray, cellsAt hp_3 b_1 0 [(Value.string x25_)] ∧
        SemH Tryd.prog (Instr.mapUpdate 69 (Value.map x23_) (Value.int .i64 x24_) (Value.string x25_)) hp_3 fun _ hp_4 =>
        ∃ Cv_ : Hp → Prop, Cv_ hp_4 ∧
        ∃ b_3 o_1, d_ = some ⟨b_3, o_1, none⟩ ∧
        ∃ (x30p_ : Option Addr) (x30n_ x30c_ : Nat), (∀ h', Cv_ h' → cellsAt h' b_3 (o_1 + 2) [(Value.slice x30p_ x30n_ x30c_)]) ∧
        ∃ x31_ : Int, cellsAt hp_4 b_ 0 [(Value.int .i64 x31_)] ∧
        SemH Tryd.prog (Instr.buildSlice 70 1 #[(0, (Value.int .i64 x31_))]) hp_4 fun v_ hp_5 =>
        ∃ (x32p_ : Option Addr) (x32n_ x32c_ : Nat), v_ = (Value.slice x32p_ x32n_ x32c_) ∧
        Cv_ hp_5 ∧
        SemH Tryd.prog (Builtin.append_ #[70, 70] 70 #[(Value.slice x30p_ x30n_ x30c_), (Value.slice x32p_ x32n_ x32c_)]) hp_5 fun v_1 hp_6 =>
        ∃ (x33p_ : Option Addr) (x33n_ x33c_ : Nat), v_1 = (Value.slice x33p_ x33n_ x33c_) ∧
        Cv_ hp_6 ∧
        ∃ b_4 o_2, d_ = some ⟨b_4, o_2, none⟩ ∧
        Value.oneCell' (Value.slice x33p_ x33n_ x33c_) = true ∧ wrAt hp_6 b_4 (o_2 + 2) 1 ∧ ∀ hp_7, hp_7 = setsH hp_6 b_4 (o_2 + 2) [(Value.slice x33p_ x33n_ x33c_)] →
        ∃ b_5 o_3, d_ = some ⟨b_5, o_3, none⟩ ∧
        ∃ (x40p_ : Option Addr) (x40n_ x40c_ : Nat), cellsAt hp_7 b_5 (o_3 + 3) [(Value.slice x40p_ x40n_ x40c_)] ∧
        SemH Tryd.prog (Instr.buildSlice 71 1 #[(0, (Value.func (.func 43) #[] #[(Value.pointer (some ⟨b_1, 0, none⟩)), (Value.pointer (some ⟨b_, 0, none⟩))]))]) hp_7 fun v_2 hp_8 =>
        ∃ (x42p_ : Option Addr) (x42n_ x42c_ : Nat), v_2 = (Value.slice x42p_ x42n_ x42c_) ∧
        SemH Tryd.prog (Builtin.append_ #[71, 71] 71 #[(Value.slice x40p_ x40n_ x40c_), (Value.slice x42p_ x42n_ x42c_)]) hp_8 fun v_3 hp_9 =>
        ∃ (x43p_ : Option Addr) (x43n_ x43c_ : Nat), v_3 = (Value.slice x43p_ x43n_ x43c_) ∧
        ∃ b_6 o_4, d_ = some ⟨b_6, o_4, none⟩ ∧
        Value.oneCell' (Value.slice x43p_ x43n_ x43c_) = true ∧ wrAt hp_9 b_6 (o_4 + 3) 1 ∧ ∀ hp_10, hp_10 = setsH hp_9 b_6 (o_4 + 3) [(Value.slice x43p_ x43n_ x43c_)] →
        ∃ b_7 o_5, d_ = some ⟨b_7, o_5, none⟩ ∧
        ∃ x50_ : Int, cellsAt hp_10 b_7 ((o_5 + 6) + 1) [(Value.int .i64 x50_)] ∧
        ∃ x51_, IntKind.i64.wrap (x50_ + (1 : Int)) = x51_ ∧
        ∃ b_8 o_6, d_ = some ⟨b_8, o_6, none⟩ ∧
        Value.oneCell' (Value.int .i64 x51_) = true ∧ wrAt hp_10 b_8 ((o_6 + 6) + 1) 1 ∧ ∀ hp_11, hp_11 = setsH hp_10 b_8 ((o_6 + 6) + 1) [(Value.int .i64 x51_)] →
        R (.returned (Value.int .i64 (0 : Int))) hp_11))))))) :
  CallsH Tryd.prog 36 #[(Value.pointer d_), (Value.int .i64 n_), (Value.string s_)] h R := calls_vc fine false Tryd.func36 (ann := A36) (args := [(Value.pointer d_), (Value.int .i64 n_), (Value.string s_)]) (by kernel_rfl) (Eq.mpr (by kernel_rfl) H)
/-- (*turnout/disk.Disk).asked -/
def A37 : Ann := (.seq .nil (.seq (.block (.seq .nil (.cond (.seq .nil .nil) (.seq .nil (.cond (.seq .nil .nil) (.seq (.join 13) (.cond (.seq .nil .nil) .nil))))))) (.seq .nil .nil)))
theorem V37 (d_ : Option Addr) (n_ : Int) (h : Hp) (R : Ending → Hp → Prop) (H :
  ∃ x7_, EqV Tryd.prog 45 (Value.pointer d_) (Value.pointer none) x7_ ∧
  ((x7_ = true →
    R (.returned (Value.int .i64 (1 : Int))) h) ∧
   (x7_ = false →
    ∃ b_ o_, d_ = some ⟨b_, o_, none⟩ ∧
    ∃ x12_ : Bool, cellsAt h b_ (o_ + 4) [(Value.bool x12_)] ∧
    ((x12_ = true →
      R (.returned (Value.int .i64 (40 : Int))) h) ∧
     (x12_ = false →
      ∃ B_ : Bool, ((((decide (n_ < (0 : Int))) = true →
         h = h ∧ B_ = true) ∧
        ((decide (n_ < (0 : Int))) = false →
         ∃ b_1 o_1, d_ = some ⟨b_1, o_1, none⟩ ∧
         ∃ (x21p_ : Option Addr) (x21n_ x21c_ : Nat), cellsAt h b_1 (o_1 + 0) [(Value.slice x21p_ x21n_ x21c_)] ∧
         h = h ∧ B_ = (decide (((x21n_ : Nat) : Int) ≤ n_))))) ∧
      ((B_ = true →
        R (.returned (Value.int .i64 (41 : Int))) h) ∧
       (B_ = false →
        R (.returned (Value.int .i64 (0 : Int))) h))))))) :
  CallsH Tryd.prog 37 #[(Value.pointer d_), (Value.int .i64 n_)] h R := calls_vc fine false Tryd.func37 (ann := A37) (args := [(Value.pointer d_), (Value.int .i64 n_)]) (by kernel_rfl) (Eq.mpr (by kernel_rfl) H)
/-- (*turnout/disk.Disk).step -/
def A38 : Ann := (.seq .nil (.seq (.seq .nil (.cond (.seq .nil .nil) .nil)) (.seq .nil (.seq .nil (.seq .nil .nil)))))
theorem V38 (d_ : Option Addr) (h : Hp) (R : Ending → Hp → Prop) (H :
  ∃ b_ o_, d_ = some ⟨b_, o_, none⟩ ∧
  ∃ x6_ : Int, cellsAt h b_ (o_ + 5) [(Value.int .i64 x6_)] ∧
  (((decide (x6_ = (0 : Int))) = true →
    R (.returned (Value.bool true)) h) ∧
   ((decide (x6_ = (0 : Int))) = false →
    ∃ b_1 o_1, d_ = some ⟨b_1, o_1, none⟩ ∧
    ∃ x11_ : Int, cellsAt h b_1 (o_1 + 5) [(Value.int .i64 x11_)] ∧
    ∃ x12_, IntKind.i64.wrap (x11_ - (1 : Int)) = x12_ ∧
    ∃ b_2 o_2, d_ = some ⟨b_2, o_2, none⟩ ∧
    Value.oneCell' (Value.int .i64 x12_) = true ∧ wrAt h b_2 (o_2 + 5) 1 ∧ ∀ hp_, hp_ = setsH h b_2 (o_2 + 5) [(Value.int .i64 x12_)] →
    ∃ b_3 o_3, d_ = some ⟨b_3, o_3, none⟩ ∧
    ∃ x19_ : Int, cellsAt hp_ b_3 (o_3 + 5) [(Value.int .i64 x19_)] ∧
    ∃ b_4 o_4, d_ = some ⟨b_4, o_4, none⟩ ∧
    Value.oneCell' (Value.bool (decide (x19_ = (0 : Int)))) = true ∧ wrAt hp_ b_4 (o_4 + 4) 1 ∧ ∀ hp_1, hp_1 = setsH hp_ b_4 (o_4 + 4) [(Value.bool (decide (x19_ = (0 : Int))))] →
    ∃ b_5 o_5, d_ = some ⟨b_5, o_5, none⟩ ∧
    ∃ x26_ : Bool, cellsAt hp_1 b_5 (o_5 + 4) [(Value.bool x26_)] ∧
    R (.returned (Value.bool (!x26_))) hp_1))) :
  CallsH Tryd.prog 38 #[(Value.pointer d_)] h R := calls_vc fine false Tryd.func38 (ann := A38) (args := [(Value.pointer d_)]) (by kernel_rfl) (Eq.mpr (by kernel_rfl) H)
/-- (*turnout/disk.Disk).forget -/
def A39 : Ann := (.seq .nil (.seq .nil .nil))
theorem V39 (d_ : Option Addr) (h : Hp) (R : Ending → Hp → Prop) (H :
  ∃ b_ o_, d_ = some ⟨b_, o_, none⟩ ∧
  ∃ x5_ : Option Nat, cellsAt h b_ (o_ + 1) [(Value.map x5_)] ∧
  SemH Tryd.prog (Builtin.clear_ #[69] 0 #[(Value.map x5_)]) h fun v_ hp_ =>
  v_ = (Value.tuple #[]) ∧
  ∃ b_1 o_1, d_ = some ⟨b_1, o_1, none⟩ ∧
  Value.oneCell' (Value.slice none 0 0) = true ∧ wrAt hp_ b_1 (o_1 + 2) 1 ∧ ∀ hp_1, hp_1 = setsH hp_ b_1 (o_1 + 2) [(Value.slice none 0 0)] →
  ∃ b_2 o_2, d_ = some ⟨b_2, o_2, none⟩ ∧
  Value.oneCell' (Value.slice none 0 0) = true ∧ wrAt hp_1 b_2 (o_2 + 3) 1 ∧ ∀ hp_2, hp_2 = setsH hp_1 b_2 (o_2 + 3) [(Value.slice none 0 0)] →
  R (.returned (Value.tuple #[])) hp_2) :
  CallsH Tryd.prog 39 #[(Value.pointer d_)] h R := calls_vc fine false Tryd.func39 (ann := A39) (args := [(Value.pointer d_)]) (by kernel_rfl) (Eq.mpr (by kernel_rfl) H)
/-- turnout/disk.kept -/
def A40 : Ann := (.seq .nil (.seq (.seq .nil (.block (.seq .nil (.cond (.seq .nil .nil) (.seq .nil (.cond (.seq .nil .nil) .nil)))))) (.seq .nil .nil)))
theorem V40 (ff0_ : Int) (ff1_ : Int) (h : Hp) (R : Ending → Hp → Prop) (H :
  ∀ b_ hp_, b_ = Array.size h → hp_ = Array.push h (.cells #[(Value.int .i64 ff0_), (Value.int .i64 ff1_)] 55) →
  ∃ x4_ : Int, cellsAt hp_ b_ (0 + 0) [(Value.int .i64 x4_)] ∧
  (((decide (x4_ = (1 : Int))) = true →
    R (.returned (Value.int .i64 (512 : Int))) hp_) ∧
   ((decide (x4_ = (1 : Int))) = false →
    (((decide (x4_ = (2 : Int))) = true →
      ∃ x10_ : Int, cellsAt hp_ b_ (0 + 1) [(Value.int .i64 x10_)] ∧
      R (.returned (Value.int .i64 (min (max x10_ (0 : Int)) (512 : Int)))) hp_) ∧
     ((decide (x4_ = (2 : Int))) = false →
      R (.returned (Value.int .i64 (0 : Int))) hp_))))) :
  CallsH Tryd.prog 40 #[(Value.agg #[(Value.int .i64 ff0_), (Value.int .i64 ff1_)])] h R := calls_vc fine false Tryd.func40 (ann := A40) (args := [(Value.agg #[(Value.int .i64 ff0_), (Value.int .i64 ff1_)])]) (by kernel_rfl) (Eq.mpr (by kernel_rfl) H)
/-- turnout/sums.takes -/
def A41 : Ann := (.seq .nil (.seq (.seq .nil (.block (.loop [(0, (.int .u32)), (8, (.int .i64))] (.seq .nil (.seq (.cond .nil .nil) (.seq (.block (.seq .nil (.seq .nil (.seq .nil .nil)))) .nil)))))) (.seq .nil .nil)))
theorem V41 (r_ : Int) (b_ : ByteArray) (h : Hp) (R : Ending → Hp → Prop) (H :
  ∃ (Iv_ : List Value → Hp → Prop) (m_ : List Value → Hp → Nat), Iv_ [(Value.int .u32 r_), (Value.int .i64 (0 : Int))] h ∧
  (∀ (r_1 : Int) (x8_ : Int) hp_, Iv_ [(Value.int .u32 r_1), (Value.int .i64 x8_)] hp_ →
   (((decide (x8_ < (ByteArray.size b_ : Int))) = true →
     0 ≤ x8_ ∧ ∃ x14_ : UInt8, b_[Int.toNat x8_]? = some x14_ ∧
     ∃ x15_, IntKind.u32.wrap (x14_.toNat : Int) = x15_ ∧
     ∃ x16_, xorI .u32 r_1 x15_ = x16_ ∧
     0 ≤ (4 : Int) ∧ ∃ x18_, shrI .u32 x16_ (4 : Int) = x18_ ∧
     ∃ x20_, andI .u32 x16_ (15 : Int) = x20_ ∧
     0 ≤ x20_ ∧ x20_ < ((16 : Nat) : Int) ∧
     ∃ x22_ : Int, cellsAt hp_ 0 (0 + Int.toNat x20_ * 1) [(Value.int .u32 x22_)] ∧
     ∃ x23_, xorI .u32 x18_ x22_ = x23_ ∧
     0 ≤ (4 : Int) ∧ ∃ x25_, shrI .u32 x23_ (4 : Int) = x25_ ∧
     ∃ x27_, andI .u32 x23_ (15 : Int) = x27_ ∧
     0 ≤ x27_ ∧ x27_ < ((16 : Nat) : Int) ∧
     ∃ x29_ : Int, cellsAt hp_ 0 (0 + Int.toNat x27_ * 1) [(Value.int .u32 x29_)] ∧
     ∃ x30_, xorI .u32 x25_ x29_ = x30_ ∧
     ∃ x31_, IntKind.i64.wrap (x8_ + (1 : Int)) = x31_ ∧
     (Iv_ [(Value.int .u32 x30_), (Value.int .i64 x31_)] hp_ ∧ m_ [(Value.int .u32 x30_), (Value.int .i64 x31_)] hp_ < m_ [(Value.int .u32 r_1), (Value.int .i64 x8_)] hp_)) ∧
    ((decide (x8_ < (ByteArray.size b_ : Int))) = false →
     R (.returned (Value.int .u32 r_1)) hp_)))) :
  CallsH Tryd.prog 41 #[(Value.int .u32 r_), (Value.string b_)] h R := calls_vc fine false Tryd.func41 (ann := A41) (args := [(Value.int .u32 r_), (Value.string b_)]) (by kernel_rfl) (Eq.mpr (by kernel_rfl) H)
/-- turnout/turnoutref02.More -/
def A42 : Ann := (.seq .nil (.seq .nil (.seq .nil .nil)))
theorem V42 (sum_ : Int) (b_ : ByteArray) (h : Hp) (R : Ending → Hp → Prop) (H :
  CallsH Tryd.prog 45 #[(Value.int .u32 sum_)] h fun en_ hp_ =>
  ∃ x7_ : Int, en_ = .returned (Value.int .u32 x7_) ∧
  CallsH Tryd.prog 44 #[(Value.int .u32 x7_), (Value.string b_)] hp_ fun en_1 hp_1 =>
  ∃ x9_ : Int, en_1 = .returned (Value.int .u32 x9_) ∧
  CallsH Tryd.prog 45 #[(Value.int .u32 x9_)] hp_1 fun en_2 hp_2 =>
  ∃ x11_ : Int, en_2 = .returned (Value.int .u32 x11_) ∧
  R (.returned (Value.int .u32 x11_)) hp_2) :
  CallsH Tryd.prog 42 #[(Value.int .u32 sum_), (Value.string b_)] h R := calls_vc fine false Tryd.func42 (ann := A42) (args := [(Value.int .u32 sum_), (Value.string b_)]) (by kernel_rfl) (Eq.mpr (by kernel_rfl) H)
/-- (*turnout/disk.Disk).Write$1 -/
def A43 : Ann := .nil
theorem V43 (safep_ : Option Addr) (safen_ safec_ : Nat) (keep_ : Int) (a2_ : Option Addr) (a3_ : Option Addr) (h : Hp) (R : Ending → Hp → Prop) (H :
  ∃ b_ o_, a3_ = some ⟨b_, o_, none⟩ ∧
  ∃ x7_ : Int, cellsAt h b_ o_ [(Value.int .i64 x7_)] ∧
  ∃ b_1 o_1, a2_ = some ⟨b_1, o_1, none⟩ ∧
  ∃ x8_ : ByteArray, cellsAt h b_1 o_1 [(Value.string x8_)] ∧
  ∃ u_ : Nat, keep_ = (u_ : Int) ∧
  0 ≤ u_ ∧ u_ ≤ ByteArray.size x8_ ∧ ∃ x10_, ByteArray.extract x8_ 0 u_ = x10_ ∧
  ∃ b_2 o_2, a3_ = some ⟨b_2, o_2, none⟩ ∧
  ∃ x12_ : Int, cellsAt h b_2 o_2 [(Value.int .i64 x12_)] ∧
  ∃ b_3 o_3, safep_ = some ⟨b_3, o_3, none⟩ ∧ 0 ≤ x12_ ∧ x12_ < (safen_ : Int) ∧
  ∃ x14_ : ByteArray, cellsAt h b_3 (o_3 + Int.toNat x12_ * 1) [(Value.string x14_)] ∧
  ∃ l_ : Nat, keep_ = (l_ : Int) ∧
  l_ ≤ (ByteArray.size x14_) ∧ (ByteArray.size x14_) ≤ ByteArray.size x14_ ∧ ∃ x16_, ByteArray.extract x14_ l_ (ByteArray.size x14_) = x16_ ∧
  ByteArray.size x10_ + ByteArray.size x16_ ≤ 9223372036854775807 ∧ ∃ x17_, x10_ ++ x16_ = x17_ ∧
  ∃ b_4 o_4, safep_ = some ⟨b_4, o_4, none⟩ ∧ 0 ≤ x7_ ∧ x7_ < (safen_ : Int) ∧
  Value.oneCell' (Value.string x17_) = true ∧ wrAt h b_4 (o_4 + Int.toNat x7_ * 1) 1 ∧ ∀ hp_, hp_ = setsH h b_4 (o_4 + Int.toNat x7_ * 1) [(Value.string x17_)] →
  R (.returned (Value.tuple #[])) hp_) :
  CallsH Tryd.prog 43 #[(Value.slice safep_ safen_ safec_), (Value.int .i64 keep_), (Value.pointer a2_), (Value.pointer a3_)] h R := calls_vc fine false Tryd.func43 (ann := A43) (args := [(Value.slice safep_ safen_ safec_), (Value.int .i64 keep_), (Value.pointer a2_), (Value.pointer a3_)]) (by kernel_rfl) (Eq.mpr (by kernel_rfl) H)
/-- turnout/turnoutref02.takes -/
def A44 : Ann := (.seq .nil (.seq (.seq .nil (.block (.loop [(0, (.int .u32)), (5, (.int .i64))] (.seq (.seq .nil (.cond .nil .nil)) (.seq (.block (.seq .nil (.seq .nil (.block (.loop [(0, (.int .u32)), (6, (.int .i64))] (.seq (.seq .nil (.cond .nil .nil)) (.seq (.block .nil) .nil))))))) .nil))))) (.seq .nil .nil)))
theorem V44 (r_ : Int) (b_ : ByteArray) (h : Hp) (R : Ending → Hp → Prop) (H :
  ∃ (Iv_ : List Value → Hp → Prop) (m_ : List Value → Hp → Nat), Iv_ [(Value.int .u32 r_), (Value.int .i64 (0 : Int))] h ∧
  (∀ (r_1 : Int) (i_ : Int) hp_, Iv_ [(Value.int .u32 r_1), (Value.int .i64 i_)] hp_ →
   (((decide (i_ < (ByteArray.size b_ : Int))) = true →
     0 ≤ i_ ∧ ∃ x16_ : UInt8, b_[Int.toNat i_]? = some x16_ ∧
     ∃ x17_, IntKind.u32.wrap (x16_.toNat : Int) = x17_ ∧
     ∃ x18_, xorI .u32 r_1 x17_ = x18_ ∧
     ∃ (Iv_1 : List Value → Hp → Prop) (m_1 : List Value → Hp → Nat), Iv_1 [(Value.int .u32 x18_), (Value.int .i64 (0 : Int))] hp_ ∧
     (∀ (r_2 : Int) (k_ : Int) hp_1, Iv_1 [(Value.int .u32 r_2), (Value.int .i64 k_)] hp_1 →
      (((decide (k_ < (8 : Int))) = true →
        CallsH Tryd.prog 46 #[(Value.int .u32 r_2)] hp_1 fun en_ hp_2 =>
        ∃ x24_ : Int, en_ = .returned (Value.int .u32 x24_) ∧
        ∃ x22_, IntKind.i64.wrap (k_ + (1 : Int)) = x22_ ∧
        (Iv_1 [(Value.int .u32 x24_), (Value.int .i64 x22_)] hp_2 ∧ m_1 [(Value.int .u32 x24_), (Value.int .i64 x22_)] hp_2 < m_1 [(Value.int .u32 r_2), (Value.int .i64 k_)] hp_1)) ∧
       ((decide (k_ < (8 : Int))) = false →
        ∃ x12_, IntKind.i64.wrap (i_ + (1 : Int)) = x12_ ∧
        (Iv_ [(Value.int .u32 r_2), (Value.int .i64 x12_)] hp_1 ∧ m_ [(Value.int .u32 r_2), (Value.int .i64 x12_)] hp_1 < m_ [(Value.int .u32 r_1), (Value.int .i64 i_)] hp_))))) ∧
    ((decide (i_ < (ByteArray.size b_ : Int))) = false →
     R (.returned (Value.int .u32 r_1)) hp_)))) :
  CallsH Tryd.prog 44 #[(Value.int .u32 r_), (Value.string b_)] h R := calls_vc fine false Tryd.func44 (ann := A44) (args := [(Value.int .u32 r_), (Value.string b_)]) (by kernel_rfl) (Eq.mpr (by kernel_rfl) H)
/-- turnout/turnoutref02.over -/
def A45 : Ann := (.seq .nil (.seq .nil .nil))
theorem V45 (r_ : Int) (h : Hp) (R : Ending → Hp → Prop) (H :
  ∃ x4_, IntKind.u32.wrap ((4294967295 : Int) - r_) = x4_ ∧
  R (.returned (Value.int .u32 x4_)) h) :
  CallsH Tryd.prog 45 #[(Value.int .u32 r_)] h R := calls_vc fine false Tryd.func45 (ann := A45) (args := [(Value.int .u32 r_)]) (by kernel_rfl) (Eq.mpr (by kernel_rfl) H)
/-- turnout/turnoutref02.turn -/
def A46 : Ann := (.seq .nil (.seq (.seq .nil (.cond (.seq .nil .nil) .nil)) (.seq .nil .nil)))
theorem V46 (r_ : Int) (h : Hp) (R : Ending → Hp → Prop) (H :
  (2 : Int) ≠ 0 ∧ ∃ x4_, Int.tmod r_ (2 : Int) = x4_ ∧
  (((decide (x4_ = (1 : Int))) = true →
    (2 : Int) ≠ 0 ∧ ∃ x7_, IntKind.u32.wrap (Int.tdiv r_ (2 : Int)) = x7_ ∧
    ∃ x8_, xorI .u32 x7_ (3988292384 : Int) = x8_ ∧
    R (.returned (Value.int .u32 x8_)) h) ∧
   ((decide (x4_ = (1 : Int))) = false →
    (2 : Int) ≠ 0 ∧ ∃ x10_, IntKind.u32.wrap (Int.tdiv r_ (2 : Int)) = x10_ ∧
    R (.returned (Value.int .u32 x10_)) h))) :
  CallsH Tryd.prog 46 #[(Value.int .u32 r_)] h R := calls_vc fine false Tryd.func46 (ann := A46) (args := [(Value.int .u32 r_)]) (by kernel_rfl) (Eq.mpr (by kernel_rfl) H)
end Go.Vc
