import Derived.Test.YtlidgpojlgochaaDoorVcL
import Derived.Test.YtlidgpojlgochaaDoorProg
set_option maxRecDepth 10000
namespace Go.Vc
open Go Go.Proofs
set_option maxRecDepth 100000
theorem fine : Fine Tryd.prog := fine_of (by kernel_rfl) (by kernel_rfl)
/-- turnout/turnoutlaw20.CkptLays -/
def A3 : Ann := (.seq .nil (.seq .nil (.seq .nil (.seq .nil (.seq .nil (.seq .nil (.seq (.join 8) .nil)))))))
theorem V3 (sectors_ : Int) (slot_ : Int) (hf0_ : Int) (hf1_ : Int) (hf2_ : Int) (hf3_ : Int) (hf4_ : Int) (above_ : Int) (h : Hp) (R : Ending → Hp → Prop) (H :
  ∀ b_ hp_, b_ = Array.size h → hp_ = Array.push h (.cells #[(Value.int .i64 hf0_), (Value.int .u64 hf1_), (Value.int .u64 hf2_), (Value.int .i64 hf3_), (Value.int .i64 hf4_)] 26) →
  CallsH Tryd.prog 9 #[] hp_ fun en_ hp_1 =>
  ∃ x18_ : Bool, en_ = .returned (Value.bool x18_) ∧
  CallsH Tryd.prog 10 #[(Value.int .i64 sectors_), (Value.int .i64 slot_)] hp_1 fun en_1 hp_2 =>
  ∃ x22r0f0_ : Int, ∃ x22r0f1_ : Int, ∃ x22r1_ : Int, en_1 = .returned (Value.tuple #[(Value.agg #[(Value.int .i64 x22r0f0_), (Value.int .i64 x22r0f1_)]), (Value.int .i64 x22r1_)]) ∧
  ∀ b_1 hp_3, b_1 = Array.size hp_2 → hp_3 = Array.push hp_2 (.cells (zeros Tryd.prog 24) 24) → (∃ i z, Tryd.prog.info? 24 = some i ∧ i.zero = some z) ∧
  List.length [(Value.int .i64 x22r0f0_), (Value.int .i64 x22r0f1_)] = 2 ∧ (∀ c ∈ [(Value.int .i64 x22r0f0_), (Value.int .i64 x22r0f1_)], c.oneCell' = true) ∧ wrAt hp_3 b_1 0 2 ∧ ∀ hp_4, hp_4 = setsH hp_3 b_1 0 [(Value.int .i64 x22r0f0_), (Value.int .i64 x22r0f1_)] →
  CallsH Tryd.prog 11 #[(Value.int .i64 sectors_), (Value.int .i64 slot_)] hp_4 fun en_2 hp_5 =>
  ∃ x28r0f0_ : Int, ∃ x28r0f1_ : Int, ∃ x28r1_ : Int, en_2 = .returned (Value.tuple #[(Value.agg #[(Value.int .i64 x28r0f0_), (Value.int .i64 x28r0f1_)]), (Value.int .i64 x28r1_)]) ∧
  ∀ b_2 hp_6, b_2 = Array.size hp_5 → hp_6 = Array.push hp_5 (.cells (zeros Tryd.prog 24) 24) → (∃ i z, Tryd.prog.info? 24 = some i ∧ i.zero = some z) ∧
  List.length [(Value.int .i64 x28r0f0_), (Value.int .i64 x28r0f1_)] = 2 ∧ (∀ c ∈ [(Value.int .i64 x28r0f0_), (Value.int .i64 x28r0f1_)], c.oneCell' = true) ∧ wrAt hp_6 b_2 0 2 ∧ ∀ hp_7, hp_7 = setsH hp_6 b_2 0 [(Value.int .i64 x28r0f0_), (Value.int .i64 x28r0f1_)] →
  ∃ x32f0_ : Int, ∃ x32f1_ : Int, ∃ x32f2_ : Int, ∃ x32f3_ : Int, ∃ x32f4_ : Int, cellsAt hp_7 b_ 0 [(Value.int .i64 x32f0_), (Value.int .u64 x32f1_), (Value.int .u64 x32f2_), (Value.int .i64 x32f3_), (Value.int .i64 x32f4_)] ∧
  CallsH Tryd.prog 12 #[(Value.agg #[(Value.int .i64 x32f0_), (Value.int .u64 x32f1_), (Value.int .u64 x32f2_), (Value.int .i64 x32f3_), (Value.int .i64 x32f4_)]), (Value.int .u64 above_)] hp_7 fun en_3 hp_8 =>
  ∃ x34r0f0_ : Int, ∃ x34r0f1_ : Int, ∃ x34r0f2_ : Int, ∃ x34r0f3_ : Int, ∃ x34r0f4_ : Int, ∃ x34r1_ : Int, en_3 = .returned (Value.tuple #[(Value.agg #[(Value.int .i64 x34r0f0_), (Value.int .u64 x34r0f1_), (Value.int .u64 x34r0f2_), (Value.int .i64 x34r0f3_), (Value.int .i64 x34r0f4_)]), (Value.int .i64 x34r1_)]) ∧
  ∀ b_3 hp_9, b_3 = Array.size hp_8 → hp_9 = Array.push hp_8 (.cells (zeros Tryd.prog 26) 26) → (∃ i z, Tryd.prog.info? 26 = some i ∧ i.zero = some z) ∧
  List.length [(Value.int .i64 x34r0f0_), (Value.int .u64 x34r0f1_), (Value.int .u64 x34r0f2_), (Value.int .i64 x34r0f3_), (Value.int .i64 x34r0f4_)] = 5 ∧ (∀ c ∈ [(Value.int .i64 x34r0f0_), (Value.int .u64 x34r0f1_), (Value.int .u64 x34r0f2_), (Value.int .i64 x34r0f3_), (Value.int .i64 x34r0f4_)], c.oneCell' = true) ∧ wrAt hp_9 b_3 0 5 ∧ ∀ hp_10, hp_10 = setsH hp_9 b_3 0 [(Value.int .i64 x34r0f0_), (Value.int .u64 x34r0f1_), (Value.int .u64 x34r0f2_), (Value.int .i64 x34r0f3_), (Value.int .i64 x34r0f4_)] →
  ∃ x38f0_ : Int, ∃ x38f1_ : Int, ∃ x38f2_ : Int, ∃ x38f3_ : Int, ∃ x38f4_ : Int, cellsAt hp_10 b_ 0 [(Value.int .i64 x38f0_), (Value.int .u64 x38f1_), (Value.int .u64 x38f2_), (Value.int .i64 x38f3_), (Value.int .i64 x38f4_)] ∧
  CallsH Tryd.prog 13 #[(Value.agg #[(Value.int .i64 x38f0_), (Value.int .u64 x38f1_), (Value.int .u64 x38f2_), (Value.int .i64 x38f3_), (Value.int .i64 x38f4_)]), (Value.int .u64 above_)] hp_10 fun en_4 hp_11 =>
  ∃ x40r0f0_ : Int, ∃ x40r0f1_ : Int, ∃ x40r0f2_ : Int, ∃ x40r0f3_ : Int, ∃ x40r0f4_ : Int, ∃ x40r1_ : Int, en_4 = .returned (Value.tuple #[(Value.agg #[(Value.int .i64 x40r0f0_), (Value.int .u64 x40r0f1_), (Value.int .u64 x40r0f2_), (Value.int .i64 x40r0f3_), (Value.int .i64 x40r0f4_)]), (Value.int .i64 x40r1_)]) ∧
  ∀ b_4 hp_12, b_4 = Array.size hp_11 → hp_12 = Array.push hp_11 (.cells (zeros Tryd.prog 26) 26) → (∃ i z, Tryd.prog.info? 26 = some i ∧ i.zero = some z) ∧
  List.length [(Value.int .i64 x40r0f0_), (Value.int .u64 x40r0f1_), (Value.int .u64 x40r0f2_), (Value.int .i64 x40r0f3_), (Value.int .i64 x40r0f4_)] = 5 ∧ (∀ c ∈ [(Value.int .i64 x40r0f0_), (Value.int .u64 x40r0f1_), (Value.int .u64 x40r0f2_), (Value.int .i64 x40r0f3_), (Value.int .i64 x40r0f4_)], c.oneCell' = true) ∧ wrAt hp_12 b_4 0 5 ∧ ∀ hp_13, hp_13 = setsH hp_12 b_4 0 [(Value.int .i64 x40r0f0_), (Value.int .u64 x40r0f1_), (Value.int .u64 x40r0f2_), (Value.int .i64 x40r0f3_), (Value.int .i64 x40r0f4_)] →
  ∃ B_ : Bool, (((x18_ = true →
     ∃ x45f0_ : Int, ∃ x45f1_ : Int, cellsAt hp_13 b_1 0 [(Value.int .i64 x45f0_), (Value.int .i64 x45f1_)] ∧
     ∃ x46f0_ : Int, ∃ x46f1_ : Int, cellsAt hp_13 b_2 0 [(Value.int .i64 x46f0_), (Value.int .i64 x46f1_)] ∧
     ∃ x47_, EqV Tryd.prog 24 (Value.agg #[(Value.int .i64 x45f0_), (Value.int .i64 x45f1_)]) (Value.agg #[(Value.int .i64 x46f0_), (Value.int .i64 x46f1_)]) x47_ ∧
     ((x47_ = true →
       (((decide (x22r1_ = x28r1_)) = true →
         ∃ x55f0_ : Int, ∃ x55f1_ : Int, ∃ x55f2_ : Int, ∃ x55f3_ : Int, ∃ x55f4_ : Int, cellsAt hp_13 b_3 0 [(Value.int .i64 x55f0_), (Value.int .u64 x55f1_), (Value.int .u64 x55f2_), (Value.int .i64 x55f3_), (Value.int .i64 x55f4_)] ∧
         ∃ x56f0_ : Int, ∃ x56f1_ : Int, ∃ x56f2_ : Int, ∃ x56f3_ : Int, ∃ x56f4_ : Int, cellsAt hp_13 b_4 0 [(Value.int .i64 x56f0_), (Value.int .u64 x56f1_), (Value.int .u64 x56f2_), (Value.int .i64 x56f3_), (Value.int .i64 x56f4_)] ∧
         ∃ x57_, EqV Tryd.prog 26 (Value.agg #[(Value.int .i64 x55f0_), (Value.int .u64 x55f1_), (Value.int .u64 x55f2_), (Value.int .i64 x55f3_), (Value.int .i64 x55f4_)]) (Value.agg #[(Value.int .i64 x56f0_), (Value.int .u64 x56f1_), (Value.int .u64 x56f2_), (Value.int .i64 x56f3_), (Value.int .i64 x56f4_)]) x57_ ∧
         ((x57_ = true →
           hp_13 = hp_13 ∧ B_ = (decide (x34r1_ = x40r1_))) ∧
          (x57_ = false →
           hp_13 = hp_13 ∧ B_ = false))) ∧
        ((decide (x22r1_ = x28r1_)) = false →
         hp_13 = hp_13 ∧ B_ = false))) ∧
      (x47_ = false →
       hp_13 = hp_13 ∧ B_ = false))) ∧
    (x18_ = false →
     hp_13 = hp_13 ∧ B_ = false))) ∧
  R (.returned (Value.bool B_)) hp_13) :
  CallsH Tryd.prog 3 #[(Value.int .i64 sectors_), (Value.int .i64 slot_), (Value.agg #[(Value.int .i64 hf0_), (Value.int .u64 hf1_), (Value.int .u64 hf2_), (Value.int .i64 hf3_), (Value.int .i64 hf4_)]), (Value.int .u64 above_)] h R := calls_vc fine false Tryd.func3 (ann := A3) (args := [(Value.int .i64 sectors_), (Value.int .i64 slot_), (Value.agg #[(Value.int .i64 hf0_), (Value.int .u64 hf1_), (Value.int .u64 hf2_), (Value.int .i64 hf3_), (Value.int .i64 hf4_)]), (Value.int .u64 above_)]) (by kernel_rfl) (Eq.mpr (by kernel_rfl) H)
/-- turnout/turnoutlaw20.CkptNil -/
def A4 : Ann := (.seq .nil (.seq .nil (.seq .nil (.seq .nil (.seq .nil (.seq (.join 4) .nil))))))
theorem V4 (hf0_ : Int) (hf1_ : Int) (hf2_ : Int) (hf3_ : Int) (hf4_ : Int) (s_ : ByteArray) (h : Hp) (R : Ending → Hp → Prop) (H :
  ∀ b_ hp_, b_ = Array.size h → hp_ = Array.push h (.cells #[(Value.int .i64 hf0_), (Value.int .u64 hf1_), (Value.int .u64 hf2_), (Value.int .i64 hf3_), (Value.int .i64 hf4_)] 26) →
  CallsH Tryd.prog 9 #[] hp_ fun en_ hp_1 =>
  ∃ x12_ : Bool, en_ = .returned (Value.bool x12_) ∧
  ∃ x13f0_ : Int, ∃ x13f1_ : Int, ∃ x13f2_ : Int, ∃ x13f3_ : Int, ∃ x13f4_ : Int, cellsAt hp_1 b_ 0 [(Value.int .i64 x13f0_), (Value.int .u64 x13f1_), (Value.int .u64 x13f2_), (Value.int .i64 x13f3_), (Value.int .i64 x13f4_)] ∧
  CallsH Tryd.prog 14 #[(Value.pointer none), (Value.agg #[(Value.int .i64 x13f0_), (Value.int .u64 x13f1_), (Value.int .u64 x13f2_), (Value.int .i64 x13f3_), (Value.int .i64 x13f4_)]), (Value.string s_)] hp_1 fun en_1 hp_2 =>
  ∃ x15_ : Int, en_1 = .returned (Value.int .i64 x15_) ∧
  CallsH Tryd.prog 15 #[(Value.pointer none)] hp_2 fun en_2 hp_3 =>
  ∃ (x17r0p_ : Option Addr) (x17r0n_ x17r0c_ : Nat), ∃ x17r1_ : Int, en_2 = .returned (Value.tuple #[(Value.slice x17r0p_ x17r0n_ x17r0c_), (Value.int .i64 x17r1_)]) ∧
  CallsH Tryd.prog 16 #[(Value.pointer none)] hp_3 fun en_3 hp_4 =>
  ∃ x21r0f0_ : Int, ∃ x21r0f1_ : Int, ∃ x21r0f2_ : Int, ∃ x21r0f3_ : Int, ∃ x21r0f4_ : Int, ∃ x21r1_ : ByteArray, ∃ x21r2_ : Int, en_3 = .returned (Value.tuple #[(Value.agg #[(Value.int .i64 x21r0f0_), (Value.int .u64 x21r0f1_), (Value.int .u64 x21r0f2_), (Value.int .i64 x21r0f3_), (Value.int .i64 x21r0f4_)]), (Value.string x21r1_), (Value.int .i64 x21r2_)]) ∧
  ∀ b_1 hp_5, b_1 = Array.size hp_4 → hp_5 = Array.push hp_4 (.cells (zeros Tryd.prog 26) 26) → (∃ i z, Tryd.prog.info? 26 = some i ∧ i.zero = some z) ∧
  List.length [(Value.int .i64 x21r0f0_), (Value.int .u64 x21r0f1_), (Value.int .u64 x21r0f2_), (Value.int .i64 x21r0f3_), (Value.int .i64 x21r0f4_)] = 5 ∧ (∀ c ∈ [(Value.int .i64 x21r0f0_), (Value.int .u64 x21r0f1_), (Value.int .u64 x21r0f2_), (Value.int .i64 x21r0f3_), (Value.int .i64 x21r0f4_)], c.oneCell' = true) ∧ wrAt hp_5 b_1 0 5 ∧ ∀ hp_6, hp_6 = setsH hp_5 b_1 0 [(Value.int .i64 x21r0f0_), (Value.int .u64 x21r0f1_), (Value.int .u64 x21r0f2_), (Value.int .i64 x21r0f3_), (Value.int .i64 x21r0f4_)] →
  ∃ B_ : Bool, (((x12_ = true →
     (((decide (x15_ = (1 : Int))) = true →
       (((decide (x17r1_ = (1 : Int))) = true →
         (((decide (x21r2_ = (1 : Int))) = true →
           (((decide (((x17r0n_ : Nat) : Int) = (0 : Int))) = true →
             (((decide (x21r1_ = (⟨#[]⟩ : ByteArray))) = true →
               ∃ x48f0_ : Int, ∃ x48f1_ : Int, ∃ x48f2_ : Int, ∃ x48f3_ : Int, ∃ x48f4_ : Int, cellsAt hp_6 b_1 0 [(Value.int .i64 x48f0_), (Value.int .u64 x48f1_), (Value.int .u64 x48f2_), (Value.int .i64 x48f3_), (Value.int .i64 x48f4_)] ∧
               ∃ x50_, EqV Tryd.prog 26 (Value.agg #[(Value.int .i64 x48f0_), (Value.int .u64 x48f1_), (Value.int .u64 x48f2_), (Value.int .i64 x48f3_), (Value.int .i64 x48f4_)]) (Value.agg #[(Value.int .i64 (0 : Int)), (Value.int .u64 (0 : Int)), (Value.int .u64 (0 : Int)), (Value.int .i64 (0 : Int)), (Value.int .i64 (0 : Int))]) x50_ ∧
               hp_6 = hp_6 ∧ B_ = x50_) ∧
              ((decide (x21r1_ = (⟨#[]⟩ : ByteArray))) = false →
               hp_6 = hp_6 ∧ B_ = false))) ∧
            ((decide (((x17r0n_ : Nat) : Int) = (0 : Int))) = false →
             hp_6 = hp_6 ∧ B_ = false))) ∧
          ((decide (x21r2_ = (1 : Int))) = false →
           hp_6 = hp_6 ∧ B_ = false))) ∧
        ((decide (x17r1_ = (1 : Int))) = false →
         hp_6 = hp_6 ∧ B_ = false))) ∧
      ((decide (x15_ = (1 : Int))) = false →
       hp_6 = hp_6 ∧ B_ = false))) ∧
    (x12_ = false →
     hp_6 = hp_6 ∧ B_ = false))) ∧
  R (.returned (Value.bool B_)) hp_6) :
  CallsH Tryd.prog 4 #[(Value.agg #[(Value.int .i64 hf0_), (Value.int .u64 hf1_), (Value.int .u64 hf2_), (Value.int .i64 hf3_), (Value.int .i64 hf4_)]), (Value.string s_)] h R := calls_vc fine false Tryd.func4 (ann := A4) (args := [(Value.agg #[(Value.int .i64 hf0_), (Value.int .u64 hf1_), (Value.int .u64 hf2_), (Value.int .i64 hf3_), (Value.int .i64 hf4_)]), (Value.string s_)]) (by kernel_rfl) (Eq.mpr (by kernel_rfl) H)
/-- turnout/turnoutlaw20.CkptCrash -/
def A5 : Ann := (.seq .nil (.seq .nil (.seq .nil (.seq .nil (.seq .nil (.seq .nil (.cut (.seq (.join 59) (.cond (.seq .nil .nil) .nil)) [] (.seq (.orders 4 [[0, 1, 2, 3, 4, 5], [0, 4, 1, 2, 3, 5]] [2]) (.seq .nil (.seq .nil (.seq (.seq .nil (.cond (.seq .nil .nil) .nil)) (.seq (.seq .nil (.block (.loop [(15, .str), (17, (.int .i64))] (.cut (.seq (.join 83) (.cond .nil .nil)) [] (.seq (.block (.seq .nil (.seq .nil (.cut (.seq (.join 136) (.cond (.seq .nil .nil) .nil)) [] (.seq .nil (.seq .nil (.seq .nil (.seq .nil (.cut (.seq (.join 164) (.cond (.seq .nil .nil) .nil)) [] (.seq .nil (.seq .nil (.seq (.drawLast [4, 9, 16]) (.cut (.seq (.join 198) (.cond (.seq .nil .nil) .nil)) [] (.block (.seq (.join 199) (.cond (.seq .nil .nil) (.seq (.join 210) (.cond (.seq .nil .nil) .nil)))))))))))))))))) .nil))))) (.seq .nil .nil)))))))))))))
theorem V5 (size_ : Int) (first_ : Int) (rawp_ : Option Addr) (rawn_ rawc_ : Nat) (h : Hp) (R : Ending → Hp → Prop) (H :
  CallsH Tryd.prog 9 #[] h fun en_ hp_ =>
  ∃ x28_ : Bool, en_ = .returned (Value.bool x28_) ∧
  CallsH Tryd.prog 17 #[(Value.int .i64 size_), (Value.int .i64 (4 : Int))] hp_ fun en_1 hp_1 =>
  ∃ x30_ : Int, en_1 = .returned (Value.int .i64 x30_) ∧
  ∃ x31_, IntKind.i64.wrap ((1 : Int) + x30_) = x31_ ∧
  ∃ x33_, IntKind.i64.wrap ((2 : Int) * x31_) = x33_ ∧
  ∃ x34_, IntKind.i64.wrap ((3 : Int) + x33_) = x34_ ∧
  CallsH Tryd.prog 18 #[(Value.int .i64 x34_)] hp_1 fun en_2 hp_2 =>
  ∃ x37r0_ : Option Addr, ∃ x37r1_ : Int, en_2 = .returned (Value.tuple #[(Value.pointer x37r0_), (Value.int .i64 x37r1_)]) ∧
  CallsH Tryd.prog 10 #[(Value.int .i64 x34_), (Value.int .i64 x31_)] hp_2 fun en_3 hp_3 =>
  ∃ x43r0f0_ : Int, ∃ x43r0f1_ : Int, ∃ x43r1_ : Int, en_3 = .returned (Value.tuple #[(Value.agg #[(Value.int .i64 x43r0f0_), (Value.int .i64 x43r0f1_)]), (Value.int .i64 x43r1_)]) ∧
  ∀ b_ hp_4, b_ = Array.size hp_3 → hp_4 = Array.push hp_3 (.cells (zeros Tryd.prog 24) 24) → (∃ i z, Tryd.prog.info? 24 = some i ∧ i.zero = some z) ∧
  List.length [(Value.int .i64 x43r0f0_), (Value.int .i64 x43r0f1_)] = 2 ∧ (∀ c ∈ [(Value.int .i64 x43r0f0_), (Value.int .i64 x43r0f1_)], c.oneCell' = true) ∧ wrAt hp_4 b_ 0 2 ∧ ∀ hp_5, hp_5 = setsH hp_4 b_ 0 [(Value.int .i64 x43r0f0_), (Value.int .i64 x43r0f1_)] →
  ∃ Jv_ : List Value → Hp → Prop,
  (∃ B_ : Bool, ((((!x28_) = true →
      hp_5 = hp_5 ∧ B_ = true) ∧
     ((!x28_) = false →
      ∃ x50_, EqV Tryd.prog 43 (Value.pointer x37r0_) (Value.pointer none) x50_ ∧
      ((x50_ = true →
        hp_5 = hp_5 ∧ B_ = true) ∧
       (x50_ = false →
        (((decide (x37r1_ ≠ (0 : Int))) = true →
          hp_5 = hp_5 ∧ B_ = true) ∧
         ((decide (x37r1_ ≠ (0 : Int))) = false →
          hp_5 = hp_5 ∧ B_ = (decide (x43r1_ ≠ (0 : Int)))))))))) ∧
   ((B_ = true →
     R (.returned (Value.bool false)) hp_5) ∧
    (B_ = false →
     Jv_ [] hp_5))) ∧
  (∀  hp_6, Jv_ [] hp_6 →
   (∃ Cv_ : Hp → Prop, Cv_ hp_6 ∧
    CallsH Tryd.prog 17 #[(Value.int .i64 first_), (Value.int .i64 (2 : Int))] hp_6 fun en_4 hp_7 =>
    ∃ x61_ : Int, en_4 = .returned (Value.int .i64 x61_) ∧
    Cv_ hp_7 ∧
    ∃ x62f0_ : Int, ∃ x62f1_ : Int, (∀ h', Cv_ h' → cellsAt h' b_ 0 [(Value.int .i64 x62f0_), (Value.int .i64 x62f1_)]) ∧
    ∀ b_1 hp_8, b_1 = Array.size hp_7 → hp_8 = Array.push hp_7 (.cells (zeros Tryd.prog 26) 26) → (∃ i z, Tryd.prog.info? 26 = some i ∧ i.zero = some z) ∧
    Cv_ hp_8 ∧
    List.length [(Value.int .i64 x61_), (Value.int .u64 (1 : Int)), (Value.int .u64 (1 : Int)), (Value.int .i64 x62f0_), (Value.int .i64 x62f1_)] = 5 ∧ (∀ c ∈ [(Value.int .i64 x61_), (Value.int .u64 (1 : Int)), (Value.int .u64 (1 : Int)), (Value.int .i64 x62f0_), (Value.int .i64 x62f1_)], c.oneCell' = true) ∧ wrAt hp_8 b_1 0 5 ∧ ∀ hp_9, hp_9 = setsH hp_8 b_1 0 [(Value.int .i64 x61_), (Value.int .u64 (1 : Int)), (Value.int .u64 (1 : Int)), (Value.int .i64 x62f0_), (Value.int .i64 x62f1_)] →
    Cv_ hp_9 ∧
    ∃ x66_, IntKind.i64.wrap ((491 : Int) * x31_) = x66_ ∧
    CallsH Tryd.prog 17 #[(Value.int .i64 first_), (Value.int .i64 x66_)] hp_9 fun en_5 hp_10 =>
    ∃ x67_ : Int, en_5 = .returned (Value.int .i64 x67_) ∧
    ∃ x68_, IntKind.i64.wrap ((1 : Int) + x67_) = x68_ ∧
    CallsH Tryd.prog 19 #[(Value.int .i64 x68_), (Value.int .i64 (0 : Int))] hp_10 fun en_6 hp_11 =>
    ∃ x69_ : ByteArray, en_6 = .returned (Value.string x69_) ∧
    ∃ x71f0_ : Int, ∃ x71f1_ : Int, ∃ x71f2_ : Int, ∃ x71f3_ : Int, ∃ x71f4_ : Int, cellsAt hp_11 b_1 0 [(Value.int .i64 x71f0_), (Value.int .u64 x71f1_), (Value.int .u64 x71f2_), (Value.int .i64 x71f3_), (Value.int .i64 x71f4_)] ∧
    CallsH Tryd.prog 14 #[(Value.pointer x37r0_), (Value.agg #[(Value.int .i64 x71f0_), (Value.int .u64 x71f1_), (Value.int .u64 x71f2_), (Value.int .i64 x71f3_), (Value.int .i64 x71f4_)]), (Value.string x69_)] hp_11 fun en_7 hp_12 =>
    ∃ x73_ : Int, en_7 = .returned (Value.int .i64 x73_) ∧
    (((decide (x73_ ≠ (0 : Int))) = true →
      R (.returned (Value.bool false)) hp_12) ∧
     ((decide (x73_ ≠ (0 : Int))) = false →
      ∃ (Iv_ : List Value → Hp → Prop) (m_ : List Value → Hp → Nat), Iv_ [(Value.string x69_), (Value.int .i64 (0 : Int))] hp_12 ∧
      (∀ (image_ : ByteArray) (i_ : Int) hp_13, Iv_ [(Value.string image_), (Value.int .i64 i_)] hp_13 →
       ∃ Jv_1 : List Value → Hp → Prop,
       (∃ B_1 : Bool, ((((decide (i_ < ((rawn_ : Nat) : Int))) = true →
           hp_13 = hp_13 ∧ B_1 = (decide (i_ < (30 : Int)))) ∧
          ((decide (i_ < ((rawn_ : Nat) : Int))) = false →
           hp_13 = hp_13 ∧ B_1 = false))) ∧
        ((B_1 = true →
          Jv_1 [] hp_13) ∧
         (B_1 = false →
          R (.returned (Value.bool true)) hp_13))) ∧
       (∀  hp_14, Jv_1 [] hp_14 →
        ∃ b_2 o_, rawp_ = some ⟨b_2, o_, none⟩ ∧ 0 ≤ i_ ∧ i_ < (rawn_ : Int) ∧
        ∃ x89f0_ : Int, ∃ x89f1_ : Int, ∃ (x89f2p_ : Option Addr) (x89f2n_ x89f2c_ : Nat), ∃ x89f3_ : Int, cellsAt hp_14 b_2 (o_ + Int.toNat i_ * 4) [(Value.int .i64 x89f0_), (Value.int .i64 x89f1_), (Value.slice x89f2p_ x89f2n_ x89f2c_), (Value.int .u64 x89f3_)] ∧
        ∀ b_3 hp_15, b_3 = Array.size hp_14 → hp_15 = Array.push hp_14 (.cells (zeros Tryd.prog 49) 49) → (∃ i z, Tryd.prog.info? 49 = some i ∧ i.zero = some z) ∧
        List.length [(Value.int .i64 x89f0_), (Value.int .i64 x89f1_), (Value.slice x89f2p_ x89f2n_ x89f2c_), (Value.int .u64 x89f3_)] = 4 ∧ (∀ c ∈ [(Value.int .i64 x89f0_), (Value.int .i64 x89f1_), (Value.slice x89f2p_ x89f2n_ x89f2c_), (Value.int .u64 x89f3_)], c.oneCell' = true) ∧ wrAt hp_15 b_3 0 4 ∧ ∀ hp_16, hp_16 = setsH hp_15 b_3 0 [(Value.int .i64 x89f0_), (Value.int .i64 x89f1_), (Value.slice x89f2p_ x89f2n_ x89f2c_), (Value.int .u64 x89f3_)] →
        ∃ x91f0_ : Int, ∃ x91f1_ : Int, ∃ x91f2_ : Int, ∃ x91f3_ : Int, ∃ x91f4_ : Int, cellsAt hp_16 b_1 0 [(Value.int .i64 x91f0_), (Value.int .u64 x91f1_), (Value.int .u64 x91f2_), (Value.int .i64 x91f3_), (Value.int .i64 x91f4_)] ∧
        ∃ x93_ : Int, cellsAt hp_16 b_3 (0 + 3) [(Value.int .u64 x93_)] ∧
        (1000 : Int) ≠ 0 ∧ ∃ x94_, Int.tmod x93_ (1000 : Int) = x94_ ∧
        CallsH Tryd.prog 12 #[(Value.agg #[(Value.int .i64 x91f0_), (Value.int .u64 x91f1_), (Value.int .u64 x91f2_), (Value.int .i64 x91f3_), (Value.int .i64 x91f4_)]), (Value.int .u64 x94_)] hp_16 fun en_8 hp_17 =>
        ∃ x95r0f0_ : Int, ∃ x95r0f1_ : Int, ∃ x95r0f2_ : Int, ∃ x95r0f3_ : Int, ∃ x95r0f4_ : Int, ∃ x95r1_ : Int, en_8 = .returned (Value.tuple #[(Value.agg #[(Value.int .i64 x95r0f0_), (Value.int .u64 x95r0f1_), (Value.int .u64 x95r0f2_), (Value.int .i64 x95r0f3_), (Value.int .i64 x95r0f4_)]), (Value.int .i64 x95r1_)]) ∧
        ∀ b_4 hp_18, b_4 = Array.size hp_17 → hp_18 = Array.push hp_17 (.cells (zeros Tryd.prog 26) 26) → (∃ i z, Tryd.prog.info? 26 = some i ∧ i.zero = some z) ∧
        List.length [(Value.int .i64 x95r0f0_), (Value.int .u64 x95r0f1_), (Value.int .u64 x95r0f2_), (Value.int .i64 x95r0f3_), (Value.int .i64 x95r0f4_)] = 5 ∧ (∀ c ∈ [(Value.int .i64 x95r0f0_), (Value.int .u64 x95r0f1_), (Value.int .u64 x95r0f2_), (Value.int .i64 x95r0f3_), (Value.int .i64 x95r0f4_)], c.oneCell' = true) ∧ wrAt hp_18 b_4 0 5 ∧ ∀ hp_19, hp_19 = setsH hp_18 b_4 0 [(Value.int .i64 x95r0f0_), (Value.int .u64 x95r0f1_), (Value.int .u64 x95r0f2_), (Value.int .i64 x95r0f3_), (Value.int .i64 x95r0f4_)] →
        ∃ Jv_2 : List Value → Hp → Prop,
        (∃ B_2 : Bool, ((((decide (x95r1_ ≠ (0 : Int))) = true →
            hp_19 = hp_19 ∧ B_2 = true) ∧
           ((decide (x95r1_ ≠ (0 : Int))) = false →
            ∃ x102_ : Int, cellsAt hp_19 b_4 (0 + 0) [(Value.int .i64 x102_)] ∧
            ∃ x104_ : Int, cellsAt hp_19 b_1 (0 + 0) [(Value.int .i64 x104_)] ∧
            ∃ x105_, IntKind.i64.wrap ((1 : Int) - x104_) = x105_ ∧
            (((decide (x102_ ≠ x105_)) = true →
              hp_19 = hp_19 ∧ B_2 = true) ∧
             ((decide (x102_ ≠ x105_)) = false →
              ∃ x110_ : Int, cellsAt hp_19 b_4 (0 + 1) [(Value.int .u64 x110_)] ∧
              ∃ x112_ : Int, cellsAt hp_19 b_1 (0 + 1) [(Value.int .u64 x112_)] ∧
              ∃ x113_, IntKind.u64.wrap (x112_ + (1 : Int)) = x113_ ∧
              (((decide (x110_ ≠ x113_)) = true →
                hp_19 = hp_19 ∧ B_2 = true) ∧
               ((decide (x110_ ≠ x113_)) = false →
                ∃ x118_ : Int, cellsAt hp_19 b_4 (0 + 2) [(Value.int .u64 x118_)] ∧
                ∃ x120_ : Int, cellsAt hp_19 b_1 (0 + 2) [(Value.int .u64 x120_)] ∧
                (((decide (x118_ ≤ x120_)) = true →
                  hp_19 = hp_19 ∧ B_2 = true) ∧
                 ((decide (x118_ ≤ x120_)) = false →
                  ∃ x125_ : Int, cellsAt hp_19 b_4 (0 + 2) [(Value.int .u64 x125_)] ∧
                  ∃ x127_ : Int, cellsAt hp_19 b_3 (0 + 3) [(Value.int .u64 x127_)] ∧
                  (1000 : Int) ≠ 0 ∧ ∃ x128_, Int.tmod x127_ (1000 : Int) = x128_ ∧
                  (((decide (x125_ ≤ x128_)) = true →
                    hp_19 = hp_19 ∧ B_2 = true) ∧
                   ((decide (x125_ ≤ x128_)) = false →
                    ∃ x133f0_ : Int, ∃ x133f1_ : Int, cellsAt hp_19 b_4 (0 + 3) [(Value.int .i64 x133f0_), (Value.int .i64 x133f1_)] ∧
                    ∃ x134f0_ : Int, ∃ x134f1_ : Int, cellsAt hp_19 b_ 0 [(Value.int .i64 x134f0_), (Value.int .i64 x134f1_)] ∧
                    ∃ x135_, EqV Tryd.prog 24 (Value.agg #[(Value.int .i64 x133f0_), (Value.int .i64 x133f1_)]) (Value.agg #[(Value.int .i64 x134f0_), (Value.int .i64 x134f1_)]) x135_ ∧
                    hp_19 = hp_19 ∧ B_2 = (!x135_)))))))))))) ∧
         ((B_2 = true →
           R (.returned (Value.bool false)) hp_19) ∧
          (B_2 = false →
           Jv_2 [] hp_19))) ∧
        (∀  hp_20, Jv_2 [] hp_20 →
         ∃ x138_ : Int, cellsAt hp_20 b_3 (0 + 0) [(Value.int .i64 x138_)] ∧
         ∃ x140_, IntKind.i64.wrap ((491 : Int) * x31_) = x140_ ∧
         CallsH Tryd.prog 17 #[(Value.int .i64 x138_), (Value.int .i64 x140_)] hp_20 fun en_9 hp_21 =>
         ∃ x141_ : Int, en_9 = .returned (Value.int .i64 x141_) ∧
         ∃ x142_, IntKind.i64.wrap ((1 : Int) + x141_) = x142_ ∧
         ∃ x144_, IntKind.i64.wrap (i_ + (1 : Int)) = x144_ ∧
         CallsH Tryd.prog 19 #[(Value.int .i64 x142_), (Value.int .i64 x144_)] hp_21 fun en_10 hp_22 =>
         ∃ x145_ : ByteArray, en_10 = .returned (Value.string x145_) ∧
         CallsH Tryd.prog 20 #[(Value.pointer x37r0_)] hp_22 fun en_11 hp_23 =>
         ∃ x147_ : ByteArray, en_11 = .returned (Value.string x147_) ∧
         ∃ x150_ : Int, cellsAt hp_23 b_3 (0 + 1) [(Value.int .i64 x150_)] ∧
         ∃ x152_, IntKind.i64.wrap (x31_ + (5 : Int)) = x152_ ∧
         CallsH Tryd.prog 17 #[(Value.int .i64 x150_), (Value.int .i64 x152_)] hp_23 fun en_12 hp_24 =>
         ∃ x153_ : Int, en_12 = .returned (Value.int .i64 x153_) ∧
         CallsH Tryd.prog 21 #[(Value.pointer x37r0_), (Value.int .i64 x153_)] hp_24 fun en_13 hp_25 =>
         en_13 = .returned (Value.tuple #[]) ∧
         ∃ x156f0_ : Int, ∃ x156f1_ : Int, ∃ x156f2_ : Int, ∃ x156f3_ : Int, ∃ x156f4_ : Int, cellsAt hp_25 b_4 0 [(Value.int .i64 x156f0_), (Value.int .u64 x156f1_), (Value.int .u64 x156f2_), (Value.int .i64 x156f3_), (Value.int .i64 x156f4_)] ∧
         CallsH Tryd.prog 14 #[(Value.pointer x37r0_), (Value.agg #[(Value.int .i64 x156f0_), (Value.int .u64 x156f1_), (Value.int .u64 x156f2_), (Value.int .i64 x156f3_), (Value.int .i64 x156f4_)]), (Value.string x145_)] hp_25 fun en_14 hp_26 =>
         ∃ x158_ : Int, en_14 = .returned (Value.int .i64 x158_) ∧
         ∃ Jv_3 : List Value → Hp → Prop,
         (∃ B_3 : Bool, ((((decide (x158_ ≠ (0 : Int))) = true →
             hp_26 = hp_26 ∧ B_3 = (decide (x158_ ≠ (40 : Int)))) ∧
            ((decide (x158_ ≠ (0 : Int))) = false →
             hp_26 = hp_26 ∧ B_3 = false))) ∧
          ((B_3 = true →
            R (.returned (Value.bool false)) hp_26) ∧
           (B_3 = false →
            Jv_3 [] hp_26))) ∧
         (∀  hp_27, Jv_3 [] hp_27 →
          ∃ (x167p_ : Option Addr) (x167n_ x167c_ : Nat), cellsAt hp_27 b_3 (0 + 2) [(Value.slice x167p_ x167n_ x167c_)] ∧
          CallsH Tryd.prog 22 #[(Value.pointer x37r0_), (Value.slice x167p_ x167n_ x167c_)] hp_27 fun en_15 hp_28 =>
          en_15 = .returned (Value.tuple #[]) ∧
          CallsH Tryd.prog 16 #[(Value.pointer x37r0_)] hp_28 fun en_16 hp_29 =>
          ∃ x171r0f0_ : Int, ∃ x171r0f1_ : Int, ∃ x171r0f2_ : Int, ∃ x171r0f3_ : Int, ∃ x171r0f4_ : Int, ∃ x171r1_ : ByteArray, ∃ x171r2_ : Int, en_16 = .returned (Value.tuple #[(Value.agg #[(Value.int .i64 x171r0f0_), (Value.int .u64 x171r0f1_), (Value.int .u64 x171r0f2_), (Value.int .i64 x171r0f3_), (Value.int .i64 x171r0f4_)]), (Value.string x171r1_), (Value.int .i64 x171r2_)]) ∧
          ∀ b_5 hp_30, b_5 = Array.size hp_29 → hp_30 = Array.push hp_29 (.cells (zeros Tryd.prog 26) 26) → (∃ i z, Tryd.prog.info? 26 = some i ∧ i.zero = some z) ∧
          List.length [(Value.int .i64 x171r0f0_), (Value.int .u64 x171r0f1_), (Value.int .u64 x171r0f2_), (Value.int .i64 x171r0f3_), (Value.int .i64 x171r0f4_)] = 5 ∧ (∀ c ∈ [(Value.int .i64 x171r0f0_), (Value.int .u64 x171r0f1_), (Value.int .u64 x171r0f2_), (Value.int .i64 x171r0f3_), (Value.int .i64 x171r0f4_)], c.oneCell' = true) ∧ wrAt hp_30 b_5 0 5 ∧ ∀ hp_31, hp_31 = setsH hp_30 b_5 0 [(Value.int .i64 x171r0f0_), (Value.int .u64 x171r0f1_), (Value.int .u64 x171r0f2_), (Value.int .i64 x171r0f3_), (Value.int .i64 x171r0f4_)] →
          ∃ Cv_1 : Hp → Prop, Cv_1 hp_31 ∧
          CallsH Tryd.prog 20 #[(Value.pointer x37r0_)] hp_31 fun en_17 hp_32 =>
          ∃ x177_ : ByteArray, en_17 = .returned (Value.string x177_) ∧
          Cv_1 hp_32 ∧
          ∃ x179_ : Int, (∀ h', Cv_1 h' → cellsAt h' b_4 (0 + 0) [(Value.int .i64 x179_)]) ∧
          ∃ x181_, IntKind.i64.wrap (x179_ * x31_) = x181_ ∧
          ∃ x182_, IntKind.i64.wrap ((2 : Int) + x181_) = x182_ ∧
          ∃ x184_ : Int, (∀ h', Cv_1 h' → cellsAt h' b_4 (0 + 0) [(Value.int .i64 x184_)]) ∧
          ∃ x186_, IntKind.i64.wrap (x184_ * x31_) = x186_ ∧
          ∃ x187_, IntKind.i64.wrap ((2 : Int) + x186_) = x187_ ∧
          ∃ x189_, IntKind.i64.wrap (x187_ + x31_) = x189_ ∧
          ∃ x191_ : Int, (∀ h', Cv_1 h' → cellsAt h' b_4 (0 + 0) [(Value.int .i64 x191_)]) ∧
          CallsH Tryd.prog 23 #[(Value.string x147_), (Value.string x177_), (Value.int .i64 x182_), (Value.int .i64 x189_), (Value.int .i64 x191_)] hp_32 fun en_18 hp_33 =>
          ∃ x192_ : Bool, en_18 = .returned (Value.bool x192_) ∧
          Cv_1 hp_33 ∧
          ∃ Jv_4 : List Value → Hp → Prop,
          (∃ B_4 : Bool, ((((decide (x171r2_ ≠ (0 : Int))) = true →
              hp_33 = hp_33 ∧ B_4 = true) ∧
             ((decide (x171r2_ ≠ (0 : Int))) = false →
              hp_33 = hp_33 ∧ B_4 = (!x192_)))) ∧
           ((B_4 = true →
             R (.returned (Value.bool false)) hp_33) ∧
            (B_4 = false →
             Jv_4 [] hp_33))) ∧
          (∀  hp_34, Jv_4 [] hp_34 →
           ∃ B_5 : Bool, (∃ x200f0_ : Int, ∃ x200f1_ : Int, ∃ x200f2_ : Int, ∃ x200f3_ : Int, ∃ x200f4_ : Int, cellsAt hp_34 b_5 0 [(Value.int .i64 x200f0_), (Value.int .u64 x200f1_), (Value.int .u64 x200f2_), (Value.int .i64 x200f3_), (Value.int .i64 x200f4_)] ∧
            ∃ x201f0_ : Int, ∃ x201f1_ : Int, ∃ x201f2_ : Int, ∃ x201f3_ : Int, ∃ x201f4_ : Int, cellsAt hp_34 b_4 0 [(Value.int .i64 x201f0_), (Value.int .u64 x201f1_), (Value.int .u64 x201f2_), (Value.int .i64 x201f3_), (Value.int .i64 x201f4_)] ∧
            ∃ x202_, EqV Tryd.prog 26 (Value.agg #[(Value.int .i64 x200f0_), (Value.int .u64 x200f1_), (Value.int .u64 x200f2_), (Value.int .i64 x200f3_), (Value.int .i64 x200f4_)]) (Value.agg #[(Value.int .i64 x201f0_), (Value.int .u64 x201f1_), (Value.int .u64 x201f2_), (Value.int .i64 x201f3_), (Value.int .i64 x201f4_)]) x202_ ∧
            ((x202_ = true →
              hp_34 = hp_34 ∧ B_5 = (decide (x171r1_ = x145_))) ∧
             (x202_ = false →
              hp_34 = hp_34 ∧ B_5 = false))) ∧
           ((B_5 = true →
             ∃ x208f0_ : Int, ∃ x208f1_ : Int, ∃ x208f2_ : Int, ∃ x208f3_ : Int, ∃ x208f4_ : Int, cellsAt hp_34 b_4 0 [(Value.int .i64 x208f0_), (Value.int .u64 x208f1_), (Value.int .u64 x208f2_), (Value.int .i64 x208f3_), (Value.int .i64 x208f4_)] ∧
             List.length [(Value.int .i64 x208f0_), (Value.int .u64 x208f1_), (Value.int .u64 x208f2_), (Value.int .i64 x208f3_), (Value.int .i64 x208f4_)] = 5 ∧ (∀ c ∈ [(Value.int .i64 x208f0_), (Value.int .u64 x208f1_), (Value.int .u64 x208f2_), (Value.int .i64 x208f3_), (Value.int .i64 x208f4_)], c.oneCell' = true) ∧ wrAt hp_34 b_1 0 5 ∧ ∀ hp_35, hp_35 = setsH hp_34 b_1 0 [(Value.int .i64 x208f0_), (Value.int .u64 x208f1_), (Value.int .u64 x208f2_), (Value.int .i64 x208f3_), (Value.int .i64 x208f4_)] →
             ∃ x85_, IntKind.i64.wrap (i_ + (1 : Int)) = x85_ ∧
             (Iv_ [(Value.string x145_), (Value.int .i64 x85_)] hp_35 ∧ m_ [(Value.string x145_), (Value.int .i64 x85_)] hp_35 < m_ [(Value.string image_), (Value.int .i64 i_)] hp_13)) ∧
            (B_5 = false →
             ∃ B_6 : Bool, (∃ x211f0_ : Int, ∃ x211f1_ : Int, ∃ x211f2_ : Int, ∃ x211f3_ : Int, ∃ x211f4_ : Int, cellsAt hp_34 b_5 0 [(Value.int .i64 x211f0_), (Value.int .u64 x211f1_), (Value.int .u64 x211f2_), (Value.int .i64 x211f3_), (Value.int .i64 x211f4_)] ∧
              ∃ x212f0_ : Int, ∃ x212f1_ : Int, ∃ x212f2_ : Int, ∃ x212f3_ : Int, ∃ x212f4_ : Int, cellsAt hp_34 b_1 0 [(Value.int .i64 x212f0_), (Value.int .u64 x212f1_), (Value.int .u64 x212f2_), (Value.int .i64 x212f3_), (Value.int .i64 x212f4_)] ∧
              ∃ x213_, EqV Tryd.prog 26 (Value.agg #[(Value.int .i64 x211f0_), (Value.int .u64 x211f1_), (Value.int .u64 x211f2_), (Value.int .i64 x211f3_), (Value.int .i64 x211f4_)]) (Value.agg #[(Value.int .i64 x212f0_), (Value.int .u64 x212f1_), (Value.int .u64 x212f2_), (Value.int .i64 x212f3_), (Value.int .i64 x212f4_)]) x213_ ∧
              (((!x213_) = true →
                hp_34 = hp_34 ∧ B_6 = true) ∧
               ((!x213_) = false →
                (((decide (x171r1_ ≠ image_)) = true →
                  hp_34 = hp_34 ∧ B_6 = true) ∧
                 ((decide (x171r1_ ≠ image_)) = false →
                  hp_34 = hp_34 ∧ B_6 = (decide (x158_ = (0 : Int)))))))) ∧
             ((B_6 = true →
               R (.returned (Value.bool false)) hp_34) ∧
              (B_6 = false →
               ∃ x85_1, IntKind.i64.wrap (i_ + (1 : Int)) = x85_1 ∧
               (Iv_ [(Value.string image_), (Value.int .i64 x85_1)] hp_34 ∧ m_ [(Value.string image_), (Value.int .i64 x85_1)] hp_34 < m_ [(Value.string image_), (Value.int .i64 i_)] hp_13))))))))))))) ∧
   (∃ Cv_2 : Hp → Prop, Cv_2 hp_6 ∧
    ∀ b_6 hp_36, b_6 = Array.size hp_6 → hp_36 = Array.push hp_6 (.cells (zeros Tryd.prog 26) 26) → (∃ i z, Tryd.prog.info? 26 = some i ∧ i.zero = some z) ∧
    Cv_2 hp_36 ∧
    CallsH Tryd.prog 17 #[(Value.int .i64 first_), (Value.int .i64 (2 : Int))] hp_36 fun en_19 hp_37 =>
    ∃ x61_1 : Int, en_19 = .returned (Value.int .i64 x61_1) ∧
    Cv_2 hp_37 ∧
    ∃ x62f0_1 : Int, ∃ x62f1_1 : Int, (∀ h', Cv_2 h' → cellsAt h' b_ 0 [(Value.int .i64 x62f0_1), (Value.int .i64 x62f1_1)]) ∧
    List.length [(Value.int .i64 x61_1), (Value.int .u64 (1 : Int)), (Value.int .u64 (1 : Int)), (Value.int .i64 x62f0_1), (Value.int .i64 x62f1_1)] = 5 ∧ (∀ c ∈ [(Value.int .i64 x61_1), (Value.int .u64 (1 : Int)), (Value.int .u64 (1 : Int)), (Value.int .i64 x62f0_1), (Value.int .i64 x62f1_1)], c.oneCell' = true) ∧ wrAt hp_37 b_6 0 5 ∧ ∀ hp_38, hp_38 = setsH hp_37 b_6 0 [(Value.int .i64 x61_1), (Value.int .u64 (1 : Int)), (Value.int .u64 (1 : Int)), (Value.int .i64 x62f0_1), (Value.int .i64 x62f1_1)] →
    Cv_2 hp_38 ∧
    ∃ x66_1, IntKind.i64.wrap ((491 : Int) * x31_) = x66_1 ∧
    CallsH Tryd.prog 17 #[(Value.int .i64 first_), (Value.int .i64 x66_1)] hp_38 fun en_20 hp_39 =>
    ∃ x67_1 : Int, en_20 = .returned (Value.int .i64 x67_1) ∧
    ∃ x68_1, IntKind.i64.wrap ((1 : Int) + x67_1) = x68_1 ∧
    CallsH Tryd.prog 19 #[(Value.int .i64 x68_1), (Value.int .i64 (0 : Int))] hp_39 fun en_21 hp_40 =>
    ∃ x69_1 : ByteArray, en_21 = .returned (Value.string x69_1) ∧
    ∃ x71f0_1 : Int, ∃ x71f1_1 : Int, ∃ x71f2_1 : Int, ∃ x71f3_1 : Int, ∃ x71f4_1 : Int, cellsAt hp_40 b_6 0 [(Value.int .i64 x71f0_1), (Value.int .u64 x71f1_1), (Value.int .u64 x71f2_1), (Value.int .i64 x71f3_1), (Value.int .i64 x71f4_1)] ∧
    CallsH Tryd.prog 14 #[(Value.pointer x37r0_), (Value.agg #[(Value.int .i64 x71f0_1), (Value.int .u64 x71f1_1), (Value.int .u64 x71f2_1), (Value.int .i64 x71f3_1), (Value.int .i64 x71f4_1)]), (Value.string x69_1)] hp_40 fun en_22 hp_41 =>
    ∃ x73_1 : Int, en_22 = .returned (Value.int .i64 x73_1) ∧
    (((decide (x73_1 ≠ (0 : Int))) = true →
      R (.returned (Value.bool false)) hp_41) ∧
     ((decide (x73_1 ≠ (0 : Int))) = false →
      ∃ (Iv_1 : List Value → Hp → Prop) (m_1 : List Value → Hp → Nat), Iv_1 [(Value.string x69_1), (Value.int .i64 (0 : Int))] hp_41 ∧
      (∀ (image_1 : ByteArray) (i_1 : Int) hp_42, Iv_1 [(Value.string image_1), (Value.int .i64 i_1)] hp_42 →
       ∃ Jv_5 : List Value → Hp → Prop,
       (∃ B_7 : Bool, ((((decide (i_1 < ((rawn_ : Nat) : Int))) = true →
           hp_42 = hp_42 ∧ B_7 = (decide (i_1 < (30 : Int)))) ∧
          ((decide (i_1 < ((rawn_ : Nat) : Int))) = false →
           hp_42 = hp_42 ∧ B_7 = false))) ∧
        ((B_7 = true →
          Jv_5 [] hp_42) ∧
         (B_7 = false →
          R (.returned (Value.bool true)) hp_42))) ∧
       (∀  hp_43, Jv_5 [] hp_43 →
        ∃ b_7 o_1, rawp_ = some ⟨b_7, o_1, none⟩ ∧ 0 ≤ i_1 ∧ i_1 < (rawn_ : Int) ∧
        ∃ x89f0_1 : Int, ∃ x89f1_1 : Int, ∃ (x89f2p_1 : Option Addr) (x89f2n_1 x89f2c_1 : Nat), ∃ x89f3_1 : Int, cellsAt hp_43 b_7 (o_1 + Int.toNat i_1 * 4) [(Value.int .i64 x89f0_1), (Value.int .i64 x89f1_1), (Value.slice x89f2p_1 x89f2n_1 x89f2c_1), (Value.int .u64 x89f3_1)] ∧
        ∀ b_8 hp_44, b_8 = Array.size hp_43 → hp_44 = Array.push hp_43 (.cells (zeros Tryd.prog 49) 49) → (∃ i z, Tryd.prog.info? 49 = some i ∧ i.zero = some z) ∧
        List.length [(Value.int .i64 x89f0_1), (Value.int .i64 x89f1_1), (Value.slice x89f2p_1 x89f2n_1 x89f2c_1), (Value.int .u64 x89f3_1)] = 4 ∧ (∀ c ∈ [(Value.int .i64 x89f0_1), (Value.int .i64 x89f1_1), (Value.slice x89f2p_1 x89f2n_1 x89f2c_1), (Value.int .u64 x89f3_1)], c.oneCell' = true) ∧ wrAt hp_44 b_8 0 4 ∧ ∀ hp_45, hp_45 = setsH hp_44 b_8 0 [(Value.int .i64 x89f0_1), (Value.int .i64 x89f1_1), (Value.slice x89f2p_1 x89f2n_1 x89f2c_1), (Value.int .u64 x89f3_1)] →
        ∃ x91f0_1 : Int, ∃ x91f1_1 : Int, ∃ x91f2_1 : Int, ∃ x91f3_1 : Int, ∃ x91f4_1 : Int, cellsAt hp_45 b_6 0 [(Value.int .i64 x91f0_1), (Value.int .u64 x91f1_1), (Value.int .u64 x91f2_1), (Value.int .i64 x91f3_1), (Value.int .i64 x91f4_1)] ∧
        ∃ x93_1 : Int, cellsAt hp_45 b_8 (0 + 3) [(Value.int .u64 x93_1)] ∧
        (1000 : Int) ≠ 0 ∧ ∃ x94_1, Int.tmod x93_1 (1000 : Int) = x94_1 ∧
        CallsH Tryd.prog 12 #[(Value.agg #[(Value.int .i64 x91f0_1), (Value.int .u64 x91f1_1), (Value.int .u64 x91f2_1), (Value.int .i64 x91f3_1), (Value.int .i64 x91f4_1)]), (Value.int .u64 x94_1)] hp_45 fun en_23 hp_46 =>
        ∃ x95r0f0_1 : Int, ∃ x95r0f1_1 : Int, ∃ x95r0f2_1 : Int, ∃ x95r0f3_1 : Int, ∃ x95r0f4_1 : Int, ∃ x95r1_1 : Int, en_23 = .returned (Value.tuple #[(Value.agg #[(Value.int .i64 x95r0f0_1), (Value.int .u64 x95r0f1_1), (Value.int .u64 x95r0f2_1), (Value.int .i64 x95r0f3_1), (Value.int .i64 x95r0f4_1)]), (Value.int .i64 x95r1_1)]) ∧
        ∀ b_9 hp_47, b_9 = Array.size hp_46 → hp_47 = Array.push hp_46 (.cells (zeros Tryd.prog 26) 26) → (∃ i z, Tryd.prog.info? 26 = some i ∧ i.zero = some z) ∧
        List.length [(Value.int .i64 x95r0f0_1), (Value.int .u64 x95r0f1_1), (Value.int .u64 x95r0f2_1), (Value.int .i64 x95r0f3_1), (Value.int .i64 x95r0f4_1)] = 5 ∧ (∀ c ∈ [(Value.int .i64 x95r0f0_1), (Value.int .u64 x95r0f1_1), (Value.int .u64 x95r0f2_1), (Value.int .i64 x95r0f3_1), (Value.int .i64 x95r0f4_1)], c.oneCell' = true) ∧ wrAt hp_47 b_9 0 5 ∧ ∀ hp_48, hp_48 = setsH hp_47 b_9 0 [(Value.int .i64 x95r0f0_1), (Value.int .u64 x95r0f1_1), (Value.int .u64 x95r0f2_1), (Value.int .i64 x95r0f3_1), (Value.int .i64 x95r0f4_1)] →
        ∃ Jv_6 : List Value → Hp → Prop,
        (∃ B_8 : Bool, ((((decide (x95r1_1 ≠ (0 : Int))) = true →
            hp_48 = hp_48 ∧ B_8 = true) ∧
           ((decide (x95r1_1 ≠ (0 : Int))) = false →
            ∃ x102_1 : Int, cellsAt hp_48 b_9 (0 + 0) [(Value.int .i64 x102_1)] ∧
            ∃ x104_1 : Int, cellsAt hp_48 b_6 (0 + 0) [(Value.int .i64 x104_1)] ∧
            ∃ x105_1, IntKind.i64.wrap ((1 : Int) - x104_1) = x105_1 ∧
            (((decide (x102_1 ≠ x105_1)) = true →
              hp_48 = hp_48 ∧ B_8 = true) ∧
             ((decide (x102_1 ≠ x105_1)) = false →
              ∃ x110_1 : Int, cellsAt hp_48 b_9 (0 + 1) [(Value.int .u64 x110_1)] ∧
              ∃ x112_1 : Int, cellsAt hp_48 b_6 (0 + 1) [(Value.int .u64 x112_1)] ∧
              ∃ x113_1, IntKind.u64.wrap (x112_1 + (1 : Int)) = x113_1 ∧
              (((decide (x110_1 ≠ x113_1)) = true →
                hp_48 = hp_48 ∧ B_8 = true) ∧
               ((decide (x110_1 ≠ x113_1)) = false →
                ∃ x118_1 : Int, cellsAt hp_48 b_9 (0 + 2) [(Value.int .u64 x118_1)] ∧
                ∃ x120_1 : Int, cellsAt hp_48 b_6 (0 + 2) [(Value.int .u64 x120_1)] ∧
                (((decide (x118_1 ≤ x120_1)) = true →
                  hp_48 = hp_48 ∧ B_8 = true) ∧
                 ((decide (x118_1 ≤ x120_1)) = false →
                  ∃ x125_1 : Int, cellsAt hp_48 b_9 (0 + 2) [(Value.int .u64 x125_1)] ∧
                  ∃ x127_1 : Int, cellsAt hp_48 b_8 (0 + 3) [(Value.int .u64 x127_1)] ∧
                  (1000 : Int) ≠ 0 ∧ ∃ x128_1, Int.tmod x127_1 (1000 : Int) = x128_1 ∧
                  (((decide (x125_1 ≤ x128_1)) = true →
                    hp_48 = hp_48 ∧ B_8 = true) ∧
                   ((decide (x125_1 ≤ x128_1)) = false →
                    ∃ x133f0_1 : Int, ∃ x133f1_1 : Int, cellsAt hp_48 b_9 (0 + 3) [(Value.int .i64 x133f0_1), (Value.int .i64 x133f1_1)] ∧
                    ∃ x134f0_1 : Int, ∃ x134f1_1 : Int, cellsAt hp_48 b_ 0 [(Value.int .i64 x134f0_1), (Value.int .i64 x134f1_1)] ∧
                    ∃ x135_1, EqV Tryd.prog 24 (Value.agg #[(Value.int .i64 x133f0_1), (Value.int .i64 x133f1_1)]) (Value.agg #[(Value.int .i64 x134f0_1), (Value.int .i64 x134f1_1)]) x135_1 ∧
                    hp_48 = hp_48 ∧ B_8 = (!x135_1)))))))))))) ∧
         ((B_8 = true →
           R (.returned (Value.bool false)) hp_48) ∧
          (B_8 = false →
           Jv_6 [] hp_48))) ∧
        (∀  hp_49, Jv_6 [] hp_49 →
         ∃ x138_1 : Int, cellsAt hp_49 b_8 (0 + 0) [(Value.int .i64 x138_1)] ∧
         ∃ x140_1, IntKind.i64.wrap ((491 : Int) * x31_) = x140_1 ∧
         CallsH Tryd.prog 17 #[(Value.int .i64 x138_1), (Value.int .i64 x140_1)] hp_49 fun en_24 hp_50 =>
         ∃ x141_1 : Int, en_24 = .returned (Value.int .i64 x141_1) ∧
         ∃ x142_1, IntKind.i64.wrap ((1 : Int) + x141_1) = x142_1 ∧
         ∃ x144_1, IntKind.i64.wrap (i_1 + (1 : Int)) = x144_1 ∧
         CallsH Tryd.prog 19 #[(Value.int .i64 x142_1), (Value.int .i64 x144_1)] hp_50 fun en_25 hp_51 =>
         ∃ x145_1 : ByteArray, en_25 = .returned (Value.string x145_1) ∧
         CallsH Tryd.prog 20 #[(Value.pointer x37r0_)] hp_51 fun en_26 hp_52 =>
         ∃ x147_1 : ByteArray, en_26 = .returned (Value.string x147_1) ∧
         ∃ x150_1 : Int, cellsAt hp_52 b_8 (0 + 1) [(Value.int .i64 x150_1)] ∧
         ∃ x152_1, IntKind.i64.wrap (x31_ + (5 : Int)) = x152_1 ∧
         CallsH Tryd.prog 17 #[(Value.int .i64 x150_1), (Value.int .i64 x152_1)] hp_52 fun en_27 hp_53 =>
         ∃ x153_1 : Int, en_27 = .returned (Value.int .i64 x153_1) ∧
         CallsH Tryd.prog 21 #[(Value.pointer x37r0_), (Value.int .i64 x153_1)] hp_53 fun en_28 hp_54 =>
         en_28 = .returned (Value.tuple #[]) ∧
         ∃ x156f0_1 : Int, ∃ x156f1_1 : Int, ∃ x156f2_1 : Int, ∃ x156f3_1 : Int, ∃ x156f4_1 : Int, cellsAt hp_54 b_9 0 [(Value.int .i64 x156f0_1), (Value.int .u64 x156f1_1), (Value.int .u64 x156f2_1), (Value.int .i64 x156f3_1), (Value.int .i64 x156f4_1)] ∧
         CallsH Tryd.prog 14 #[(Value.pointer x37r0_), (Value.agg #[(Value.int .i64 x156f0_1), (Value.int .u64 x156f1_1), (Value.int .u64 x156f2_1), (Value.int .i64 x156f3_1), (Value.int .i64 x156f4_1)]), (Value.string x145_1)] hp_54 fun en_29 hp_55 =>
         ∃ x158_1 : Int, en_29 = .returned (Value.int .i64 x158_1) ∧
         ∃ Jv_7 : List Value → Hp → Prop,
         (∃ B_9 : Bool, ((((decide (x158_1 ≠ (0 : Int))) = true →
             hp_55 = hp_55 ∧ B_9 = (decide (x158_1 ≠ (40 : Int)))) ∧
            ((decide (x158_1 ≠ (0 : Int))) = false →
             hp_55 = hp_55 ∧ B_9 = false))) ∧
          ((B_9 = true →
            R (.returned (Value.bool false)) hp_55) ∧
           (B_9 = false →
            Jv_7 [] hp_55))) ∧
         (∀  hp_56, Jv_7 [] hp_56 →
          ∃ (x167p_1 : Option Addr) (x167n_1 x167c_1 : Nat), cellsAt hp_56 b_8 (0 + 2) [(Value.slice x167p_1 x167n_1 x167c_1)] ∧
          CallsH Tryd.prog 22 #[(Value.pointer x37r0_), (Value.slice x167p_1 x167n_1 x167c_1)] hp_56 fun en_30 hp_57 =>
          en_30 = .returned (Value.tuple #[]) ∧
          CallsH Tryd.prog 16 #[(Value.pointer x37r0_)] hp_57 fun en_31 hp_58 =>
          ∃ x171r0f0_1 : Int, ∃ x171r0f1_1 : Int, ∃ x171r0f2_1 : Int, ∃ x171r0f3_1 : Int, ∃ x171r0f4_1 : Int, ∃ x171r1_1 : ByteArray, ∃ x171r2_1 : Int, en_31 = .returned (Value.tuple #[(Value.agg #[(Value.int .i64 x171r0f0_1), (Value.int .u64 x171r0f1_1), (Value.int .u64 x171r0f2_1), (Value.int .i64 x171r0f3_1), (Value.int .i64 x171r0f4_1)]), (Value.string x171r1_1), (Value.int .i64 x171r2_1)]) ∧
          ∀ b_10 hp_59, b_10 = Array.size hp_58 → hp_59 = Array.push hp_58 (.cells (zeros Tryd.prog 26) 26) → (∃ i z, Tryd.prog.info? 26 = some i ∧ i.zero = some z) ∧
          List.length [(Value.int .i64 x171r0f0_1), (Value.int .u64 x171r0f1_1), (Value.int .u64 x171r0f2_1), (Value.int .i64 x171r0f3_1), (Value.int .i64 x171r0f4_1)] = 5 ∧ (∀ c ∈ [(Value.int .i64 x171r0f0_1), (Value.int .u64 x171r0f1_1), (Value.int .u64 x171r0f2_1), (Value.int .i64 x171r0f3_1), (Value.int .i64 x171r0f4_1)], c.oneCell' = true) ∧ wrAt hp_59 b_10 0 5 ∧ ∀ hp_60, hp_60 = setsH hp_59 b_10 0 [(Value.int .i64 x171r0f0_1), (Value.int .u64 x171r0f1_1), (Value.int .u64 x171r0f2_1), (Value.int .i64 x171r0f3_1), (Value.int .i64 x171r0f4_1)] →
          ∃ Cv_3 : Hp → Prop, Cv_3 hp_60 ∧
          CallsH Tryd.prog 20 #[(Value.pointer x37r0_)] hp_60 fun en_32 hp_61 =>
          ∃ x177_1 : ByteArray, en_32 = .returned (Value.string x177_1) ∧
          Cv_3 hp_61 ∧
          ∃ x179_1 : Int, (∀ h', Cv_3 h' → cellsAt h' b_9 (0 + 0) [(Value.int .i64 x179_1)]) ∧
          ∃ x181_1, IntKind.i64.wrap (x179_1 * x31_) = x181_1 ∧
          ∃ x182_1, IntKind.i64.wrap ((2 : Int) + x181_1) = x182_1 ∧
          ∃ x184_1 : Int, (∀ h', Cv_3 h' → cellsAt h' b_9 (0 + 0) [(Value.int .i64 x184_1)]) ∧
          ∃ x186_1, IntKind.i64.wrap (x184_1 * x31_) = x186_1 ∧
          ∃ x187_1, IntKind.i64.wrap ((2 : Int) + x186_1) = x187_1 ∧
          ∃ x189_1, IntKind.i64.wrap (x187_1 + x31_) = x189_1 ∧
          ∃ x191_1 : Int, (∀ h', Cv_3 h' → cellsAt h' b_9 (0 + 0) [(Value.int .i64 x191_1)]) ∧
          CallsH Tryd.prog 23 #[(Value.string x147_1), (Value.string x177_1), (Value.int .i64 x182_1), (Value.int .i64 x189_1), (Value.int .i64 x191_1)] hp_61 fun en_33 hp_62 =>
          ∃ x192_1 : Bool, en_33 = .returned (Value.bool x192_1) ∧
          Cv_3 hp_62 ∧
          ∃ Jv_8 : List Value → Hp → Prop,
          (∃ B_10 : Bool, ((((decide (x171r2_1 ≠ (0 : Int))) = true →
              hp_62 = hp_62 ∧ B_10 = true) ∧
             ((decide (x171r2_1 ≠ (0 : Int))) = false →
              hp_62 = hp_62 ∧ B_10 = (!x192_1)))) ∧
           ((B_10 = true →
             R (.returned (Value.bool false)) hp_62) ∧
            (B_10 = false →
             Jv_8 [] hp_62))) ∧
          (∀  hp_63, Jv_8 [] hp_63 →
           ∃ B_11 : Bool, (∃ x200f0_1 : Int, ∃ x200f1_1 : Int, ∃ x200f2_1 : Int, ∃ x200f3_1 : Int, ∃ x200f4_1 : Int, cellsAt hp_63 b_10 0 [(Value.int .i64 x200f0_1), (Value.int .u64 x200f1_1), (Value.int .u64 x200f2_1), (Value.int .i64 x200f3_1), (Value.int .i64 x200f4_1)] ∧
            ∃ x201f0_1 : Int, ∃ x201f1_1 : Int, ∃ x201f2_1 : Int, ∃ x201f3_1 : Int, ∃ x201f4_1 : Int, cellsAt hp_63 b_9 0 [(Value.int .i64 x201f0_1), (Value.int .u64 x201f1_1), (Value.int .u64 x201f2_1), (Value.int .i64 x201f3_1), (Value.int .i64 x201f4_1)] ∧
            ∃ x202_1, EqV Tryd.prog 26 (Value.agg #[(Value.int .i64 x200f0_1), (Value.int .u64 x200f1_1), (Value.int .u64 x200f2_1), (Value.int .i64 x200f3_1), (Value.int .i64 x200f4_1)]) (Value.agg #[(Value.int .i64 x201f0_1), (Value.int .u64 x201f1_1), (Value.int .u64 x201f2_1), (Value.int .i64 x201f3_1), (Value.int .i64 x201f4_1)]) x202_1 ∧
            ((x202_1 = true →
              hp_63 = hp_63 ∧ B_11 = (decide (x171r1_1 = x145_1))) ∧
             (x202_1 = false →
              hp_63 = hp_63 ∧ B_11 = false))) ∧
           ((B_11 = true →
             ∃ x208f0_1 : Int, ∃ x208f1_1 : Int, ∃ x208f2_1 : Int, ∃ x208f3_1 : Int, ∃ x208f4_1 : Int, cellsAt hp_63 b_9 0 [(Value.int .i64 x208f0_1), (Value.int .u64 x208f1_1), (Value.int .u64 x208f2_1), (Value.int .i64 x208f3_1), (Value.int .i64 x208f4_1)] ∧
             List.length [(Value.int .i64 x208f0_1), (Value.int .u64 x208f1_1), (Value.int .u64 x208f2_1), (Value.int .i64 x208f3_1), (Value.int .i64 x208f4_1)] = 5 ∧ (∀ c ∈ [(Value.int .i64 x208f0_1), (Value.int .u64 x208f1_1), (Value.int .u64 x208f2_1), (Value.int .i64 x208f3_1), (Value.int .i64 x208f4_1)], c.oneCell' = true) ∧ wrAt hp_63 b_6 0 5 ∧ ∀ hp_64, hp_64 = setsH hp_63 b_6 0 [(Value.int .i64 x208f0_1), (Value.int .u64 x208f1_1), (Value.int .u64 x208f2_1), (Value.int .i64 x208f3_1), (Value.int .i64 x208f4_1)] →
             ∃ x85_2, IntKind.i64.wrap (i_1 + (1 : Int)) = x85_2 ∧
             (Iv_1 [(Value.string x145_1), (Value.int .i64 x85_2)] hp_64 ∧ m_1 [(Value.string x145_1), (Value.int .i64 x85_2)] hp_64 < m_1 [(Value.string image_1), (Value.int .i64 i_1)] hp_42)) ∧
            (B_11 = false →
             ∃ B_12 : Bool, (∃ x211f0_1 : Int, ∃ x211f1_1 : Int, ∃ x211f2_1 : Int, ∃ x211f3_1 : Int, ∃ x211f4_1 : Int, cellsAt hp_63 b_10 0 [(Value.int .i64 x211f0_1), (Value.int .u64 x211f1_1), (Value.int .u64 x211f2_1), (Value.int .i64 x211f3_1), (Value.int .i64 x211f4_1)] ∧
              ∃ x212f0_1 : Int, ∃ x212f1_1 : Int, ∃ x212f2_1 : Int, ∃ x212f3_1 : Int, ∃ x212f4_1 : Int, cellsAt hp_63 b_6 0 [(Value.int .i64 x212f0_1), (Value.int .u64 x212f1_1), (Value.int .u64 x212f2_1), (Value.int .i64 x212f3_1), (Value.int .i64 x212f4_1)] ∧
              ∃ x213_1, EqV Tryd.prog 26 (Value.agg #[(Value.int .i64 x211f0_1), (Value.int .u64 x211f1_1), (Value.int .u64 x211f2_1), (Value.int .i64 x211f3_1), (Value.int .i64 x211f4_1)]) (Value.agg #[(Value.int .i64 x212f0_1), (Value.int .u64 x212f1_1), (Value.int .u64 x212f2_1), (Value.int .i64 x212f3_1), (Value.int .i64 x212f4_1)]) x213_1 ∧
              (((!x213_1) = true →
                hp_63 = hp_63 ∧ B_12 = true) ∧
               ((!x213_1) = false →
                (((decide (x171r1_1 ≠ image_1)) = true →
                  hp_63 = hp_63 ∧ B_12 = true) ∧
                 ((decide (x171r1_1 ≠ image_1)) = false →
                  hp_63 = hp_63 ∧ B_12 = (decide (x158_1 = (0 : Int)))))))) ∧
             ((B_12 = true →
               R (.returned (Value.bool false)) hp_63) ∧
              (B_12 = false →
               ∃ x85_3, IntKind.i64.wrap (i_1 + (1 : Int)) = x85_3 ∧
               (Iv_1 [(Value.string image_1), (Value.int .i64 x85_3)] hp_63 ∧ m_1 [(Value.string image_1), (Value.int .i64 x85_3)] hp_63 < m_1 [(Value.string image_1), (Value.int .i64 i_1)] hp_42))))))))))))))) :
  CallsH Tryd.prog 5 #[(Value.int .i64 size_), (Value.int .i64 first_), (Value.slice rawp_ rawn_ rawc_)] h R := calls_vc fine false Tryd.func5 (ann := A5) (args := [(Value.int .i64 size_), (Value.int .i64 first_), (Value.slice rawp_ rawn_ rawc_)]) (by kernel_rfl) (Eq.mpr (by kernel_rfl) H)
/-- turnout/turnoutlaw20.CkptLong -/
def A6 : Ann := (.seq .nil (.seq .nil (.seq .nil (.seq .nil (.seq .nil (.seq .nil (.cut (.seq (.join 84) (.cond (.seq .nil .nil) .nil)) [] (.seq (.orders 7 [[0, 1, 2, 3, 4, 5, 6, 7, 8], [0, 7, 1, 2, 3, 4, 5, 6, 8]] [5]) (.seq .nil (.seq .nil (.seq .nil (.seq .nil (.seq .nil (.seq .nil (.seq .nil (.seq .nil (.seq .nil (.seq .nil (.seq .nil (.seq .nil (.cut (.seq (.join 171) (.cond (.seq .nil .nil) .nil)) [] (.seq (.join 33) (.seq (.join 6) .nil)))))))))))))))))))))))
theorem V6 (size_ : Int) (many_ : Int) (first_ : Int) (h : Hp) (R : Ending → Hp → Prop) (H :
  CallsH Tryd.prog 9 #[] h fun en_ hp_ =>
  ∃ x34_ : Bool, en_ = .returned (Value.bool x34_) ∧
  CallsH Tryd.prog 17 #[(Value.int .i64 size_), (Value.int .i64 (8 : Int))] hp_ fun en_1 hp_1 =>
  ∃ x36_ : Int, en_1 = .returned (Value.int .i64 x36_) ∧
  ∃ x37_, IntKind.i64.wrap ((1 : Int) + x36_) = x37_ ∧
  ∃ x39_, IntKind.i64.wrap ((2 : Int) * x37_) = x39_ ∧
  ∃ x40_, IntKind.i64.wrap ((3 : Int) + x39_) = x40_ ∧
  CallsH Tryd.prog 17 #[(Value.int .i64 first_), (Value.int .i64 (3 : Int))] hp_1 fun en_2 hp_2 =>
  ∃ x42_ : Int, en_2 = .returned (Value.int .i64 x42_) ∧
  ∃ x43_, IntKind.i64.wrap (x40_ + x42_) = x43_ ∧
  CallsH Tryd.prog 18 #[(Value.int .i64 x43_)] hp_2 fun en_3 hp_3 =>
  ∃ x46r0_ : Option Addr, ∃ x46r1_ : Int, en_3 = .returned (Value.tuple #[(Value.pointer x46r0_), (Value.int .i64 x46r1_)]) ∧
  CallsH Tryd.prog 10 #[(Value.int .i64 x43_), (Value.int .i64 x37_)] hp_3 fun en_4 hp_4 =>
  ∃ x52r0f0_ : Int, ∃ x52r0f1_ : Int, ∃ x52r1_ : Int, en_4 = .returned (Value.tuple #[(Value.agg #[(Value.int .i64 x52r0f0_), (Value.int .i64 x52r0f1_)]), (Value.int .i64 x52r1_)]) ∧
  ∀ b_ hp_5, b_ = Array.size hp_4 → hp_5 = Array.push hp_4 (.cells (zeros Tryd.prog 24) 24) → (∃ i z, Tryd.prog.info? 24 = some i ∧ i.zero = some z) ∧
  List.length [(Value.int .i64 x52r0f0_), (Value.int .i64 x52r0f1_)] = 2 ∧ (∀ c ∈ [(Value.int .i64 x52r0f0_), (Value.int .i64 x52r0f1_)], c.oneCell' = true) ∧ wrAt hp_5 b_ 0 2 ∧ ∀ hp_6, hp_6 = setsH hp_5 b_ 0 [(Value.int .i64 x52r0f0_), (Value.int .i64 x52r0f1_)] →
  ∃ Jv_ : List Value → Hp → Prop,
  (∃ B_ : Bool, ((((!x34_) = true →
      hp_6 = hp_6 ∧ B_ = true) ∧
     ((!x34_) = false →
      ∃ x59_, EqV Tryd.prog 43 (Value.pointer x46r0_) (Value.pointer none) x59_ ∧
      ((x59_ = true →
        hp_6 = hp_6 ∧ B_ = true) ∧
       (x59_ = false →
        (((decide (x46r1_ ≠ (0 : Int))) = true →
          hp_6 = hp_6 ∧ B_ = true) ∧
         ((decide (x46r1_ ≠ (0 : Int))) = false →
          (((decide (x52r1_ ≠ (0 : Int))) = true →
            hp_6 = hp_6 ∧ B_ = true) ∧
           ((decide (x52r1_ ≠ (0 : Int))) = false →
            ∃ x71_ : Int, cellsAt hp_6 b_ (0 + 0) [(Value.int .i64 x71_)] ∧
            (((decide (x71_ ≠ x37_)) = true →
              hp_6 = hp_6 ∧ B_ = true) ∧
             ((decide (x71_ ≠ x37_)) = false →
              ∃ x77_ : Int, cellsAt hp_6 b_ (0 + 1) [(Value.int .i64 x77_)] ∧
              ∃ x79_, IntKind.i64.wrap (x43_ - (2 : Int)) = x79_ ∧
              ∃ x81_, IntKind.i64.wrap ((2 : Int) * x37_) = x81_ ∧
              ∃ x82_, IntKind.i64.wrap (x79_ - x81_) = x82_ ∧
              hp_6 = hp_6 ∧ B_ = (decide (x77_ ≠ x82_))))))))))))) ∧
   ((B_ = true →
     R (.returned (Value.bool false)) hp_6) ∧
    (B_ = false →
     Jv_ [] hp_6))) ∧
  (∀  hp_7, Jv_ [] hp_7 →
   (∃ Cv_ : Hp → Prop, Cv_ hp_7 ∧
    CallsH Tryd.prog 17 #[(Value.int .i64 first_), (Value.int .i64 (2 : Int))] hp_7 fun en_5 hp_8 =>
    ∃ x86_ : Int, en_5 = .returned (Value.int .i64 x86_) ∧
    Cv_ hp_8 ∧
    ∃ x88_, IntKind.u64.wrap x37_ = x88_ ∧
    ∃ x89_, IntKind.u64.wrap ((1 : Int) + x88_) = x89_ ∧
    ∃ x90f0_ : Int, ∃ x90f1_ : Int, (∀ h', Cv_ h' → cellsAt h' b_ 0 [(Value.int .i64 x90f0_), (Value.int .i64 x90f1_)]) ∧
    ∀ b_1 hp_9, b_1 = Array.size hp_8 → hp_9 = Array.push hp_8 (.cells (zeros Tryd.prog 26) 26) → (∃ i z, Tryd.prog.info? 26 = some i ∧ i.zero = some z) ∧
    Cv_ hp_9 ∧
    List.length [(Value.int .i64 x86_), (Value.int .u64 x89_), (Value.int .u64 (1 : Int)), (Value.int .i64 x90f0_), (Value.int .i64 x90f1_)] = 5 ∧ (∀ c ∈ [(Value.int .i64 x86_), (Value.int .u64 x89_), (Value.int .u64 (1 : Int)), (Value.int .i64 x90f0_), (Value.int .i64 x90f1_)], c.oneCell' = true) ∧ wrAt hp_9 b_1 0 5 ∧ ∀ hp_10, hp_10 = setsH hp_9 b_1 0 [(Value.int .i64 x86_), (Value.int .u64 x89_), (Value.int .u64 (1 : Int)), (Value.int .i64 x90f0_), (Value.int .i64 x90f1_)] →
    Cv_ hp_10 ∧
    ∃ x94_, IntKind.i64.wrap ((491 : Int) * x37_) = x94_ ∧
    CallsH Tryd.prog 17 #[(Value.int .i64 many_), (Value.int .i64 x94_)] hp_10 fun en_6 hp_11 =>
    ∃ x95_ : Int, en_6 = .returned (Value.int .i64 x95_) ∧
    ∃ x96_, IntKind.i64.wrap ((1 : Int) + x95_) = x96_ ∧
    CallsH Tryd.prog 19 #[(Value.int .i64 x96_), (Value.int .i64 (1 : Int))] hp_11 fun en_7 hp_12 =>
    ∃ x97_ : ByteArray, en_7 = .returned (Value.string x97_) ∧
    ∃ x99_, IntKind.i64.wrap ((491 : Int) * x37_) = x99_ ∧
    CallsH Tryd.prog 19 #[(Value.int .i64 x99_), (Value.int .i64 (2 : Int))] hp_12 fun en_8 hp_13 =>
    ∃ x100_ : ByteArray, en_8 = .returned (Value.string x100_) ∧
    ∃ x102f0_ : Int, ∃ x102f1_ : Int, ∃ x102f2_ : Int, ∃ x102f3_ : Int, ∃ x102f4_ : Int, cellsAt hp_13 b_1 0 [(Value.int .i64 x102f0_), (Value.int .u64 x102f1_), (Value.int .u64 x102f2_), (Value.int .i64 x102f3_), (Value.int .i64 x102f4_)] ∧
    CallsH Tryd.prog 14 #[(Value.pointer x46r0_), (Value.agg #[(Value.int .i64 x102f0_), (Value.int .u64 x102f1_), (Value.int .u64 x102f2_), (Value.int .i64 x102f3_), (Value.int .i64 x102f4_)]), (Value.string x97_)] hp_13 fun en_9 hp_14 =>
    ∃ x104_ : Int, en_9 = .returned (Value.int .i64 x104_) ∧
    CallsH Tryd.prog 16 #[(Value.pointer x46r0_)] hp_14 fun en_10 hp_15 =>
    ∃ x107r0f0_ : Int, ∃ x107r0f1_ : Int, ∃ x107r0f2_ : Int, ∃ x107r0f3_ : Int, ∃ x107r0f4_ : Int, ∃ x107r1_ : ByteArray, ∃ x107r2_ : Int, en_10 = .returned (Value.tuple #[(Value.agg #[(Value.int .i64 x107r0f0_), (Value.int .u64 x107r0f1_), (Value.int .u64 x107r0f2_), (Value.int .i64 x107r0f3_), (Value.int .i64 x107r0f4_)]), (Value.string x107r1_), (Value.int .i64 x107r2_)]) ∧
    ∀ b_2 hp_16, b_2 = Array.size hp_15 → hp_16 = Array.push hp_15 (.cells (zeros Tryd.prog 26) 26) → (∃ i z, Tryd.prog.info? 26 = some i ∧ i.zero = some z) ∧
    List.length [(Value.int .i64 x107r0f0_), (Value.int .u64 x107r0f1_), (Value.int .u64 x107r0f2_), (Value.int .i64 x107r0f3_), (Value.int .i64 x107r0f4_)] = 5 ∧ (∀ c ∈ [(Value.int .i64 x107r0f0_), (Value.int .u64 x107r0f1_), (Value.int .u64 x107r0f2_), (Value.int .i64 x107r0f3_), (Value.int .i64 x107r0f4_)], c.oneCell' = true) ∧ wrAt hp_16 b_2 0 5 ∧ ∀ hp_17, hp_17 = setsH hp_16 b_2 0 [(Value.int .i64 x107r0f0_), (Value.int .u64 x107r0f1_), (Value.int .u64 x107r0f2_), (Value.int .i64 x107r0f3_), (Value.int .i64 x107r0f4_)] →
    CallsH Tryd.prog 20 #[(Value.pointer x46r0_)] hp_17 fun en_11 hp_18 =>
    ∃ x112_ : ByteArray, en_11 = .returned (Value.string x112_) ∧
    ∃ x114f0_ : Int, ∃ x114f1_ : Int, ∃ x114f2_ : Int, ∃ x114f3_ : Int, ∃ x114f4_ : Int, cellsAt hp_18 b_1 0 [(Value.int .i64 x114f0_), (Value.int .u64 x114f1_), (Value.int .u64 x114f2_), (Value.int .i64 x114f3_), (Value.int .i64 x114f4_)] ∧
    ByteArray.size x100_ + ByteArray.size (⟨#[120]⟩ : ByteArray) ≤ 9223372036854775807 ∧ ∃ x116_, x100_ ++ (⟨#[120]⟩ : ByteArray) = x116_ ∧
    CallsH Tryd.prog 14 #[(Value.pointer x46r0_), (Value.agg #[(Value.int .i64 x114f0_), (Value.int .u64 x114f1_), (Value.int .u64 x114f2_), (Value.int .i64 x114f3_), (Value.int .i64 x114f4_)]), (Value.string x116_)] hp_18 fun en_12 hp_19 =>
    ∃ x117_ : Int, en_12 = .returned (Value.int .i64 x117_) ∧
    ∃ x119f0_ : Int, ∃ x119f1_ : Int, ∃ x119f2_ : Int, ∃ x119f3_ : Int, ∃ x119f4_ : Int, cellsAt hp_19 b_1 0 [(Value.int .i64 x119f0_), (Value.int .u64 x119f1_), (Value.int .u64 x119f2_), (Value.int .i64 x119f3_), (Value.int .i64 x119f4_)] ∧
    CallsH Tryd.prog 14 #[(Value.pointer x46r0_), (Value.agg #[(Value.int .i64 x119f0_), (Value.int .u64 x119f1_), (Value.int .u64 x119f2_), (Value.int .i64 x119f3_), (Value.int .i64 x119f4_)]), (Value.string (⟨#[]⟩ : ByteArray))] hp_19 fun en_13 hp_20 =>
    ∃ x120_ : Int, en_13 = .returned (Value.int .i64 x120_) ∧
    CallsH Tryd.prog 20 #[(Value.pointer x46r0_)] hp_20 fun en_14 hp_21 =>
    ∃ x122_ : ByteArray, en_14 = .returned (Value.string x122_) ∧
    ∃ x124f0_ : Int, ∃ x124f1_ : Int, ∃ x124f2_ : Int, ∃ x124f3_ : Int, ∃ x124f4_ : Int, cellsAt hp_21 b_1 0 [(Value.int .i64 x124f0_), (Value.int .u64 x124f1_), (Value.int .u64 x124f2_), (Value.int .i64 x124f3_), (Value.int .i64 x124f4_)] ∧
    CallsH Tryd.prog 12 #[(Value.agg #[(Value.int .i64 x124f0_), (Value.int .u64 x124f1_), (Value.int .u64 x124f2_), (Value.int .i64 x124f3_), (Value.int .i64 x124f4_)]), (Value.int .u64 (7 : Int))] hp_21 fun en_15 hp_22 =>
    ∃ x125r0f0_ : Int, ∃ x125r0f1_ : Int, ∃ x125r0f2_ : Int, ∃ x125r0f3_ : Int, ∃ x125r0f4_ : Int, ∃ x125r1_ : Int, en_15 = .returned (Value.tuple #[(Value.agg #[(Value.int .i64 x125r0f0_), (Value.int .u64 x125r0f1_), (Value.int .u64 x125r0f2_), (Value.int .i64 x125r0f3_), (Value.int .i64 x125r0f4_)]), (Value.int .i64 x125r1_)]) ∧
    ∀ b_3 hp_23, b_3 = Array.size hp_22 → hp_23 = Array.push hp_22 (.cells (zeros Tryd.prog 26) 26) → (∃ i z, Tryd.prog.info? 26 = some i ∧ i.zero = some z) ∧
    List.length [(Value.int .i64 x125r0f0_), (Value.int .u64 x125r0f1_), (Value.int .u64 x125r0f2_), (Value.int .i64 x125r0f3_), (Value.int .i64 x125r0f4_)] = 5 ∧ (∀ c ∈ [(Value.int .i64 x125r0f0_), (Value.int .u64 x125r0f1_), (Value.int .u64 x125r0f2_), (Value.int .i64 x125r0f3_), (Value.int .i64 x125r0f4_)], c.oneCell' = true) ∧ wrAt hp_23 b_3 0 5 ∧ ∀ hp_24, hp_24 = setsH hp_23 b_3 0 [(Value.int .i64 x125r0f0_), (Value.int .u64 x125r0f1_), (Value.int .u64 x125r0f2_), (Value.int .i64 x125r0f3_), (Value.int .i64 x125r0f4_)] →
    ∃ x129f0_ : Int, ∃ x129f1_ : Int, ∃ x129f2_ : Int, ∃ x129f3_ : Int, ∃ x129f4_ : Int, cellsAt hp_24 b_3 0 [(Value.int .i64 x129f0_), (Value.int .u64 x129f1_), (Value.int .u64 x129f2_), (Value.int .i64 x129f3_), (Value.int .i64 x129f4_)] ∧
    CallsH Tryd.prog 14 #[(Value.pointer x46r0_), (Value.agg #[(Value.int .i64 x129f0_), (Value.int .u64 x129f1_), (Value.int .u64 x129f2_), (Value.int .i64 x129f3_), (Value.int .i64 x129f4_)]), (Value.string x100_)] hp_24 fun en_16 hp_25 =>
    ∃ x131_ : Int, en_16 = .returned (Value.int .i64 x131_) ∧
    CallsH Tryd.prog 16 #[(Value.pointer x46r0_)] hp_25 fun en_17 hp_26 =>
    ∃ x134r0f0_ : Int, ∃ x134r0f1_ : Int, ∃ x134r0f2_ : Int, ∃ x134r0f3_ : Int, ∃ x134r0f4_ : Int, ∃ x134r1_ : ByteArray, ∃ x134r2_ : Int, en_17 = .returned (Value.tuple #[(Value.agg #[(Value.int .i64 x134r0f0_), (Value.int .u64 x134r0f1_), (Value.int .u64 x134r0f2_), (Value.int .i64 x134r0f3_), (Value.int .i64 x134r0f4_)]), (Value.string x134r1_), (Value.int .i64 x134r2_)]) ∧
    ∀ b_4 hp_27, b_4 = Array.size hp_26 → hp_27 = Array.push hp_26 (.cells (zeros Tryd.prog 26) 26) → (∃ i z, Tryd.prog.info? 26 = some i ∧ i.zero = some z) ∧
    List.length [(Value.int .i64 x134r0f0_), (Value.int .u64 x134r0f1_), (Value.int .u64 x134r0f2_), (Value.int .i64 x134r0f3_), (Value.int .i64 x134r0f4_)] = 5 ∧ (∀ c ∈ [(Value.int .i64 x134r0f0_), (Value.int .u64 x134r0f1_), (Value.int .u64 x134r0f2_), (Value.int .i64 x134r0f3_), (Value.int .i64 x134r0f4_)], c.oneCell' = true) ∧ wrAt hp_27 b_4 0 5 ∧ ∀ hp_28, hp_28 = setsH hp_27 b_4 0 [(Value.int .i64 x134r0f0_), (Value.int .u64 x134r0f1_), (Value.int .u64 x134r0f2_), (Value.int .i64 x134r0f3_), (Value.int .i64 x134r0f4_)] →
    CallsH Tryd.prog 15 #[(Value.pointer x46r0_)] hp_28 fun en_18 hp_29 =>
    ∃ (x140r0p_ : Option Addr) (x140r0n_ x140r0c_ : Nat), ∃ x140r1_ : Int, en_18 = .returned (Value.tuple #[(Value.slice x140r0p_ x140r0n_ x140r0c_), (Value.int .i64 x140r1_)]) ∧
    ∃ Jv_1 : List Value → Hp → Prop,
    (∃ B_1 : Bool, ((((decide (x104_ ≠ (0 : Int))) = true →
        hp_29 = hp_29 ∧ B_1 = true) ∧
       ((decide (x104_ ≠ (0 : Int))) = false →
        (((decide (x107r2_ ≠ (0 : Int))) = true →
          hp_29 = hp_29 ∧ B_1 = true) ∧
         ((decide (x107r2_ ≠ (0 : Int))) = false →
          ∃ x150f0_ : Int, ∃ x150f1_ : Int, ∃ x150f2_ : Int, ∃ x150f3_ : Int, ∃ x150f4_ : Int, cellsAt hp_29 b_2 0 [(Value.int .i64 x150f0_), (Value.int .u64 x150f1_), (Value.int .u64 x150f2_), (Value.int .i64 x150f3_), (Value.int .i64 x150f4_)] ∧
          ∃ x151f0_ : Int, ∃ x151f1_ : Int, ∃ x151f2_ : Int, ∃ x151f3_ : Int, ∃ x151f4_ : Int, cellsAt hp_29 b_1 0 [(Value.int .i64 x151f0_), (Value.int .u64 x151f1_), (Value.int .u64 x151f2_), (Value.int .i64 x151f3_), (Value.int .i64 x151f4_)] ∧
          ∃ x152_, EqV Tryd.prog 26 (Value.agg #[(Value.int .i64 x150f0_), (Value.int .u64 x150f1_), (Value.int .u64 x150f2_), (Value.int .i64 x150f3_), (Value.int .i64 x150f4_)]) (Value.agg #[(Value.int .i64 x151f0_), (Value.int .u64 x151f1_), (Value.int .u64 x151f2_), (Value.int .i64 x151f3_), (Value.int .i64 x151f4_)]) x152_ ∧
          (((!x152_) = true →
            hp_29 = hp_29 ∧ B_1 = true) ∧
           ((!x152_) = false →
            (((decide (x107r1_ ≠ x97_)) = true →
              hp_29 = hp_29 ∧ B_1 = true) ∧
             ((decide (x107r1_ ≠ x97_)) = false →
              (((decide (x117_ ≠ (2 : Int))) = true →
                hp_29 = hp_29 ∧ B_1 = true) ∧
               ((decide (x117_ ≠ (2 : Int))) = false →
                (((decide (x120_ ≠ (1 : Int))) = true →
                  hp_29 = hp_29 ∧ B_1 = true) ∧
                 ((decide (x120_ ≠ (1 : Int))) = false →
                  hp_29 = hp_29 ∧ B_1 = (decide (x112_ ≠ x122_))))))))))))))) ∧
     ((B_1 = true →
       R (.returned (Value.bool false)) hp_29) ∧
      (B_1 = false →
       Jv_1 [] hp_29))) ∧
    (∀  hp_30, Jv_1 [] hp_30 →
     ∃ B_2 : Bool, ((((decide (x140r1_ = (0 : Int))) = true →
        (((decide (((x140r0n_ : Nat) : Int) = (2 : Int))) = true →
          ∃ b_5 o_, x140r0p_ = some ⟨b_5, o_, none⟩ ∧ 0 ≤ (0 : Int) ∧ (0 : Int) < (x140r0n_ : Int) ∧
          ∃ x182f0_ : Int, ∃ x182f1_ : Int, ∃ x182f2_ : Int, ∃ x182f3_ : Int, ∃ x182f4_ : Int, cellsAt hp_30 b_5 (o_ + Int.toNat (0 : Int) * 5) [(Value.int .i64 x182f0_), (Value.int .u64 x182f1_), (Value.int .u64 x182f2_), (Value.int .i64 x182f3_), (Value.int .i64 x182f4_)] ∧
          ∃ x183f0_ : Int, ∃ x183f1_ : Int, ∃ x183f2_ : Int, ∃ x183f3_ : Int, ∃ x183f4_ : Int, cellsAt hp_30 b_3 0 [(Value.int .i64 x183f0_), (Value.int .u64 x183f1_), (Value.int .u64 x183f2_), (Value.int .i64 x183f3_), (Value.int .i64 x183f4_)] ∧
          ∃ x184_, EqV Tryd.prog 26 (Value.agg #[(Value.int .i64 x182f0_), (Value.int .u64 x182f1_), (Value.int .u64 x182f2_), (Value.int .i64 x182f3_), (Value.int .i64 x182f4_)]) (Value.agg #[(Value.int .i64 x183f0_), (Value.int .u64 x183f1_), (Value.int .u64 x183f2_), (Value.int .i64 x183f3_), (Value.int .i64 x183f4_)]) x184_ ∧
          ((x184_ = true →
            ∃ b_6 o_1, x140r0p_ = some ⟨b_6, o_1, none⟩ ∧ 0 ≤ (1 : Int) ∧ (1 : Int) < (x140r0n_ : Int) ∧
            ∃ x189f0_ : Int, ∃ x189f1_ : Int, ∃ x189f2_ : Int, ∃ x189f3_ : Int, ∃ x189f4_ : Int, cellsAt hp_30 b_6 (o_1 + Int.toNat (1 : Int) * 5) [(Value.int .i64 x189f0_), (Value.int .u64 x189f1_), (Value.int .u64 x189f2_), (Value.int .i64 x189f3_), (Value.int .i64 x189f4_)] ∧
            ∃ x190f0_ : Int, ∃ x190f1_ : Int, ∃ x190f2_ : Int, ∃ x190f3_ : Int, ∃ x190f4_ : Int, cellsAt hp_30 b_1 0 [(Value.int .i64 x190f0_), (Value.int .u64 x190f1_), (Value.int .u64 x190f2_), (Value.int .i64 x190f3_), (Value.int .i64 x190f4_)] ∧
            ∃ x191_, EqV Tryd.prog 26 (Value.agg #[(Value.int .i64 x189f0_), (Value.int .u64 x189f1_), (Value.int .u64 x189f2_), (Value.int .i64 x189f3_), (Value.int .i64 x189f4_)]) (Value.agg #[(Value.int .i64 x190f0_), (Value.int .u64 x190f1_), (Value.int .u64 x190f2_), (Value.int .i64 x190f3_), (Value.int .i64 x190f4_)]) x191_ ∧
            hp_30 = hp_30 ∧ B_2 = x191_) ∧
           (x184_ = false →
            hp_30 = hp_30 ∧ B_2 = false))) ∧
         ((decide (((x140r0n_ : Nat) : Int) = (2 : Int))) = false →
          hp_30 = hp_30 ∧ B_2 = false))) ∧
       ((decide (x140r1_ = (0 : Int))) = false →
        hp_30 = hp_30 ∧ B_2 = false))) ∧
     ∃ B_3 : Bool, (((B_2 = true →
        (((decide (x125r1_ = (0 : Int))) = true →
          (((decide (x131_ = (0 : Int))) = true →
            (((decide (x134r2_ = (0 : Int))) = true →
              ∃ x207f0_ : Int, ∃ x207f1_ : Int, ∃ x207f2_ : Int, ∃ x207f3_ : Int, ∃ x207f4_ : Int, cellsAt hp_30 b_4 0 [(Value.int .i64 x207f0_), (Value.int .u64 x207f1_), (Value.int .u64 x207f2_), (Value.int .i64 x207f3_), (Value.int .i64 x207f4_)] ∧
              ∃ x208f0_ : Int, ∃ x208f1_ : Int, ∃ x208f2_ : Int, ∃ x208f3_ : Int, ∃ x208f4_ : Int, cellsAt hp_30 b_3 0 [(Value.int .i64 x208f0_), (Value.int .u64 x208f1_), (Value.int .u64 x208f2_), (Value.int .i64 x208f3_), (Value.int .i64 x208f4_)] ∧
              ∃ x209_, EqV Tryd.prog 26 (Value.agg #[(Value.int .i64 x207f0_), (Value.int .u64 x207f1_), (Value.int .u64 x207f2_), (Value.int .i64 x207f3_), (Value.int .i64 x207f4_)]) (Value.agg #[(Value.int .i64 x208f0_), (Value.int .u64 x208f1_), (Value.int .u64 x208f2_), (Value.int .i64 x208f3_), (Value.int .i64 x208f4_)]) x209_ ∧
              ((x209_ = true →
                (((decide (x134r1_ = x100_)) = true →
                  ∃ x218_ : Int, cellsAt hp_30 b_3 (0 + 2) [(Value.int .u64 x218_)] ∧
                  hp_30 = hp_30 ∧ B_3 = (decide (x218_ = (8 : Int)))) ∧
                 ((decide (x134r1_ = x100_)) = false →
                  hp_30 = hp_30 ∧ B_3 = false))) ∧
               (x209_ = false →
                hp_30 = hp_30 ∧ B_3 = false))) ∧
             ((decide (x134r2_ = (0 : Int))) = false →
              hp_30 = hp_30 ∧ B_3 = false))) ∧
           ((decide (x131_ = (0 : Int))) = false →
            hp_30 = hp_30 ∧ B_3 = false))) ∧
         ((decide (x125r1_ = (0 : Int))) = false →
          hp_30 = hp_30 ∧ B_3 = false))) ∧
       (B_2 = false →
        hp_30 = hp_30 ∧ B_3 = false))) ∧
     R (.returned (Value.bool B_3)) hp_30)) ∧
   (∃ Cv_1 : Hp → Prop, Cv_1 hp_7 ∧
    ∀ b_7 hp_31, b_7 = Array.size hp_7 → hp_31 = Array.push hp_7 (.cells (zeros Tryd.prog 26) 26) → (∃ i z, Tryd.prog.info? 26 = some i ∧ i.zero = some z) ∧
    Cv_1 hp_31 ∧
    CallsH Tryd.prog 17 #[(Value.int .i64 first_), (Value.int .i64 (2 : Int))] hp_31 fun en_19 hp_32 =>
    ∃ x86_1 : Int, en_19 = .returned (Value.int .i64 x86_1) ∧
    Cv_1 hp_32 ∧
    ∃ x88_1, IntKind.u64.wrap x37_ = x88_1 ∧
    ∃ x89_1, IntKind.u64.wrap ((1 : Int) + x88_1) = x89_1 ∧
    ∃ x90f0_1 : Int, ∃ x90f1_1 : Int, (∀ h', Cv_1 h' → cellsAt h' b_ 0 [(Value.int .i64 x90f0_1), (Value.int .i64 x90f1_1)]) ∧
    List.length [(Value.int .i64 x86_1), (Value.int .u64 x89_1), (Value.int .u64 (1 : Int)), (Value.int .i64 x90f0_1), (Value.int .i64 x90f1_1)] = 5 ∧ (∀ c ∈ [(Value.int .i64 x86_1), (Value.int .u64 x89_1), (Value.int .u64 (1 : Int)), (Value.int .i64 x90f0_1), (Value.int .i64 x90f1_1)], c.oneCell' = true) ∧ wrAt hp_32 b_7 0 5 ∧ ∀ hp_33, hp_33 = setsH hp_32 b_7 0 [(Value.int .i64 x86_1), (Value.int .u64 x89_1), (Value.int .u64 (1 : Int)), (Value.int .i64 x90f0_1), (Value.int .i64 x90f1_1)] →
    Cv_1 hp_33 ∧
    ∃ x94_1, IntKind.i64.wrap ((491 : Int) * x37_) = x94_1 ∧
    CallsH Tryd.prog 17 #[(Value.int .i64 many_), (Value.int .i64 x94_1)] hp_33 fun en_20 hp_34 =>
    ∃ x95_1 : Int, en_20 = .returned (Value.int .i64 x95_1) ∧
    ∃ x96_1, IntKind.i64.wrap ((1 : Int) + x95_1) = x96_1 ∧
    CallsH Tryd.prog 19 #[(Value.int .i64 x96_1), (Value.int .i64 (1 : Int))] hp_34 fun en_21 hp_35 =>
    ∃ x97_1 : ByteArray, en_21 = .returned (Value.string x97_1) ∧
    ∃ x99_1, IntKind.i64.wrap ((491 : Int) * x37_) = x99_1 ∧
    CallsH Tryd.prog 19 #[(Value.int .i64 x99_1), (Value.int .i64 (2 : Int))] hp_35 fun en_22 hp_36 =>
    ∃ x100_1 : ByteArray, en_22 = .returned (Value.string x100_1) ∧
    ∃ x102f0_1 : Int, ∃ x102f1_1 : Int, ∃ x102f2_1 : Int, ∃ x102f3_1 : Int, ∃ x102f4_1 : Int, cellsAt hp_36 b_7 0 [(Value.int .i64 x102f0_1), (Value.int .u64 x102f1_1), (Value.int .u64 x102f2_1), (Value.int .i64 x102f3_1), (Value.int .i64 x102f4_1)] ∧
    CallsH Tryd.prog 14 #[(Value.pointer x46r0_), (Value.agg #[(Value.int .i64 x102f0_1), (Value.int .u64 x102f1_1), (Value.int .u64 x102f2_1), (Value.int .i64 x102f3_1), (Value.int .i64 x102f4_1)]), (Value.string x97_1)] hp_36 fun en_23 hp_37 =>
    ∃ x104_1 : Int, en_23 = .returned (Value.int .i64 x104_1) ∧
    CallsH Tryd.prog 16 #[(Value.pointer x46r0_)] hp_37 fun en_24 hp_38 =>
    ∃ x107r0f0_1 : Int, ∃ x107r0f1_1 : Int, ∃ x107r0f2_1 : Int, ∃ x107r0f3_1 : Int, ∃ x107r0f4_1 : Int, ∃ x107r1_1 : ByteArray, ∃ x107r2_1 : Int, en_24 = .returned (Value.tuple #[(Value.agg #[(Value.int .i64 x107r0f0_1), (Value.int .u64 x107r0f1_1), (Value.int .u64 x107r0f2_1), (Value.int .i64 x107r0f3_1), (Value.int .i64 x107r0f4_1)]), (Value.string x107r1_1), (Value.int .i64 x107r2_1)]) ∧
    ∀ b_8 hp_39, b_8 = Array.size hp_38 → hp_39 = Array.push hp_38 (.cells (zeros Tryd.prog 26) 26) → (∃ i z, Tryd.prog.info? 26 = some i ∧ i.zero = some z) ∧
    List.length [(Value.int .i64 x107r0f0_1), (Value.int .u64 x107r0f1_1), (Value.int .u64 x107r0f2_1), (Value.int .i64 x107r0f3_1), (Value.int .i64 x107r0f4_1)] = 5 ∧ (∀ c ∈ [(Value.int .i64 x107r0f0_1), (Value.int .u64 x107r0f1_1), (Value.int .u64 x107r0f2_1), (Value.int .i64 x107r0f3_1), (Value.int .i64 x107r0f4_1)], c.oneCell' = true) ∧ wrAt hp_39 b_8 0 5 ∧ ∀ hp_40, hp_40 = setsH hp_39 b_8 0 [(Value.int .i64 x107r0f0_1), (Value.int .u64 x107r0f1_1), (Value.int .u64 x107r0f2_1), (Value.int .i64 x107r0f3_1), (Value.int .i64 x107r0f4_1)] →
    CallsH Tryd.prog 20 #[(Value.pointer x46r0_)] hp_40 fun en_25 hp_41 =>
    ∃ x112_1 : ByteArray, en_25 = .returned (Value.string x112_1) ∧
    ∃ x114f0_1 : Int, ∃ x114f1_1 : Int, ∃ x114f2_1 : Int, ∃ x114f3_1 : Int, ∃ x114f4_1 : Int, cellsAt hp_41 b_7 0 [(Value.int .i64 x114f0_1), (Value.int .u64 x114f1_1), (Value.int .u64 x114f2_1), (Value.int .i64 x114f3_1), (Value.int .i64 x114f4_1)] ∧
    ByteArray.size x100_1 + ByteArray.size (⟨#[120]⟩ : ByteArray) ≤ 9223372036854775807 ∧ ∃ x116_1, x100_1 ++ (⟨#[120]⟩ : ByteArray) = x116_1 ∧
    CallsH Tryd.prog 14 #[(Value.pointer x46r0_), (Value.agg #[(Value.int .i64 x114f0_1), (Value.int .u64 x114f1_1), (Value.int .u64 x114f2_1), (Value.int .i64 x114f3_1), (Value.int .i64 x114f4_1)]), (Value.string x116_1)] hp_41 fun en_26 hp_42 =>
    ∃ x117_1 : Int, en_26 = .returned (Value.int .i64 x117_1) ∧
    ∃ x119f0_1 : Int, ∃ x119f1_1 : Int, ∃ x119f2_1 : Int, ∃ x119f3_1 : Int, ∃ x119f4_1 : Int, cellsAt hp_42 b_7 0 [(Value.int .i64 x119f0_1), (Value.int .u64 x119f1_1), (Value.int .u64 x119f2_1), (Value.int .i64 x119f3_1), (Value.int .i64 x119f4_1)] ∧
    CallsH Tryd.prog 14 #[(Value.pointer x46r0_), (Value.agg #[(Value.int .i64 x119f0_1), (Value.int .u64 x119f1_1), (Value.int .u64 x119f2_1), (Value.int .i64 x119f3_1), (Value.int .i64 x119f4_1)]), (Value.string (⟨#[]⟩ : ByteArray))] hp_42 fun en_27 hp_43 =>
    ∃ x120_1 : Int, en_27 = .returned (Value.int .i64 x120_1) ∧
    CallsH Tryd.prog 20 #[(Value.pointer x46r0_)] hp_43 fun en_28 hp_44 =>
    ∃ x122_1 : ByteArray, en_28 = .returned (Value.string x122_1) ∧
    ∃ x124f0_1 : Int, ∃ x124f1_1 : Int, ∃ x124f2_1 : Int, ∃ x124f3_1 : Int, ∃ x124f4_1 : Int, cellsAt hp_44 b_7 0 [(Value.int .i64 x124f0_1), (Value.int .u64 x124f1_1), (Value.int .u64 x124f2_1), (Value.int .i64 x124f3_1), (Value.int .i64 x124f4_1)] ∧
    CallsH Tryd.prog 12 #[(Value.agg #[(Value.int .i64 x124f0_1), (Value.int .u64 x124f1_1), (Value.int .u64 x124f2_1), (Value.int .i64 x124f3_1), (Value.int .i64 x124f4_1)]), (Value.int .u64 (7 : Int))] hp_44 fun en_29 hp_45 =>
    ∃ x125r0f0_1 : Int, ∃ x125r0f1_1 : Int, ∃ x125r0f2_1 : Int, ∃ x125r0f3_1 : Int, ∃ x125r0f4_1 : Int, ∃ x125r1_1 : Int, en_29 = .returned (Value.tuple #[(Value.agg #[(Value.int .i64 x125r0f0_1), (Value.int .u64 x125r0f1_1), (Value.int .u64 x125r0f2_1), (Value.int .i64 x125r0f3_1), (Value.int .i64 x125r0f4_1)]), (Value.int .i64 x125r1_1)]) ∧
    ∀ b_9 hp_46, b_9 = Array.size hp_45 → hp_46 = Array.push hp_45 (.cells (zeros Tryd.prog 26) 26) → (∃ i z, Tryd.prog.info? 26 = some i ∧ i.zero = some z) ∧
    List.length [(Value.int .i64 x125r0f0_1), (Value.int .u64 x125r0f1_1), (Value.int .u64 x125r0f2_1), (Value.int .i64 x125r0f3_1), (Value.int .i64 x125r0f4_1)] = 5 ∧ (∀ c ∈ [(Value.int .i64 x125r0f0_1), (Value.int .u64 x125r0f1_1), (Value.int .u64 x125r0f2_1), (Value.int .i64 x125r0f3_1), (Value.int .i64 x125r0f4_1)], c.oneCell' = true) ∧ wrAt hp_46 b_9 0 5 ∧ ∀ hp_47, hp_47 = setsH hp_46 b_9 0 [(Value.int .i64 x125r0f0_1), (Value.int .u64 x125r0f1_1), (Value.int .u64 x125r0f2_1), (Value.int .i64 x125r0f3_1), (Value.int .i64 x125r0f4_1)] →
    ∃ x129f0_1 : Int, ∃ x129f1_1 : Int, ∃ x129f2_1 : Int, ∃ x129f3_1 : Int, ∃ x129f4_1 : Int, cellsAt hp_47 b_9 0 [(Value.int .i64 x129f0_1), (Value.int .u64 x129f1_1), (Value.int .u64 x129f2_1), (Value.int .i64 x129f3_1), (Value.int .i64 x129f4_1)] ∧
    CallsH Tryd.prog 14 #[(Value.pointer x46r0_), (Value.agg #[(Value.int .i64 x129f0_1), (Value.int .u64 x129f1_1), (Value.int .u64 x129f2_1), (Value.int .i64 x129f3_1), (Value.int .i64 x129f4_1)]), (Value.string x100_1)] hp_47 fun en_30 hp_48 =>
    ∃ x131_1 : Int, en_30 = .returned (Value.int .i64 x131_1) ∧
    CallsH Tryd.prog 16 #[(Value.pointer x46r0_)] hp_48 fun en_31 hp_49 =>
    ∃ x134r0f0_1 : Int, ∃ x134r0f1_1 : Int, ∃ x134r0f2_1 : Int, ∃ x134r0f3_1 : Int, ∃ x134r0f4_1 : Int, ∃ x134r1_1 : ByteArray, ∃ x134r2_1 : Int, en_31 = .returned (Value.tuple #[(Value.agg #[(Value.int .i64 x134r0f0_1), (Value.int .u64 x134r0f1_1), (Value.int .u64 x134r0f2_1), (Value.int .i64 x134r0f3_1), (Value.int .i64 x134r0f4_1)]), (Value.string x134r1_1), (Value.int .i64 x134r2_1)]) ∧
    ∀ b_10 hp_50, b_10 = Array.size hp_49 → hp_50 = Array.push hp_49 (.cells (zeros Tryd.prog 26) 26) → (∃ i z, Tryd.prog.info? 26 = some i ∧ i.zero = some z) ∧
    List.length [(Value.int .i64 x134r0f0_1), (Value.int .u64 x134r0f1_1), (Value.int .u64 x134r0f2_1), (Value.int .i64 x134r0f3_1), (Value.int .i64 x134r0f4_1)] = 5 ∧ (∀ c ∈ [(Value.int .i64 x134r0f0_1), (Value.int .u64 x134r0f1_1), (Value.int .u64 x134r0f2_1), (Value.int .i64 x134r0f3_1), (Value.int .i64 x134r0f4_1)], c.oneCell' = true) ∧ wrAt hp_50 b_10 0 5 ∧ ∀ hp_51, hp_51 = setsH hp_50 b_10 0 [(Value.int .i64 x134r0f0_1), (Value.int .u64 x134r0f1_1), (Value.int .u64 x134r0f2_1), (Value.int .i64 x134r0f3_1), (Value.int .i64 x134r0f4_1)] →
    CallsH Tryd.prog 15 #[(Value.pointer x46r0_)] hp_51 fun en_32 hp_52 =>
    ∃ (x140r0p_1 : Option Addr) (x140r0n_1 x140r0c_1 : Nat), ∃ x140r1_1 : Int, en_32 = .returned (Value.tuple #[(Value.slice x140r0p_1 x140r0n_1 x140r0c_1), (Value.int .i64 x140r1_1)]) ∧
    ∃ Jv_2 : List Value → Hp → Prop,
    (∃ B_4 : Bool, ((((decide (x104_1 ≠ (0 : Int))) = true →
        hp_52 = hp_52 ∧ B_4 = true) ∧
       ((decide (x104_1 ≠ (0 : Int))) = false →
        (((decide (x107r2_1 ≠ (0 : Int))) = true →
          hp_52 = hp_52 ∧ B_4 = true) ∧
         ((decide (x107r2_1 ≠ (0 : Int))) = false →
          ∃ x150f0_1 : Int, ∃ x150f1_1 : Int, ∃ x150f2_1 : Int, ∃ x150f3_1 : Int, ∃ x150f4_1 : Int, cellsAt hp_52 b_8 0 [(Value.int .i64 x150f0_1), (Value.int .u64 x150f1_1), (Value.int .u64 x150f2_1), (Value.int .i64 x150f3_1), (Value.int .i64 x150f4_1)] ∧
          ∃ x151f0_1 : Int, ∃ x151f1_1 : Int, ∃ x151f2_1 : Int, ∃ x151f3_1 : Int, ∃ x151f4_1 : Int, cellsAt hp_52 b_7 0 [(Value.int .i64 x151f0_1), (Value.int .u64 x151f1_1), (Value.int .u64 x151f2_1), (Value.int .i64 x151f3_1), (Value.int .i64 x151f4_1)] ∧
          ∃ x152_1, EqV Tryd.prog 26 (Value.agg #[(Value.int .i64 x150f0_1), (Value.int .u64 x150f1_1), (Value.int .u64 x150f2_1), (Value.int .i64 x150f3_1), (Value.int .i64 x150f4_1)]) (Value.agg #[(Value.int .i64 x151f0_1), (Value.int .u64 x151f1_1), (Value.int .u64 x151f2_1), (Value.int .i64 x151f3_1), (Value.int .i64 x151f4_1)]) x152_1 ∧
          (((!x152_1) = true →
            hp_52 = hp_52 ∧ B_4 = true) ∧
           ((!x152_1) = false →
            (((decide (x107r1_1 ≠ x97_1)) = true →
              hp_52 = hp_52 ∧ B_4 = true) ∧
             ((decide (x107r1_1 ≠ x97_1)) = false →
              (((decide (x117_1 ≠ (2 : Int))) = true →
                hp_52 = hp_52 ∧ B_4 = true) ∧
               ((decide (x117_1 ≠ (2 : Int))) = false →
                (((decide (x120_1 ≠ (1 : Int))) = true →
                  hp_52 = hp_52 ∧ B_4 = true) ∧
                 ((decide (x120_1 ≠ (1 : Int))) = false →
                  hp_52 = hp_52 ∧ B_4 = (decide (x112_1 ≠ x122_1))))))))))))))) ∧
     ((B_4 = true →
       R (.returned (Value.bool false)) hp_52) ∧
      (B_4 = false →
       Jv_2 [] hp_52))) ∧
    (∀  hp_53, Jv_2 [] hp_53 →
     ∃ B_5 : Bool, ((((decide (x140r1_1 = (0 : Int))) = true →
        (((decide (((x140r0n_1 : Nat) : Int) = (2 : Int))) = true →
          ∃ b_11 o_2, x140r0p_1 = some ⟨b_11, o_2, none⟩ ∧ 0 ≤ (0 : Int) ∧ (0 : Int) < (x140r0n_1 : Int) ∧
          ∃ x182f0_1 : Int, ∃ x182f1_1 : Int, ∃ x182f2_1 : Int, ∃ x182f3_1 : Int, ∃ x182f4_1 : Int, cellsAt hp_53 b_11 (o_2 + Int.toNat (0 : Int) * 5) [(Value.int .i64 x182f0_1), (Value.int .u64 x182f1_1), (Value.int .u64 x182f2_1), (Value.int .i64 x182f3_1), (Value.int .i64 x182f4_1)] ∧
          ∃ x183f0_1 : Int, ∃ x183f1_1 : Int, ∃ x183f2_1 : Int, ∃ x183f3_1 : Int, ∃ x183f4_1 : Int, cellsAt hp_53 b_9 0 [(Value.int .i64 x183f0_1), (Value.int .u64 x183f1_1), (Value.int .u64 x183f2_1), (Value.int .i64 x183f3_1), (Value.int .i64 x183f4_1)] ∧
          ∃ x184_1, EqV Tryd.prog 26 (Value.agg #[(Value.int .i64 x182f0_1), (Value.int .u64 x182f1_1), (Value.int .u64 x182f2_1), (Value.int .i64 x182f3_1), (Value.int .i64 x182f4_1)]) (Value.agg #[(Value.int .i64 x183f0_1), (Value.int .u64 x183f1_1), (Value.int .u64 x183f2_1), (Value.int .i64 x183f3_1), (Value.int .i64 x183f4_1)]) x184_1 ∧
          ((x184_1 = true →
            ∃ b_12 o_3, x140r0p_1 = some ⟨b_12, o_3, none⟩ ∧ 0 ≤ (1 : Int) ∧ (1 : Int) < (x140r0n_1 : Int) ∧
            ∃ x189f0_1 : Int, ∃ x189f1_1 : Int, ∃ x189f2_1 : Int, ∃ x189f3_1 : Int, ∃ x189f4_1 : Int, cellsAt hp_53 b_12 (o_3 + Int.toNat (1 : Int) * 5) [(Value.int .i64 x189f0_1), (Value.int .u64 x189f1_1), (Value.int .u64 x189f2_1), (Value.int .i64 x189f3_1), (Value.int .i64 x189f4_1)] ∧
            ∃ x190f0_1 : Int, ∃ x190f1_1 : Int, ∃ x190f2_1 : Int, ∃ x190f3_1 : Int, ∃ x190f4_1 : Int, cellsAt hp_53 b_7 0 [(Value.int .i64 x190f0_1), (Value.int .u64 x190f1_1), (Value.int .u64 x190f2_1), (Value.int .i64 x190f3_1), (Value.int .i64 x190f4_1)] ∧
            ∃ x191_1, EqV Tryd.prog 26 (Value.agg #[(Value.int .i64 x189f0_1), (Value.int .u64 x189f1_1), (Value.int .u64 x189f2_1), (Value.int .i64 x189f3_1), (Value.int .i64 x189f4_1)]) (Value.agg #[(Value.int .i64 x190f0_1), (Value.int .u64 x190f1_1), (Value.int .u64 x190f2_1), (Value.int .i64 x190f3_1), (Value.int .i64 x190f4_1)]) x191_1 ∧
            hp_53 = hp_53 ∧ B_5 = x191_1) ∧
           (x184_1 = false →
            hp_53 = hp_53 ∧ B_5 = false))) ∧
         ((decide (((x140r0n_1 : Nat) : Int) = (2 : Int))) = false →
          hp_53 = hp_53 ∧ B_5 = false))) ∧
       ((decide (x140r1_1 = (0 : Int))) = false →
        hp_53 = hp_53 ∧ B_5 = false))) ∧
     ∃ B_6 : Bool, (((B_5 = true →
        (((decide (x125r1_1 = (0 : Int))) = true →
          (((decide (x131_1 = (0 : Int))) = true →
            (((decide (x134r2_1 = (0 : Int))) = true →
              ∃ x207f0_1 : Int, ∃ x207f1_1 : Int, ∃ x207f2_1 : Int, ∃ x207f3_1 : Int, ∃ x207f4_1 : Int, cellsAt hp_53 b_10 0 [(Value.int .i64 x207f0_1), (Value.int .u64 x207f1_1), (Value.int .u64 x207f2_1), (Value.int .i64 x207f3_1), (Value.int .i64 x207f4_1)] ∧
              ∃ x208f0_1 : Int, ∃ x208f1_1 : Int, ∃ x208f2_1 : Int, ∃ x208f3_1 : Int, ∃ x208f4_1 : Int, cellsAt hp_53 b_9 0 [(Value.int .i64 x208f0_1), (Value.int .u64 x208f1_1), (Value.int .u64 x208f2_1), (Value.int .i64 x208f3_1), (Value.int .i64 x208f4_1)] ∧
              ∃ x209_1, EqV Tryd.prog 26 (Value.agg #[(Value.int .i64 x207f0_1), (Value.int .u64 x207f1_1), (Value.int .u64 x207f2_1), (Value.int .i64 x207f3_1), (Value.int .i64 x207f4_1)]) (Value.agg #[(Value.int .i64 x208f0_1), (Value.int .u64 x208f1_1), (Value.int .u64 x208f2_1), (Value.int .i64 x208f3_1), (Value.int .i64 x208f4_1)]) x209_1 ∧
              ((x209_1 = true →
                (((decide (x134r1_1 = x100_1)) = true →
                  ∃ x218_1 : Int, cellsAt hp_53 b_9 (0 + 2) [(Value.int .u64 x218_1)] ∧
                  hp_53 = hp_53 ∧ B_6 = (decide (x218_1 = (8 : Int)))) ∧
                 ((decide (x134r1_1 = x100_1)) = false →
                  hp_53 = hp_53 ∧ B_6 = false))) ∧
               (x209_1 = false →
                hp_53 = hp_53 ∧ B_6 = false))) ∧
             ((decide (x134r2_1 = (0 : Int))) = false →
              hp_53 = hp_53 ∧ B_6 = false))) ∧
           ((decide (x131_1 = (0 : Int))) = false →
            hp_53 = hp_53 ∧ B_6 = false))) ∧
         ((decide (x125r1_1 = (0 : Int))) = false →
          hp_53 = hp_53 ∧ B_6 = false))) ∧
       (B_5 = false →
        hp_53 = hp_53 ∧ B_6 = false))) ∧
     R (.returned (Value.bool B_6)) hp_53)))) :
  CallsH Tryd.prog 6 #[(Value.int .i64 size_), (Value.int .i64 many_), (Value.int .i64 first_)] h R := calls_vc fine false Tryd.func6 (ann := A6) (args := [(Value.int .i64 size_), (Value.int .i64 many_), (Value.int .i64 first_)]) (by kernel_rfl) (Eq.mpr (by kernel_rfl) H)
/-- turnout/turnoutlaw20.CkptAny -/
def A7 : Ann := (.seq .nil (.seq .nil (.seq .nil (.cut (.seq (.join 34) (.cond (.seq (.join 2) .nil) .nil)) [] (.seq .nil (.seq .nil (.seq .nil (.seq .nil (.seq .nil (.cut (.seq .nil (.cond (.seq .nil .nil) .nil)) [] (.seq (.seq .nil (.cond (.seq (.join 2) .nil) .nil)) (.seq (.seq .nil (.cond (.seq .nil .nil) .nil)) (.seq (.seq .nil (.cond (.seq (.join 2) .nil) .nil)) (.seq (.orders 9 [[0, 1, 2, 3, 4, 5, 6, 7, 8, 9, 10, 11], [0, 9, 1, 2, 3, 4, 5, 6, 7, 8, 10, 11], [0, 1, 2, 3, 4, 9, 5, 6, 7, 8, 10, 11]] [4]) (.seq (.join 18) (.seq (.join 2) .nil))))))))))))))))
theorem V7 (image_ : ByteArray) (h : Hp) (R : Ending → Hp → Prop) (H :
  CallsH Tryd.prog 9 #[] h fun en_ hp_ =>
  ∃ x19_ : Bool, en_ = .returned (Value.bool x19_) ∧
  CallsH Tryd.prog 24 #[(Value.string image_)] hp_ fun en_1 hp_1 =>
  ∃ x22r0_ : Option Addr, ∃ x22r1_ : Int, en_1 = .returned (Value.tuple #[(Value.pointer x22r0_), (Value.int .i64 x22r1_)]) ∧
  ∃ Jv_ : List Value → Hp → Prop,
  (∃ B_ : Bool, ((((!x19_) = true →
      hp_1 = hp_1 ∧ B_ = true) ∧
     ((!x19_) = false →
      (((decide (x22r1_ ≠ (0 : Int))) = true →
        hp_1 = hp_1 ∧ B_ = true) ∧
       ((decide (x22r1_ ≠ (0 : Int))) = false →
        ∃ x33_, EqV Tryd.prog 43 (Value.pointer x22r0_) (Value.pointer none) x33_ ∧
        hp_1 = hp_1 ∧ B_ = x33_))))) ∧
   ((B_ = true →
     ∃ B_1 : Bool, (((x19_ = true →
        hp_1 = hp_1 ∧ B_1 = (decide (x22r1_ = (1 : Int)))) ∧
       (x19_ = false →
        hp_1 = hp_1 ∧ B_1 = false))) ∧
     R (.returned (Value.bool B_1)) hp_1) ∧
    (B_ = false →
     Jv_ [] hp_1))) ∧
  (∀  hp_2, Jv_ [] hp_2 →
   CallsH Tryd.prog 15 #[(Value.pointer x22r0_)] hp_2 fun en_2 hp_3 =>
   ∃ (x42r0p_ : Option Addr) (x42r0n_ x42r0c_ : Nat), ∃ x42r1_ : Int, en_2 = .returned (Value.tuple #[(Value.slice x42r0p_ x42r0n_ x42r0c_), (Value.int .i64 x42r1_)]) ∧
   CallsH Tryd.prog 25 #[(Value.pointer x22r0_)] hp_3 fun en_3 hp_4 =>
   ∃ x46f0_ : Int, ∃ x46f1_ : Int, ∃ x46f2_ : Int, en_3 = .returned (Value.agg #[(Value.int .i64 x46f0_), (Value.int .i64 x46f1_), (Value.int .i64 x46f2_)]) ∧
   ∀ b_ hp_5, b_ = Array.size hp_4 → hp_5 = Array.push hp_4 (.cells (zeros Tryd.prog 58) 58) → (∃ i z, Tryd.prog.info? 58 = some i ∧ i.zero = some z) ∧
   List.length [(Value.int .i64 x46f0_), (Value.int .i64 x46f1_), (Value.int .i64 x46f2_)] = 3 ∧ (∀ c ∈ [(Value.int .i64 x46f0_), (Value.int .i64 x46f1_), (Value.int .i64 x46f2_)], c.oneCell' = true) ∧ wrAt hp_5 b_ 0 3 ∧ ∀ hp_6, hp_6 = setsH hp_5 b_ 0 [(Value.int .i64 x46f0_), (Value.int .i64 x46f1_), (Value.int .i64 x46f2_)] →
   CallsH Tryd.prog 16 #[(Value.pointer x22r0_)] hp_6 fun en_4 hp_7 =>
   ∃ x49r0f0_ : Int, ∃ x49r0f1_ : Int, ∃ x49r0f2_ : Int, ∃ x49r0f3_ : Int, ∃ x49r0f4_ : Int, ∃ x49r1_ : ByteArray, ∃ x49r2_ : Int, en_4 = .returned (Value.tuple #[(Value.agg #[(Value.int .i64 x49r0f0_), (Value.int .u64 x49r0f1_), (Value.int .u64 x49r0f2_), (Value.int .i64 x49r0f3_), (Value.int .i64 x49r0f4_)]), (Value.string x49r1_), (Value.int .i64 x49r2_)]) ∧
   ∀ b_1 hp_8, b_1 = Array.size hp_7 → hp_8 = Array.push hp_7 (.cells (zeros Tryd.prog 26) 26) → (∃ i z, Tryd.prog.info? 26 = some i ∧ i.zero = some z) ∧
   List.length [(Value.int .i64 x49r0f0_), (Value.int .u64 x49r0f1_), (Value.int .u64 x49r0f2_), (Value.int .i64 x49r0f3_), (Value.int .i64 x49r0f4_)] = 5 ∧ (∀ c ∈ [(Value.int .i64 x49r0f0_), (Value.int .u64 x49r0f1_), (Value.int .u64 x49r0f2_), (Value.int .i64 x49r0f3_), (Value.int .i64 x49r0f4_)], c.oneCell' = true) ∧ wrAt hp_8 b_1 0 5 ∧ ∀ hp_9, hp_9 = setsH hp_8 b_1 0 [(Value.int .i64 x49r0f0_), (Value.int .u64 x49r0f1_), (Value.int .u64 x49r0f2_), (Value.int .i64 x49r0f3_), (Value.int .i64 x49r0f4_)] →
   CallsH Tryd.prog 25 #[(Value.pointer x22r0_)] hp_9 fun en_5 hp_10 =>
   ∃ x54f0_ : Int, ∃ x54f1_ : Int, ∃ x54f2_ : Int, en_5 = .returned (Value.agg #[(Value.int .i64 x54f0_), (Value.int .i64 x54f1_), (Value.int .i64 x54f2_)]) ∧
   ∀ b_2 hp_11, b_2 = Array.size hp_10 → hp_11 = Array.push hp_10 (.cells (zeros Tryd.prog 58) 58) → (∃ i z, Tryd.prog.info? 58 = some i ∧ i.zero = some z) ∧
   List.length [(Value.int .i64 x54f0_), (Value.int .i64 x54f1_), (Value.int .i64 x54f2_)] = 3 ∧ (∀ c ∈ [(Value.int .i64 x54f0_), (Value.int .i64 x54f1_), (Value.int .i64 x54f2_)], c.oneCell' = true) ∧ wrAt hp_11 b_2 0 3 ∧ ∀ hp_12, hp_12 = setsH hp_11 b_2 0 [(Value.int .i64 x54f0_), (Value.int .i64 x54f1_), (Value.int .i64 x54f2_)] →
   CallsH Tryd.prog 16 #[(Value.pointer x22r0_)] hp_12 fun en_6 hp_13 =>
   ∃ x57r0f0_ : Int, ∃ x57r0f1_ : Int, ∃ x57r0f2_ : Int, ∃ x57r0f3_ : Int, ∃ x57r0f4_ : Int, ∃ x57r1_ : ByteArray, ∃ x57r2_ : Int, en_6 = .returned (Value.tuple #[(Value.agg #[(Value.int .i64 x57r0f0_), (Value.int .u64 x57r0f1_), (Value.int .u64 x57r0f2_), (Value.int .i64 x57r0f3_), (Value.int .i64 x57r0f4_)]), (Value.string x57r1_), (Value.int .i64 x57r2_)]) ∧
   ∀ b_3 hp_14, b_3 = Array.size hp_13 → hp_14 = Array.push hp_13 (.cells (zeros Tryd.prog 26) 26) → (∃ i z, Tryd.prog.info? 26 = some i ∧ i.zero = some z) ∧
   List.length [(Value.int .i64 x57r0f0_), (Value.int .u64 x57r0f1_), (Value.int .u64 x57r0f2_), (Value.int .i64 x57r0f3_), (Value.int .i64 x57r0f4_)] = 5 ∧ (∀ c ∈ [(Value.int .i64 x57r0f0_), (Value.int .u64 x57r0f1_), (Value.int .u64 x57r0f2_), (Value.int .i64 x57r0f3_), (Value.int .i64 x57r0f4_)], c.oneCell' = true) ∧ wrAt hp_14 b_3 0 5 ∧ ∀ hp_15, hp_15 = setsH hp_14 b_3 0 [(Value.int .i64 x57r0f0_), (Value.int .u64 x57r0f1_), (Value.int .u64 x57r0f2_), (Value.int .i64 x57r0f3_), (Value.int .i64 x57r0f4_)] →
   ∃ Jv_1 : List Value → Hp → Prop,
   ((((decide (x42r1_ ≠ (0 : Int))) = true →
      R (.returned (Value.bool false)) hp_15) ∧
     ((decide (x42r1_ ≠ (0 : Int))) = false →
      ∃ x64f0_ : Int, ∃ x64f1_ : Int, ∃ x64f2_ : Int, ∃ x64f3_ : Int, ∃ x64f4_ : Int, cellsAt hp_15 b_3 0 [(Value.int .i64 x64f0_), (Value.int .u64 x64f1_), (Value.int .u64 x64f2_), (Value.int .i64 x64f3_), (Value.int .i64 x64f4_)] ∧
      ∃ x65f0_ : Int, ∃ x65f1_ : Int, ∃ x65f2_ : Int, ∃ x65f3_ : Int, ∃ x65f4_ : Int, cellsAt hp_15 b_1 0 [(Value.int .i64 x65f0_), (Value.int .u64 x65f1_), (Value.int .u64 x65f2_), (Value.int .i64 x65f3_), (Value.int .i64 x65f4_)] ∧
      ∃ x66_, EqV Tryd.prog 26 (Value.agg #[(Value.int .i64 x64f0_), (Value.int .u64 x64f1_), (Value.int .u64 x64f2_), (Value.int .i64 x64f3_), (Value.int .i64 x64f4_)]) (Value.agg #[(Value.int .i64 x65f0_), (Value.int .u64 x65f1_), (Value.int .u64 x65f2_), (Value.int .i64 x65f3_), (Value.int .i64 x65f4_)]) x66_ ∧
      (((!x66_) = true →
        R (.returned (Value.bool false)) hp_15) ∧
       ((!x66_) = false →
        (((decide (x57r1_ ≠ x49r1_)) = true →
          R (.returned (Value.bool false)) hp_15) ∧
         ((decide (x57r1_ ≠ x49r1_)) = false →
          (((decide (x57r2_ ≠ x49r2_)) = true →
            R (.returned (Value.bool false)) hp_15) ∧
           ((decide (x57r2_ ≠ x49r2_)) = false →
            ∃ x80_ : Int, cellsAt hp_15 b_2 (0 + 1) [(Value.int .i64 x80_)] ∧
            (((decide (x80_ ≠ (0 : Int))) = true →
              R (.returned (Value.bool false)) hp_15) ∧
             ((decide (x80_ ≠ (0 : Int))) = false →
              ∃ x85_ : Int, cellsAt hp_15 b_2 (0 + 2) [(Value.int .i64 x85_)] ∧
              (((decide (x85_ ≠ (0 : Int))) = true →
                R (.returned (Value.bool false)) hp_15) ∧
               ((decide (x85_ ≠ (0 : Int))) = false →
                CallsH Tryd.prog 20 #[(Value.pointer x22r0_)] hp_15 fun en_7 hp_16 =>
                ∃ x90_ : ByteArray, en_7 = .returned (Value.string x90_) ∧
                (((decide (x90_ ≠ image_)) = true →
                  R (.returned (Value.bool false)) hp_16) ∧
                 ((decide (x90_ ≠ image_)) = false →
                  Jv_1 [] hp_16))))))))))))))) ∧
   (∀  hp_17, Jv_1 [] hp_17 →
    (((decide (((x42r0n_ : Nat) : Int) = (0 : Int))) = true →
      ∃ B_2 : Bool, ((((decide (x49r2_ = (200 : Int))) = true →
         (((decide (x49r1_ = (⟨#[]⟩ : ByteArray))) = true →
           ∃ x104f0_ : Int, ∃ x104f1_ : Int, ∃ x104f2_ : Int, ∃ x104f3_ : Int, ∃ x104f4_ : Int, cellsAt hp_17 b_1 0 [(Value.int .i64 x104f0_), (Value.int .u64 x104f1_), (Value.int .u64 x104f2_), (Value.int .i64 x104f3_), (Value.int .i64 x104f4_)] ∧
           ∃ x106_, EqV Tryd.prog 26 (Value.agg #[(Value.int .i64 x104f0_), (Value.int .u64 x104f1_), (Value.int .u64 x104f2_), (Value.int .i64 x104f3_), (Value.int .i64 x104f4_)]) (Value.agg #[(Value.int .i64 (0 : Int)), (Value.int .u64 (0 : Int)), (Value.int .u64 (0 : Int)), (Value.int .i64 (0 : Int)), (Value.int .i64 (0 : Int))]) x106_ ∧
           hp_17 = hp_17 ∧ B_2 = x106_) ∧
          ((decide (x49r1_ = (⟨#[]⟩ : ByteArray))) = false →
           hp_17 = hp_17 ∧ B_2 = false))) ∧
        ((decide (x49r2_ = (200 : Int))) = false →
         hp_17 = hp_17 ∧ B_2 = false))) ∧
      R (.returned (Value.bool B_2)) hp_17) ∧
     ((decide (((x42r0n_ : Nat) : Int) = (0 : Int))) = false →
      ∃ x109_ : Int, cellsAt hp_17 b_2 (0 + 0) [(Value.int .i64 x109_)] ∧
      ∃ x111_ : Int, cellsAt hp_17 b_ (0 + 0) [(Value.int .i64 x111_)] ∧
      ∃ x112_, IntKind.i64.wrap (x109_ - x111_) = x112_ ∧
      ∃ b_4 o_, x42r0p_ = some ⟨b_4, o_, none⟩ ∧ 0 ≤ (0 : Int) ∧ (0 : Int) < (x42r0n_ : Int) ∧
      ∃ x117_ : Int, cellsAt hp_17 b_4 (((o_ + Int.toNat (0 : Int) * 5) + 3) + 0) [(Value.int .i64 x117_)] ∧
      ∃ x118_, IntKind.i64.wrap ((2 : Int) + x117_) = x118_ ∧
      (((decide (x118_ < x112_)) = true →
        R (.returned (Value.bool false)) hp_17) ∧
       ((decide (x118_ < x112_)) = false →
        (((decide (x49r2_ ≠ (0 : Int))) = true →
          ∃ B_3 : Bool, ((((decide (x49r2_ = (180 : Int))) = true →
             (((decide (x49r1_ = (⟨#[]⟩ : ByteArray))) = true →
               ∃ x129f0_ : Int, ∃ x129f1_ : Int, ∃ x129f2_ : Int, ∃ x129f3_ : Int, ∃ x129f4_ : Int, cellsAt hp_17 b_1 0 [(Value.int .i64 x129f0_), (Value.int .u64 x129f1_), (Value.int .u64 x129f2_), (Value.int .i64 x129f3_), (Value.int .i64 x129f4_)] ∧
               ∃ x131_, EqV Tryd.prog 26 (Value.agg #[(Value.int .i64 x129f0_), (Value.int .u64 x129f1_), (Value.int .u64 x129f2_), (Value.int .i64 x129f3_), (Value.int .i64 x129f4_)]) (Value.agg #[(Value.int .i64 (0 : Int)), (Value.int .u64 (0 : Int)), (Value.int .u64 (0 : Int)), (Value.int .i64 (0 : Int)), (Value.int .i64 (0 : Int))]) x131_ ∧
               hp_17 = hp_17 ∧ B_3 = x131_) ∧
              ((decide (x49r1_ = (⟨#[]⟩ : ByteArray))) = false →
               hp_17 = hp_17 ∧ B_3 = false))) ∧
            ((decide (x49r2_ = (180 : Int))) = false →
             hp_17 = hp_17 ∧ B_3 = false))) ∧
          R (.returned (Value.bool B_3)) hp_17) ∧
         ((decide (x49r2_ ≠ (0 : Int))) = false →
          (∃ Cv_ : Hp → Prop, Cv_ hp_17 ∧
           CallsH Tryd.prog 26 #[(Value.pointer x22r0_)] hp_17 fun en_8 hp_18 =>
           ∃ x135_ : Int, en_8 = .returned (Value.int .i64 x135_) ∧
           Cv_ hp_18 ∧
           ∃ x138_ : Int, (∀ h', Cv_ h' → cellsAt h' b_1 ((0 + 3) + 0) [(Value.int .i64 x138_)]) ∧
           CallsH Tryd.prog 10 #[(Value.int .i64 x135_), (Value.int .i64 x138_)] hp_18 fun en_9 hp_19 =>
           ∃ x139r0f0_ : Int, ∃ x139r0f1_ : Int, ∃ x139r1_ : Int, en_9 = .returned (Value.tuple #[(Value.agg #[(Value.int .i64 x139r0f0_), (Value.int .i64 x139r0f1_)]), (Value.int .i64 x139r1_)]) ∧
           Cv_ hp_19 ∧
           ∀ b_5 hp_20, b_5 = Array.size hp_19 → hp_20 = Array.push hp_19 (.cells (zeros Tryd.prog 24) 24) → (∃ i z, Tryd.prog.info? 24 = some i ∧ i.zero = some z) ∧
           Cv_ hp_20 ∧
           List.length [(Value.int .i64 x139r0f0_), (Value.int .i64 x139r0f1_)] = 2 ∧ (∀ c ∈ [(Value.int .i64 x139r0f0_), (Value.int .i64 x139r0f1_)], c.oneCell' = true) ∧ wrAt hp_20 b_5 0 2 ∧ ∀ hp_21, hp_21 = setsH hp_20 b_5 0 [(Value.int .i64 x139r0f0_), (Value.int .i64 x139r0f1_)] →
           Cv_ hp_21 ∧
           ∃ B_4 : Bool, ((((decide (x139r1_ = (0 : Int))) = true →
              ∃ x145f0_ : Int, ∃ x145f1_ : Int, cellsAt hp_21 b_5 0 [(Value.int .i64 x145f0_), (Value.int .i64 x145f1_)] ∧
              ∃ x147f0_ : Int, ∃ x147f1_ : Int, cellsAt hp_21 b_1 (0 + 3) [(Value.int .i64 x147f0_), (Value.int .i64 x147f1_)] ∧
              ∃ x148_, EqV Tryd.prog 24 (Value.agg #[(Value.int .i64 x145f0_), (Value.int .i64 x145f1_)]) (Value.agg #[(Value.int .i64 x147f0_), (Value.int .i64 x147f1_)]) x148_ ∧
              ((x148_ = true →
                ∃ x152_ : Int, cellsAt hp_21 b_1 (0 + 0) [(Value.int .i64 x152_)] ∧
                (((decide (x152_ = (0 : Int))) = true →
                  ∃ x162_ : Int, cellsAt hp_21 b_1 (0 + 1) [(Value.int .u64 x162_)] ∧
                  (((decide ((1 : Int) ≤ x162_)) = true →
                    ∃ x167_ : Int, cellsAt hp_21 b_1 (0 + 1) [(Value.int .u64 x167_)] ∧
                    (((decide (x167_ ≤ (9223372036854775807 : Int))) = true →
                      ∃ x172_ : Int, cellsAt hp_21 b_1 (0 + 2) [(Value.int .u64 x172_)] ∧
                      (((decide ((1 : Int) ≤ x172_)) = true →
                        ∃ x177_ : Int, cellsAt hp_21 b_1 (0 + 2) [(Value.int .u64 x177_)] ∧
                        hp_21 = hp_21 ∧ B_4 = (decide (x177_ ≤ (9223372036854775807 : Int)))) ∧
                       ((decide ((1 : Int) ≤ x172_)) = false →
                        hp_21 = hp_21 ∧ B_4 = false))) ∧
                     ((decide (x167_ ≤ (9223372036854775807 : Int))) = false →
                      hp_21 = hp_21 ∧ B_4 = false))) ∧
                   ((decide ((1 : Int) ≤ x162_)) = false →
                    hp_21 = hp_21 ∧ B_4 = false))) ∧
                 ((decide (x152_ = (0 : Int))) = false →
                  ∃ x156_ : Int, cellsAt hp_21 b_1 (0 + 0) [(Value.int .i64 x156_)] ∧
                  (((decide (x156_ = (1 : Int))) = true →
                    ∃ x162_1 : Int, cellsAt hp_21 b_1 (0 + 1) [(Value.int .u64 x162_1)] ∧
                    (((decide ((1 : Int) ≤ x162_1)) = true →
                      ∃ x167_1 : Int, cellsAt hp_21 b_1 (0 + 1) [(Value.int .u64 x167_1)] ∧
                      (((decide (x167_1 ≤ (9223372036854775807 : Int))) = true →
                        ∃ x172_1 : Int, cellsAt hp_21 b_1 (0 + 2) [(Value.int .u64 x172_1)] ∧
                        (((decide ((1 : Int) ≤ x172_1)) = true →
                          ∃ x177_1 : Int, cellsAt hp_21 b_1 (0 + 2) [(Value.int .u64 x177_1)] ∧
                          hp_21 = hp_21 ∧ B_4 = (decide (x177_1 ≤ (9223372036854775807 : Int)))) ∧
                         ((decide ((1 : Int) ≤ x172_1)) = false →
                          hp_21 = hp_21 ∧ B_4 = false))) ∧
                       ((decide (x167_1 ≤ (9223372036854775807 : Int))) = false →
                        hp_21 = hp_21 ∧ B_4 = false))) ∧
                     ((decide ((1 : Int) ≤ x162_1)) = false →
                      hp_21 = hp_21 ∧ B_4 = false))) ∧
                   ((decide (x156_ = (1 : Int))) = false →
                    hp_21 = hp_21 ∧ B_4 = false))))) ∧
               (x148_ = false →
                hp_21 = hp_21 ∧ B_4 = false))) ∧
             ((decide (x139r1_ = (0 : Int))) = false →
              hp_21 = hp_21 ∧ B_4 = false))) ∧
           ∃ B_5 : Bool, (((B_4 = true →
              ∃ x182f0_ : Int, ∃ x182f1_ : Int, ∃ x182f2_ : Int, ∃ x182f3_ : Int, ∃ x182f4_ : Int, cellsAt hp_21 b_1 0 [(Value.int .i64 x182f0_), (Value.int .u64 x182f1_), (Value.int .u64 x182f2_), (Value.int .i64 x182f3_), (Value.int .i64 x182f4_)] ∧
              ∃ b_6 o_1, x42r0p_ = some ⟨b_6, o_1, none⟩ ∧ 0 ≤ (0 : Int) ∧ (0 : Int) < (x42r0n_ : Int) ∧
              ∃ x185f0_ : Int, ∃ x185f1_ : Int, ∃ x185f2_ : Int, ∃ x185f3_ : Int, ∃ x185f4_ : Int, cellsAt hp_21 b_6 (o_1 + Int.toNat (0 : Int) * 5) [(Value.int .i64 x185f0_), (Value.int .u64 x185f1_), (Value.int .u64 x185f2_), (Value.int .i64 x185f3_), (Value.int .i64 x185f4_)] ∧
              ∃ x186_, EqV Tryd.prog 26 (Value.agg #[(Value.int .i64 x182f0_), (Value.int .u64 x182f1_), (Value.int .u64 x182f2_), (Value.int .i64 x182f3_), (Value.int .i64 x182f4_)]) (Value.agg #[(Value.int .i64 x185f0_), (Value.int .u64 x185f1_), (Value.int .u64 x185f2_), (Value.int .i64 x185f3_), (Value.int .i64 x185f4_)]) x186_ ∧
              ((x186_ = true →
                (((decide ((1 : Int) ≤ (ByteArray.size x49r1_ : Int))) = true →
                  ∃ x197_ : Int, cellsAt hp_21 b_5 (0 + 0) [(Value.int .i64 x197_)] ∧
                  ∃ x198_, IntKind.i64.wrap ((491 : Int) * x197_) = x198_ ∧
                  (((decide ((ByteArray.size x49r1_ : Int) ≤ x198_)) = true →
                    (((decide (((x42r0n_ : Nat) : Int) = (1 : Int))) = true →
                      hp_21 = hp_21 ∧ B_5 = true) ∧
                     ((decide (((x42r0n_ : Nat) : Int) = (1 : Int))) = false →
                      ∃ b_7 o_2, x42r0p_ = some ⟨b_7, o_2, none⟩ ∧ 0 ≤ (1 : Int) ∧ (1 : Int) < (x42r0n_ : Int) ∧
                      ∃ x209_ : Int, cellsAt hp_21 b_7 ((o_2 + Int.toNat (1 : Int) * 5) + 1) [(Value.int .u64 x209_)] ∧
                      ∃ x211_ : Int, cellsAt hp_21 b_1 (0 + 1) [(Value.int .u64 x211_)] ∧
                      hp_21 = hp_21 ∧ B_5 = (decide (x209_ ≤ x211_))))) ∧
                   ((decide ((ByteArray.size x49r1_ : Int) ≤ x198_)) = false →
                    hp_21 = hp_21 ∧ B_5 = false))) ∧
                 ((decide ((1 : Int) ≤ (ByteArray.size x49r1_ : Int))) = false →
                  hp_21 = hp_21 ∧ B_5 = false))) ∧
               (x186_ = false →
                hp_21 = hp_21 ∧ B_5 = false))) ∧
             (B_4 = false →
              hp_21 = hp_21 ∧ B_5 = false))) ∧
           R (.returned (Value.bool B_5)) hp_21) ∧
          (∃ Cv_1 : Hp → Prop, Cv_1 hp_17 ∧
           ∀ b_8 hp_22, b_8 = Array.size hp_17 → hp_22 = Array.push hp_17 (.cells (zeros Tryd.prog 24) 24) → (∃ i z, Tryd.prog.info? 24 = some i ∧ i.zero = some z) ∧
           Cv_1 hp_22 ∧
           CallsH Tryd.prog 26 #[(Value.pointer x22r0_)] hp_22 fun en_10 hp_23 =>
           ∃ x135_1 : Int, en_10 = .returned (Value.int .i64 x135_1) ∧
           Cv_1 hp_23 ∧
           ∃ x138_1 : Int, (∀ h', Cv_1 h' → cellsAt h' b_1 ((0 + 3) + 0) [(Value.int .i64 x138_1)]) ∧
           CallsH Tryd.prog 10 #[(Value.int .i64 x135_1), (Value.int .i64 x138_1)] hp_23 fun en_11 hp_24 =>
           ∃ x139r0f0_1 : Int, ∃ x139r0f1_1 : Int, ∃ x139r1_1 : Int, en_11 = .returned (Value.tuple #[(Value.agg #[(Value.int .i64 x139r0f0_1), (Value.int .i64 x139r0f1_1)]), (Value.int .i64 x139r1_1)]) ∧
           Cv_1 hp_24 ∧
           List.length [(Value.int .i64 x139r0f0_1), (Value.int .i64 x139r0f1_1)] = 2 ∧ (∀ c ∈ [(Value.int .i64 x139r0f0_1), (Value.int .i64 x139r0f1_1)], c.oneCell' = true) ∧ wrAt hp_24 b_8 0 2 ∧ ∀ hp_25, hp_25 = setsH hp_24 b_8 0 [(Value.int .i64 x139r0f0_1), (Value.int .i64 x139r0f1_1)] →
           Cv_1 hp_25 ∧
           ∃ B_6 : Bool, ((((decide (x139r1_1 = (0 : Int))) = true →
              ∃ x145f0_1 : Int, ∃ x145f1_1 : Int, cellsAt hp_25 b_8 0 [(Value.int .i64 x145f0_1), (Value.int .i64 x145f1_1)] ∧
              ∃ x147f0_1 : Int, ∃ x147f1_1 : Int, cellsAt hp_25 b_1 (0 + 3) [(Value.int .i64 x147f0_1), (Value.int .i64 x147f1_1)] ∧
              ∃ x148_1, EqV Tryd.prog 24 (Value.agg #[(Value.int .i64 x145f0_1), (Value.int .i64 x145f1_1)]) (Value.agg #[(Value.int .i64 x147f0_1), (Value.int .i64 x147f1_1)]) x148_1 ∧
              ((x148_1 = true →
                ∃ x152_1 : Int, cellsAt hp_25 b_1 (0 + 0) [(Value.int .i64 x152_1)] ∧
                (((decide (x152_1 = (0 : Int))) = true →
                  ∃ x162_2 : Int, cellsAt hp_25 b_1 (0 + 1) [(Value.int .u64 x162_2)] ∧
                  (((decide ((1 : Int) ≤ x162_2)) = true →
                    ∃ x167_2 : Int, cellsAt hp_25 b_1 (0 + 1) [(Value.int .u64 x167_2)] ∧
                    (((decide (x167_2 ≤ (9223372036854775807 : Int))) = true →
                      ∃ x172_2 : Int, cellsAt hp_25 b_1 (0 + 2) [(Value.int .u64 x172_2)] ∧
                      (((decide ((1 : Int) ≤ x172_2)) = true →
                        ∃ x177_2 : Int, cellsAt hp_25 b_1 (0 + 2) [(Value.int .u64 x177_2)] ∧
                        hp_25 = hp_25 ∧ B_6 = (decide (x177_2 ≤ (9223372036854775807 : Int)))) ∧
                       ((decide ((1 : Int) ≤ x172_2)) = false →
                        hp_25 = hp_25 ∧ B_6 = false))) ∧
                     ((decide (x167_2 ≤ (9223372036854775807 : Int))) = false →
                      hp_25 = hp_25 ∧ B_6 = false))) ∧
                   ((decide ((1 : Int) ≤ x162_2)) = false →
                    hp_25 = hp_25 ∧ B_6 = false))) ∧
                 ((decide (x152_1 = (0 : Int))) = false →
                  ∃ x156_1 : Int, cellsAt hp_25 b_1 (0 + 0) [(Value.int .i64 x156_1)] ∧
                  (((decide (x156_1 = (1 : Int))) = true →
                    ∃ x162_3 : Int, cellsAt hp_25 b_1 (0 + 1) [(Value.int .u64 x162_3)] ∧
                    (((decide ((1 : Int) ≤ x162_3)) = true →
                      ∃ x167_3 : Int, cellsAt hp_25 b_1 (0 + 1) [(Value.int .u64 x167_3)] ∧
                      (((decide (x167_3 ≤ (9223372036854775807 : Int))) = true →
                        ∃ x172_3 : Int, cellsAt hp_25 b_1 (0 + 2) [(Value.int .u64 x172_3)] ∧
                        (((decide ((1 : Int) ≤ x172_3)) = true →
                          ∃ x177_3 : Int, cellsAt hp_25 b_1 (0 + 2) [(Value.int .u64 x177_3)] ∧
                          hp_25 = hp_25 ∧ B_6 = (decide (x177_3 ≤ (9223372036854775807 : Int)))) ∧
                         ((decide ((1 : Int) ≤ x172_3)) = false →
                          hp_25 = hp_25 ∧ B_6 = false))) ∧
                       ((decide (x167_3 ≤ (9223372036854775807 : Int))) = false →
                        hp_25 = hp_25 ∧ B_6 = false))) ∧
                     ((decide ((1 : Int) ≤ x162_3)) = false →
                      hp_25 = hp_25 ∧ B_6 = false))) ∧
                   ((decide (x156_1 = (1 : Int))) = false →
                    hp_25 = hp_25 ∧ B_6 = false))))) ∧
               (x148_1 = false →
                hp_25 = hp_25 ∧ B_6 = false))) ∧
             ((decide (x139r1_1 = (0 : Int))) = false →
              hp_25 = hp_25 ∧ B_6 = false))) ∧
           ∃ B_7 : Bool, (((B_6 = true →
              ∃ x182f0_1 : Int, ∃ x182f1_1 : Int, ∃ x182f2_1 : Int, ∃ x182f3_1 : Int, ∃ x182f4_1 : Int, cellsAt hp_25 b_1 0 [(Value.int .i64 x182f0_1), (Value.int .u64 x182f1_1), (Value.int .u64 x182f2_1), (Value.int .i64 x182f3_1), (Value.int .i64 x182f4_1)] ∧
              ∃ b_9 o_3, x42r0p_ = some ⟨b_9, o_3, none⟩ ∧ 0 ≤ (0 : Int) ∧ (0 : Int) < (x42r0n_ : Int) ∧
              ∃ x185f0_1 : Int, ∃ x185f1_1 : Int, ∃ x185f2_1 : Int, ∃ x185f3_1 : Int, ∃ x185f4_1 : Int, cellsAt hp_25 b_9 (o_3 + Int.toNat (0 : Int) * 5) [(Value.int .i64 x185f0_1), (Value.int .u64 x185f1_1), (Value.int .u64 x185f2_1), (Value.int .i64 x185f3_1), (Value.int .i64 x185f4_1)] ∧
              ∃ x186_1, EqV Tryd.prog 26 (Value.agg #[(Value.int .i64 x182f0_1), (Value.int .u64 x182f1_1), (Value.int .u64 x182f2_1), (Value.int .i64 x182f3_1), (Value.int .i64 x182f4_1)]) (Value.agg #[(Value.int .i64 x185f0_1), (Value.int .u64 x185f1_1), (Value.int .u64 x185f2_1), (Value.int .i64 x185f3_1), (Value.int .i64 x185f4_1)]) x186_1 ∧
              ((x186_1 = true →
                (((decide ((1 : Int) ≤ (ByteArray.size x49r1_ : Int))) = true →
                  ∃ x197_1 : Int, cellsAt hp_25 b_8 (0 + 0) [(Value.int .i64 x197_1)] ∧
                  ∃ x198_1, IntKind.i64.wrap ((491 : Int) * x197_1) = x198_1 ∧
                  (((decide ((ByteArray.size x49r1_ : Int) ≤ x198_1)) = true →
                    (((decide (((x42r0n_ : Nat) : Int) = (1 : Int))) = true →
                      hp_25 = hp_25 ∧ B_7 = true) ∧
                     ((decide (((x42r0n_ : Nat) : Int) = (1 : Int))) = false →
                      ∃ b_10 o_4, x42r0p_ = some ⟨b_10, o_4, none⟩ ∧ 0 ≤ (1 : Int) ∧ (1 : Int) < (x42r0n_ : Int) ∧
                      ∃ x209_1 : Int, cellsAt hp_25 b_10 ((o_4 + Int.toNat (1 : Int) * 5) + 1) [(Value.int .u64 x209_1)] ∧
                      ∃ x211_1 : Int, cellsAt hp_25 b_1 (0 + 1) [(Value.int .u64 x211_1)] ∧
                      hp_25 = hp_25 ∧ B_7 = (decide (x209_1 ≤ x211_1))))) ∧
                   ((decide ((ByteArray.size x49r1_ : Int) ≤ x198_1)) = false →
                    hp_25 = hp_25 ∧ B_7 = false))) ∧
                 ((decide ((1 : Int) ≤ (ByteArray.size x49r1_ : Int))) = false →
                  hp_25 = hp_25 ∧ B_7 = false))) ∧
               (x186_1 = false →
                hp_25 = hp_25 ∧ B_7 = false))) ∧
             (B_6 = false →
              hp_25 = hp_25 ∧ B_7 = false))) ∧
           R (.returned (Value.bool B_7)) hp_25) ∧
          (∃ Cv_2 : Hp → Prop, Cv_2 hp_17 ∧
           CallsH Tryd.prog 26 #[(Value.pointer x22r0_)] hp_17 fun en_12 hp_26 =>
           ∃ x135_2 : Int, en_12 = .returned (Value.int .i64 x135_2) ∧
           Cv_2 hp_26 ∧
           ∃ x138_2 : Int, (∀ h', Cv_2 h' → cellsAt h' b_1 ((0 + 3) + 0) [(Value.int .i64 x138_2)]) ∧
           ∀ b_11 hp_27, b_11 = Array.size hp_26 → hp_27 = Array.push hp_26 (.cells (zeros Tryd.prog 24) 24) → (∃ i z, Tryd.prog.info? 24 = some i ∧ i.zero = some z) ∧
           Cv_2 hp_27 ∧
           CallsH Tryd.prog 10 #[(Value.int .i64 x135_2), (Value.int .i64 x138_2)] hp_27 fun en_13 hp_28 =>
           ∃ x139r0f0_2 : Int, ∃ x139r0f1_2 : Int, ∃ x139r1_2 : Int, en_13 = .returned (Value.tuple #[(Value.agg #[(Value.int .i64 x139r0f0_2), (Value.int .i64 x139r0f1_2)]), (Value.int .i64 x139r1_2)]) ∧
           Cv_2 hp_28 ∧
           List.length [(Value.int .i64 x139r0f0_2), (Value.int .i64 x139r0f1_2)] = 2 ∧ (∀ c ∈ [(Value.int .i64 x139r0f0_2), (Value.int .i64 x139r0f1_2)], c.oneCell' = true) ∧ wrAt hp_28 b_11 0 2 ∧ ∀ hp_29, hp_29 = setsH hp_28 b_11 0 [(Value.int .i64 x139r0f0_2), (Value.int .i64 x139r0f1_2)] →
           Cv_2 hp_29 ∧
           ∃ B_8 : Bool, ((((decide (x139r1_2 = (0 : Int))) = true →
              ∃ x145f0_2 : Int, ∃ x145f1_2 : Int, cellsAt hp_29 b_11 0 [(Value.int .i64 x145f0_2), (Value.int .i64 x145f1_2)] ∧
              ∃ x147f0_2 : Int, ∃ x147f1_2 : Int, cellsAt hp_29 b_1 (0 + 3) [(Value.int .i64 x147f0_2), (Value.int .i64 x147f1_2)] ∧
              ∃ x148_2, EqV Tryd.prog 24 (Value.agg #[(Value.int .i64 x145f0_2), (Value.int .i64 x145f1_2)]) (Value.agg #[(Value.int .i64 x147f0_2), (Value.int .i64 x147f1_2)]) x148_2 ∧
              ((x148_2 = true →
                ∃ x152_2 : Int, cellsAt hp_29 b_1 (0 + 0) [(Value.int .i64 x152_2)] ∧
                (((decide (x152_2 = (0 : Int))) = true →
                  ∃ x162_4 : Int, cellsAt hp_29 b_1 (0 + 1) [(Value.int .u64 x162_4)] ∧
                  (((decide ((1 : Int) ≤ x162_4)) = true →
                    ∃ x167_4 : Int, cellsAt hp_29 b_1 (0 + 1) [(Value.int .u64 x167_4)] ∧
                    (((decide (x167_4 ≤ (9223372036854775807 : Int))) = true →
                      ∃ x172_4 : Int, cellsAt hp_29 b_1 (0 + 2) [(Value.int .u64 x172_4)] ∧
                      (((decide ((1 : Int) ≤ x172_4)) = true →
                        ∃ x177_4 : Int, cellsAt hp_29 b_1 (0 + 2) [(Value.int .u64 x177_4)] ∧
                        hp_29 = hp_29 ∧ B_8 = (decide (x177_4 ≤ (9223372036854775807 : Int)))) ∧
                       ((decide ((1 : Int) ≤ x172_4)) = false →
                        hp_29 = hp_29 ∧ B_8 = false))) ∧
                     ((decide (x167_4 ≤ (9223372036854775807 : Int))) = false →
                      hp_29 = hp_29 ∧ B_8 = false))) ∧
                   ((decide ((1 : Int) ≤ x162_4)) = false →
                    hp_29 = hp_29 ∧ B_8 = false))) ∧
                 ((decide (x152_2 = (0 : Int))) = false →
                  ∃ x156_2 : Int, cellsAt hp_29 b_1 (0 + 0) [(Value.int .i64 x156_2)] ∧
                  (((decide (x156_2 = (1 : Int))) = true →
                    ∃ x162_5 : Int, cellsAt hp_29 b_1 (0 + 1) [(Value.int .u64 x162_5)] ∧
                    (((decide ((1 : Int) ≤ x162_5)) = true →
                      ∃ x167_5 : Int, cellsAt hp_29 b_1 (0 + 1) [(Value.int .u64 x167_5)] ∧
                      (((decide (x167_5 ≤ (9223372036854775807 : Int))) = true →
                        ∃ x172_5 : Int, cellsAt hp_29 b_1 (0 + 2) [(Value.int .u64 x172_5)] ∧
                        (((decide ((1 : Int) ≤ x172_5)) = true →
                          ∃ x177_5 : Int, cellsAt hp_29 b_1 (0 + 2) [(Value.int .u64 x177_5)] ∧
                          hp_29 = hp_29 ∧ B_8 = (decide (x177_5 ≤ (9223372036854775807 : Int)))) ∧
                         ((decide ((1 : Int) ≤ x172_5)) = false →
                          hp_29 = hp_29 ∧ B_8 = false))) ∧
                       ((decide (x167_5 ≤ (9223372036854775807 : Int))) = false →
                        hp_29 = hp_29 ∧ B_8 = false))) ∧
                     ((decide ((1 : Int) ≤ x162_5)) = false →
                      hp_29 = hp_29 ∧ B_8 = false))) ∧
                   ((decide (x156_2 = (1 : Int))) = false →
                    hp_29 = hp_29 ∧ B_8 = false))))) ∧
               (x148_2 = false →
                hp_29 = hp_29 ∧ B_8 = false))) ∧
             ((decide (x139r1_2 = (0 : Int))) = false →
              hp_29 = hp_29 ∧ B_8 = false))) ∧
           ∃ B_9 : Bool, (((B_8 = true →
              ∃ x182f0_2 : Int, ∃ x182f1_2 : Int, ∃ x182f2_2 : Int, ∃ x182f3_2 : Int, ∃ x182f4_2 : Int, cellsAt hp_29 b_1 0 [(Value.int .i64 x182f0_2), (Value.int .u64 x182f1_2), (Value.int .u64 x182f2_2), (Value.int .i64 x182f3_2), (Value.int .i64 x182f4_2)] ∧
              ∃ b_12 o_5, x42r0p_ = some ⟨b_12, o_5, none⟩ ∧ 0 ≤ (0 : Int) ∧ (0 : Int) < (x42r0n_ : Int) ∧
              ∃ x185f0_2 : Int, ∃ x185f1_2 : Int, ∃ x185f2_2 : Int, ∃ x185f3_2 : Int, ∃ x185f4_2 : Int, cellsAt hp_29 b_12 (o_5 + Int.toNat (0 : Int) * 5) [(Value.int .i64 x185f0_2), (Value.int .u64 x185f1_2), (Value.int .u64 x185f2_2), (Value.int .i64 x185f3_2), (Value.int .i64 x185f4_2)] ∧
              ∃ x186_2, EqV Tryd.prog 26 (Value.agg #[(Value.int .i64 x182f0_2), (Value.int .u64 x182f1_2), (Value.int .u64 x182f2_2), (Value.int .i64 x182f3_2), (Value.int .i64 x182f4_2)]) (Value.agg #[(Value.int .i64 x185f0_2), (Value.int .u64 x185f1_2), (Value.int .u64 x185f2_2), (Value.int .i64 x185f3_2), (Value.int .i64 x185f4_2)]) x186_2 ∧
              ((x186_2 = true →
                (((decide ((1 : Int) ≤ (ByteArray.size x49r1_ : Int))) = true →
                  ∃ x197_2 : Int, cellsAt hp_29 b_11 (0 + 0) [(Value.int .i64 x197_2)] ∧
                  ∃ x198_2, IntKind.i64.wrap ((491 : Int) * x197_2) = x198_2 ∧
                  (((decide ((ByteArray.size x49r1_ : Int) ≤ x198_2)) = true →
                    (((decide (((x42r0n_ : Nat) : Int) = (1 : Int))) = true →
                      hp_29 = hp_29 ∧ B_9 = true) ∧
                     ((decide (((x42r0n_ : Nat) : Int) = (1 : Int))) = false →
                      ∃ b_13 o_6, x42r0p_ = some ⟨b_13, o_6, none⟩ ∧ 0 ≤ (1 : Int) ∧ (1 : Int) < (x42r0n_ : Int) ∧
                      ∃ x209_2 : Int, cellsAt hp_29 b_13 ((o_6 + Int.toNat (1 : Int) * 5) + 1) [(Value.int .u64 x209_2)] ∧
                      ∃ x211_2 : Int, cellsAt hp_29 b_1 (0 + 1) [(Value.int .u64 x211_2)] ∧
                      hp_29 = hp_29 ∧ B_9 = (decide (x209_2 ≤ x211_2))))) ∧
                   ((decide ((ByteArray.size x49r1_ : Int) ≤ x198_2)) = false →
                    hp_29 = hp_29 ∧ B_9 = false))) ∧
                 ((decide ((1 : Int) ≤ (ByteArray.size x49r1_ : Int))) = false →
                  hp_29 = hp_29 ∧ B_9 = false))) ∧
               (x186_2 = false →
                hp_29 = hp_29 ∧ B_9 = false))) ∧
             (B_8 = false →
              hp_29 = hp_29 ∧ B_9 = false))) ∧
           R (.returned (Value.bool B_9)) hp_29)))))))))) :
  CallsH Tryd.prog 7 #[(Value.string image_)] h R := calls_vc fine false Tryd.func7 (ann := A7) (args := [(Value.string image_)]) (by kernel_rfl) (Eq.mpr (by kernel_rfl) H)
/-- turnout/turnoutlaw20.CkptFinds -/
def A8 : Ann := (.seq .nil (.seq .nil (.seq .nil (.seq .nil (.cut (.seq (.join 35) (.cond (.seq .nil .nil) .nil)) [] (.cut (.seq (.join 41) (.cond (.seq .nil .nil) .nil)) [] (.seq .nil (.seq .nil (.seq .nil (.seq (.join 2) .nil))))))))))
theorem V8 (image_ : ByteArray) (h : Hp) (R : Ending → Hp → Prop) (H :
  CallsH Tryd.prog 9 #[] h fun en_ hp_ =>
  ∃ x11_ : Bool, en_ = .returned (Value.bool x11_) ∧
  CallsH Tryd.prog 24 #[(Value.string image_)] hp_ fun en_1 hp_1 =>
  ∃ x14r0_ : Option Addr, ∃ x14r1_ : Int, en_1 = .returned (Value.tuple #[(Value.pointer x14r0_), (Value.int .i64 x14r1_)]) ∧
  CallsH Tryd.prog 27 #[(Value.string image_)] hp_1 fun en_2 hp_2 =>
  ∃ x19r0_ : Option Addr, ∃ x19r1_ : Int, en_2 = .returned (Value.tuple #[(Value.pointer x19r0_), (Value.int .i64 x19r1_)]) ∧
  ∃ Jv_ : List Value → Hp → Prop,
  (∃ B_ : Bool, ((((!x11_) = true →
      hp_2 = hp_2 ∧ B_ = true) ∧
     ((!x11_) = false →
      (((decide (x14r1_ ≠ x19r1_)) = true →
        hp_2 = hp_2 ∧ B_ = true) ∧
       ((decide (x14r1_ ≠ x19r1_)) = false →
        ∃ x31_, EqV Tryd.prog 43 (Value.pointer x14r0_) (Value.pointer none) x31_ ∧
        ∃ x33_, EqV Tryd.prog 62 (Value.pointer x19r0_) (Value.pointer none) x33_ ∧
        ∃ x34_, EqV Tryd.prog 4 (Value.bool x31_) (Value.bool x33_) x34_ ∧
        hp_2 = hp_2 ∧ B_ = (!x34_)))))) ∧
   ((B_ = true →
     R (.returned (Value.bool false)) hp_2) ∧
    (B_ = false →
     Jv_ [] hp_2))) ∧
  (∀  hp_3, Jv_ [] hp_3 →
   ∃ Jv_1 : List Value → Hp → Prop,
   (∃ B_1 : Bool, (∃ x37_, EqV Tryd.prog 43 (Value.pointer x14r0_) (Value.pointer none) x37_ ∧
     ((x37_ = true →
       hp_3 = hp_3 ∧ B_1 = true) ∧
      (x37_ = false →
       ∃ x40_, EqV Tryd.prog 62 (Value.pointer x19r0_) (Value.pointer none) x40_ ∧
       hp_3 = hp_3 ∧ B_1 = x40_))) ∧
    ((B_1 = true →
      R (.returned (Value.bool true)) hp_3) ∧
     (B_1 = false →
      Jv_1 [] hp_3))) ∧
   (∀  hp_4, Jv_1 [] hp_4 →
    ∀ b_ hp_5, b_ = Array.size hp_4 → hp_5 = Array.push hp_4 (.cells (zeros Tryd.prog 66) 66) → (∃ i z, Tryd.prog.info? 66 = some i ∧ i.zero = some z) ∧
    List.length [(Value.pointer x14r0_), (Value.pointer x19r0_)] = 2 ∧ (∀ c ∈ [(Value.pointer x14r0_), (Value.pointer x19r0_)], c.oneCell' = true) ∧ wrAt hp_5 b_ 0 2 ∧ ∀ hp_6, hp_6 = setsH hp_5 b_ 0 [(Value.pointer x14r0_), (Value.pointer x19r0_)] →
    ∃ x45f0_ : Option Addr, ∃ x45f1_ : Option Addr, cellsAt hp_6 b_ 0 [(Value.pointer x45f0_), (Value.pointer x45f1_)] ∧
    CallsH Tryd.prog 28 #[(Value.agg #[(Value.pointer x45f0_), (Value.pointer x45f1_)])] hp_6 fun en_3 hp_7 =>
    ∃ x46_ : Bool, en_3 = .returned (Value.bool x46_) ∧
    ∃ x47f0_ : Option Addr, ∃ x47f1_ : Option Addr, cellsAt hp_7 b_ 0 [(Value.pointer x47f0_), (Value.pointer x47f1_)] ∧
    CallsH Tryd.prog 29 #[(Value.agg #[(Value.pointer x47f0_), (Value.pointer x47f1_)])] hp_7 fun en_4 hp_8 =>
    ∃ x48_ : Bool, en_4 = .returned (Value.bool x48_) ∧
    ∃ B_2 : Bool, (((x46_ = true →
       hp_8 = hp_8 ∧ B_2 = x48_) ∧
      (x46_ = false →
       hp_8 = hp_8 ∧ B_2 = false))) ∧
    R (.returned (Value.bool B_2)) hp_8))) :
  CallsH Tryd.prog 8 #[(Value.string image_)] h R := calls_vc fine false Tryd.func8 (ann := A8) (args := [(Value.string image_)]) (by kernel_rfl) (Eq.mpr (by kernel_rfl) H)
/-- turnout/turnoutlaw20.awake -/
def A9 : Ann := (.seq .nil (.seq .nil (.seq .nil (.cut (.seq (.join 35) (.cond (.seq .nil .nil) .nil)) [] (.seq .nil (.seq (.drawLast [1]) (.seq .nil (.seq .nil (.seq .nil (.seq .nil (.seq .nil (.seq .nil .nil))))))))))))
theorem V9  (h : Hp) (R : Ending → Hp → Prop) (H :
  CallsH Tryd.prog 18 #[(Value.int .i64 (10 : Int))] h fun en_ hp_ =>
  ∃ x14r0_ : Option Addr, ∃ x14r1_ : Int, en_ = .returned (Value.tuple #[(Value.pointer x14r0_), (Value.int .i64 x14r1_)]) ∧
  CallsH Tryd.prog 10 #[(Value.int .i64 (10 : Int)), (Value.int .i64 (2 : Int))] hp_ fun en_1 hp_1 =>
  ∃ x18r0f0_ : Int, ∃ x18r0f1_ : Int, ∃ x18r1_ : Int, en_1 = .returned (Value.tuple #[(Value.agg #[(Value.int .i64 x18r0f0_), (Value.int .i64 x18r0f1_)]), (Value.int .i64 x18r1_)]) ∧
  ∀ b_ hp_2, b_ = Array.size hp_1 → hp_2 = Array.push hp_1 (.cells (zeros Tryd.prog 24) 24) → (∃ i z, Tryd.prog.info? 24 = some i ∧ i.zero = some z) ∧
  List.length [(Value.int .i64 x18r0f0_), (Value.int .i64 x18r0f1_)] = 2 ∧ (∀ c ∈ [(Value.int .i64 x18r0f0_), (Value.int .i64 x18r0f1_)], c.oneCell' = true) ∧ wrAt hp_2 b_ 0 2 ∧ ∀ hp_3, hp_3 = setsH hp_2 b_ 0 [(Value.int .i64 x18r0f0_), (Value.int .i64 x18r0f1_)] →
  ∃ Jv_ : List Value → Hp → Prop,
  (∃ B_ : Bool, (∃ x22_, EqV Tryd.prog 43 (Value.pointer x14r0_) (Value.pointer none) x22_ ∧
    ((x22_ = true →
      hp_3 = hp_3 ∧ B_ = true) ∧
     (x22_ = false →
      (((decide (x14r1_ ≠ (0 : Int))) = true →
        hp_3 = hp_3 ∧ B_ = true) ∧
       ((decide (x14r1_ ≠ (0 : Int))) = false →
        (((decide (x18r1_ ≠ (0 : Int))) = true →
          hp_3 = hp_3 ∧ B_ = true) ∧
         ((decide (x18r1_ ≠ (0 : Int))) = false →
          ∃ x32f0_ : Int, ∃ x32f1_ : Int, cellsAt hp_3 b_ 0 [(Value.int .i64 x32f0_), (Value.int .i64 x32f1_)] ∧
          ∃ x34_, EqV Tryd.prog 24 (Value.agg #[(Value.int .i64 x32f0_), (Value.int .i64 x32f1_)]) (Value.agg #[(Value.int .i64 (2 : Int)), (Value.int .i64 (4 : Int))]) x34_ ∧
          hp_3 = hp_3 ∧ B_ = (!x34_)))))))) ∧
   ((B_ = true →
     R (.returned (Value.bool false)) hp_3) ∧
    (B_ = false →
     Jv_ [] hp_3))) ∧
  (∀  hp_4, Jv_ [] hp_4 →
   ∃ x36f0_ : Int, ∃ x36f1_ : Int, cellsAt hp_4 b_ 0 [(Value.int .i64 x36f0_), (Value.int .i64 x36f1_)] ∧
   ∀ b_1 hp_5, b_1 = Array.size hp_4 → hp_5 = Array.push hp_4 (.cells (zeros Tryd.prog 26) 26) → (∃ i z, Tryd.prog.info? 26 = some i ∧ i.zero = some z) ∧
   List.length [(Value.int .i64 (0 : Int)), (Value.int .u64 (1 : Int)), (Value.int .u64 (1 : Int)), (Value.int .i64 x36f0_), (Value.int .i64 x36f1_)] = 5 ∧ (∀ c ∈ [(Value.int .i64 (0 : Int)), (Value.int .u64 (1 : Int)), (Value.int .u64 (1 : Int)), (Value.int .i64 x36f0_), (Value.int .i64 x36f1_)], c.oneCell' = true) ∧ wrAt hp_5 b_1 0 5 ∧ ∀ hp_6, hp_6 = setsH hp_5 b_1 0 [(Value.int .i64 (0 : Int)), (Value.int .u64 (1 : Int)), (Value.int .u64 (1 : Int)), (Value.int .i64 x36f0_), (Value.int .i64 x36f1_)] →
   ∃ Cv_ : Hp → Prop, Cv_ hp_6 ∧
   ∃ x39f0_ : Int, ∃ x39f1_ : Int, ∃ x39f2_ : Int, ∃ x39f3_ : Int, ∃ x39f4_ : Int, (∀ h', Cv_ h' → cellsAt h' b_1 0 [(Value.int .i64 x39f0_), (Value.int .u64 x39f1_), (Value.int .u64 x39f2_), (Value.int .i64 x39f3_), (Value.int .i64 x39f4_)]) ∧
   CallsH Tryd.prog 19 #[(Value.int .i64 (500 : Int)), (Value.int .i64 (1 : Int))] hp_6 fun en_2 hp_7 =>
   ∃ x40_ : ByteArray, en_2 = .returned (Value.string x40_) ∧
   Cv_ hp_7 ∧
   CallsH Tryd.prog 14 #[(Value.pointer x14r0_), (Value.agg #[(Value.int .i64 x39f0_), (Value.int .u64 x39f1_), (Value.int .u64 x39f2_), (Value.int .i64 x39f3_), (Value.int .i64 x39f4_)]), (Value.string x40_)] hp_7 fun en_3 hp_8 =>
   ∃ x41_ : Int, en_3 = .returned (Value.int .i64 x41_) ∧
   Cv_ hp_8 ∧
   CallsH Tryd.prog 21 #[(Value.pointer x14r0_), (Value.int .i64 (3 : Int))] hp_8 fun en_4 hp_9 =>
   en_4 = .returned (Value.tuple #[]) ∧
   ∃ x45f0_ : Int, ∃ x45f1_ : Int, ∃ x45f2_ : Int, ∃ x45f3_ : Int, ∃ x45f4_ : Int, cellsAt hp_9 b_1 0 [(Value.int .i64 x45f0_), (Value.int .u64 x45f1_), (Value.int .u64 x45f2_), (Value.int .i64 x45f3_), (Value.int .i64 x45f4_)] ∧
   CallsH Tryd.prog 12 #[(Value.agg #[(Value.int .i64 x45f0_), (Value.int .u64 x45f1_), (Value.int .u64 x45f2_), (Value.int .i64 x45f3_), (Value.int .i64 x45f4_)]), (Value.int .u64 (0 : Int))] hp_9 fun en_5 hp_10 =>
   ∃ x46r0f0_ : Int, ∃ x46r0f1_ : Int, ∃ x46r0f2_ : Int, ∃ x46r0f3_ : Int, ∃ x46r0f4_ : Int, ∃ x46r1_ : Int, en_5 = .returned (Value.tuple #[(Value.agg #[(Value.int .i64 x46r0f0_), (Value.int .u64 x46r0f1_), (Value.int .u64 x46r0f2_), (Value.int .i64 x46r0f3_), (Value.int .i64 x46r0f4_)]), (Value.int .i64 x46r1_)]) ∧
   ∀ b_2 hp_11, b_2 = Array.size hp_10 → hp_11 = Array.push hp_10 (.cells (zeros Tryd.prog 26) 26) → (∃ i z, Tryd.prog.info? 26 = some i ∧ i.zero = some z) ∧
   List.length [(Value.int .i64 x46r0f0_), (Value.int .u64 x46r0f1_), (Value.int .u64 x46r0f2_), (Value.int .i64 x46r0f3_), (Value.int .i64 x46r0f4_)] = 5 ∧ (∀ c ∈ [(Value.int .i64 x46r0f0_), (Value.int .u64 x46r0f1_), (Value.int .u64 x46r0f2_), (Value.int .i64 x46r0f3_), (Value.int .i64 x46r0f4_)], c.oneCell' = true) ∧ wrAt hp_11 b_2 0 5 ∧ ∀ hp_12, hp_12 = setsH hp_11 b_2 0 [(Value.int .i64 x46r0f0_), (Value.int .u64 x46r0f1_), (Value.int .u64 x46r0f2_), (Value.int .i64 x46r0f3_), (Value.int .i64 x46r0f4_)] →
   ∃ x50f0_ : Int, ∃ x50f1_ : Int, ∃ x50f2_ : Int, ∃ x50f3_ : Int, ∃ x50f4_ : Int, cellsAt hp_12 b_2 0 [(Value.int .i64 x50f0_), (Value.int .u64 x50f1_), (Value.int .u64 x50f2_), (Value.int .i64 x50f3_), (Value.int .i64 x50f4_)] ∧
   CallsH Tryd.prog 14 #[(Value.pointer x14r0_), (Value.agg #[(Value.int .i64 x50f0_), (Value.int .u64 x50f1_), (Value.int .u64 x50f2_), (Value.int .i64 x50f3_), (Value.int .i64 x50f4_)]), (Value.string (⟨#[120]⟩ : ByteArray))] hp_12 fun en_6 hp_13 =>
   ∃ x51_ : Int, en_6 = .returned (Value.int .i64 x51_) ∧
   CallsH Tryd.prog 22 #[(Value.pointer x14r0_), (Value.slice none 0 0)] hp_13 fun en_7 hp_14 =>
   en_7 = .returned (Value.tuple #[]) ∧
   CallsH Tryd.prog 16 #[(Value.pointer x14r0_)] hp_14 fun en_8 hp_15 =>
   ∃ x56r0f0_ : Int, ∃ x56r0f1_ : Int, ∃ x56r0f2_ : Int, ∃ x56r0f3_ : Int, ∃ x56r0f4_ : Int, ∃ x56r1_ : ByteArray, ∃ x56r2_ : Int, en_8 = .returned (Value.tuple #[(Value.agg #[(Value.int .i64 x56r0f0_), (Value.int .u64 x56r0f1_), (Value.int .u64 x56r0f2_), (Value.int .i64 x56r0f3_), (Value.int .i64 x56r0f4_)]), (Value.string x56r1_), (Value.int .i64 x56r2_)]) ∧
   ∀ b_3 hp_16, b_3 = Array.size hp_15 → hp_16 = Array.push hp_15 (.cells (zeros Tryd.prog 26) 26) → (∃ i z, Tryd.prog.info? 26 = some i ∧ i.zero = some z) ∧
   List.length [(Value.int .i64 x56r0f0_), (Value.int .u64 x56r0f1_), (Value.int .u64 x56r0f2_), (Value.int .i64 x56r0f3_), (Value.int .i64 x56r0f4_)] = 5 ∧ (∀ c ∈ [(Value.int .i64 x56r0f0_), (Value.int .u64 x56r0f1_), (Value.int .u64 x56r0f2_), (Value.int .i64 x56r0f3_), (Value.int .i64 x56r0f4_)], c.oneCell' = true) ∧ wrAt hp_16 b_3 0 5 ∧ ∀ hp_17, hp_17 = setsH hp_16 b_3 0 [(Value.int .i64 x56r0f0_), (Value.int .u64 x56r0f1_), (Value.int .u64 x56r0f2_), (Value.int .i64 x56r0f3_), (Value.int .i64 x56r0f4_)] →
   (((decide (x41_ = (0 : Int))) = true →
     (((decide (x46r1_ = (0 : Int))) = true →
       ∃ x67f0_ : Int, ∃ x67f1_ : Int, ∃ x67f2_ : Int, ∃ x67f3_ : Int, ∃ x67f4_ : Int, cellsAt hp_17 b_2 0 [(Value.int .i64 x67f0_), (Value.int .u64 x67f1_), (Value.int .u64 x67f2_), (Value.int .i64 x67f3_), (Value.int .i64 x67f4_)] ∧
       ∃ x68f0_ : Int, ∃ x68f1_ : Int, cellsAt hp_17 b_ 0 [(Value.int .i64 x68f0_), (Value.int .i64 x68f1_)] ∧
       ∃ x70_, EqV Tryd.prog 26 (Value.agg #[(Value.int .i64 x67f0_), (Value.int .u64 x67f1_), (Value.int .u64 x67f2_), (Value.int .i64 x67f3_), (Value.int .i64 x67f4_)]) (Value.agg #[(Value.int .i64 (1 : Int)), (Value.int .u64 (2 : Int)), (Value.int .u64 (2 : Int)), (Value.int .i64 x68f0_), (Value.int .i64 x68f1_)]) x70_ ∧
       ((x70_ = true →
         (((decide (x51_ = (40 : Int))) = true →
           (((decide (x56r2_ = (0 : Int))) = true →
             ∃ x81f0_ : Int, ∃ x81f1_ : Int, ∃ x81f2_ : Int, ∃ x81f3_ : Int, ∃ x81f4_ : Int, cellsAt hp_17 b_3 0 [(Value.int .i64 x81f0_), (Value.int .u64 x81f1_), (Value.int .u64 x81f2_), (Value.int .i64 x81f3_), (Value.int .i64 x81f4_)] ∧
             ∃ x82f0_ : Int, ∃ x82f1_ : Int, ∃ x82f2_ : Int, ∃ x82f3_ : Int, ∃ x82f4_ : Int, cellsAt hp_17 b_1 0 [(Value.int .i64 x82f0_), (Value.int .u64 x82f1_), (Value.int .u64 x82f2_), (Value.int .i64 x82f3_), (Value.int .i64 x82f4_)] ∧
             ∃ x83_, EqV Tryd.prog 26 (Value.agg #[(Value.int .i64 x81f0_), (Value.int .u64 x81f1_), (Value.int .u64 x81f2_), (Value.int .i64 x81f3_), (Value.int .i64 x81f4_)]) (Value.agg #[(Value.int .i64 x82f0_), (Value.int .u64 x82f1_), (Value.int .u64 x82f2_), (Value.int .i64 x82f3_), (Value.int .i64 x82f4_)]) x83_ ∧
             ((x83_ = true →
               CallsH Tryd.prog 19 #[(Value.int .i64 (500 : Int)), (Value.int .i64 (1 : Int))] hp_17 fun en_9 hp_18 =>
               ∃ x87_ : ByteArray, en_9 = .returned (Value.string x87_) ∧
               R (.returned (Value.bool (decide (x56r1_ = x87_)))) hp_18) ∧
              (x83_ = false →
               R (.returned (Value.bool false)) hp_17))) ∧
            ((decide (x56r2_ = (0 : Int))) = false →
             R (.returned (Value.bool false)) hp_17))) ∧
          ((decide (x51_ = (40 : Int))) = false →
           R (.returned (Value.bool false)) hp_17))) ∧
        (x70_ = false →
         R (.returned (Value.bool false)) hp_17))) ∧
      ((decide (x46r1_ = (0 : Int))) = false →
       R (.returned (Value.bool false)) hp_17))) ∧
    ((decide (x41_ = (0 : Int))) = false →
     R (.returned (Value.bool false)) hp_17)))) :
  CallsH Tryd.prog 9 #[] h R := calls_vc fine false Tryd.func9 (ann := A9) (args := []) (by kernel_rfl) (Eq.mpr (by kernel_rfl) H)
/-- turnout/ckpt.Lay -/
def A10 : Ann := (.seq .nil (.cut (.seq (.join 15) (.cond (.seq .nil .nil) .nil)) [] (.cut (.seq (.join 25) (.cond (.seq .nil .nil) .nil)) [] (.seq .nil .nil))))
theorem V10 (sectors_ : Int) (slot_ : Int) (h : Hp) (R : Ending → Hp → Prop) (H :
  ∀ b_ hp_, b_ = Array.size h → hp_ = Array.push h (.cells (zeros Tryd.prog 24) 24) → (∃ i z, Tryd.prog.info? 24 = some i ∧ i.zero = some z) ∧
  ∃ Jv_ : List Value → Hp → Prop,
  (∃ B_ : Bool, ((((decide (sectors_ < (1 : Int))) = true →
      hp_ = hp_ ∧ B_ = true) ∧
     ((decide (sectors_ < (1 : Int))) = false →
      (((decide ((4096 : Int) < sectors_)) = true →
        hp_ = hp_ ∧ B_ = true) ∧
       ((decide ((4096 : Int) < sectors_)) = false →
        hp_ = hp_ ∧ B_ = (decide (slot_ < (1 : Int)))))))) ∧
   ((B_ = true →
     List.length [(Value.int .i64 (0 : Int)), (Value.int .i64 (0 : Int))] = 2 ∧ (∀ c ∈ [(Value.int .i64 (0 : Int)), (Value.int .i64 (0 : Int))], c.oneCell' = true) ∧ wrAt hp_ b_ 0 2 ∧ ∀ hp_1, hp_1 = setsH hp_ b_ 0 [(Value.int .i64 (0 : Int)), (Value.int .i64 (0 : Int))] →
     ∃ resf0_ : Int, ∃ resf1_ : Int, cellsAt hp_1 b_ 0 [(Value.int .i64 resf0_), (Value.int .i64 resf1_)] ∧
     R (.returned (Value.tuple #[(Value.agg #[(Value.int .i64 resf0_), (Value.int .i64 resf1_)]), (Value.int .i64 (1 : Int))])) hp_1) ∧
    (B_ = false →
     Jv_ [] hp_))) ∧
  (∀  hp_2, Jv_ [] hp_2 →
   ∃ Jv_1 : List Value → Hp → Prop,
   (∃ B_1 : Bool, (∃ x19_, IntKind.i64.wrap (sectors_ - (3 : Int)) = x19_ ∧
     (2 : Int) ≠ 0 ∧ ∃ x20_, IntKind.i64.wrap (Int.tdiv x19_ (2 : Int)) = x20_ ∧
     (((decide (x20_ < slot_)) = true →
       hp_2 = hp_2 ∧ B_1 = true) ∧
      ((decide (x20_ < slot_)) = false →
       hp_2 = hp_2 ∧ B_1 = (decide (sectors_ < (3 : Int)))))) ∧
    ((B_1 = true →
      List.length [(Value.int .i64 (0 : Int)), (Value.int .i64 (0 : Int))] = 2 ∧ (∀ c ∈ [(Value.int .i64 (0 : Int)), (Value.int .i64 (0 : Int))], c.oneCell' = true) ∧ wrAt hp_2 b_ 0 2 ∧ ∀ hp_3, hp_3 = setsH hp_2 b_ 0 [(Value.int .i64 (0 : Int)), (Value.int .i64 (0 : Int))] →
      ∃ resf0_1 : Int, ∃ resf1_1 : Int, cellsAt hp_3 b_ 0 [(Value.int .i64 resf0_1), (Value.int .i64 resf1_1)] ∧
      R (.returned (Value.tuple #[(Value.agg #[(Value.int .i64 resf0_1), (Value.int .i64 resf1_1)]), (Value.int .i64 (202 : Int))])) hp_3) ∧
     (B_1 = false →
      Jv_1 [] hp_2))) ∧
   (∀  hp_4, Jv_1 [] hp_4 →
    ∃ x29_, IntKind.i64.wrap (sectors_ - (2 : Int)) = x29_ ∧
    ∃ x31_, IntKind.i64.wrap ((2 : Int) * slot_) = x31_ ∧
    ∃ x32_, IntKind.i64.wrap (x29_ - x31_) = x32_ ∧
    List.length [(Value.int .i64 slot_), (Value.int .i64 x32_)] = 2 ∧ (∀ c ∈ [(Value.int .i64 slot_), (Value.int .i64 x32_)], c.oneCell' = true) ∧ wrAt hp_4 b_ 0 2 ∧ ∀ hp_5, hp_5 = setsH hp_4 b_ 0 [(Value.int .i64 slot_), (Value.int .i64 x32_)] →
    ∃ resf0_2 : Int, ∃ resf1_2 : Int, cellsAt hp_5 b_ 0 [(Value.int .i64 resf0_2), (Value.int .i64 resf1_2)] ∧
    R (.returned (Value.tuple #[(Value.agg #[(Value.int .i64 resf0_2), (Value.int .i64 resf1_2)]), (Value.int .i64 (0 : Int))])) hp_5))) :
  CallsH Tryd.prog 10 #[(Value.int .i64 sectors_), (Value.int .i64 slot_)] h R := calls_vc fine false Tryd.func10 (ann := A10) (args := [(Value.int .i64 sectors_), (Value.int .i64 slot_)]) (by kernel_rfl) (Eq.mpr (by kernel_rfl) H)
/-- turnout/turnoutref20.Lay -/
def A11 : Ann := (.seq .nil (.cut (.seq (.join 15) (.cond (.seq .nil .nil) .nil)) [] (.cut (.seq (.join 26) (.cond (.seq .nil .nil) .nil)) [] (.seq .nil .nil))))
theorem V11 (n_ : Int) (slot_ : Int) (h : Hp) (R : Ending → Hp → Prop) (H :
  ∀ b_ hp_, b_ = Array.size h → hp_ = Array.push h (.cells (zeros Tryd.prog 24) 24) → (∃ i z, Tryd.prog.info? 24 = some i ∧ i.zero = some z) ∧
  ∃ Jv_ : List Value → Hp → Prop,
  (∃ B_ : Bool, ((((decide (n_ < (1 : Int))) = true →
      hp_ = hp_ ∧ B_ = true) ∧
     ((decide (n_ < (1 : Int))) = false →
      (((decide ((4096 : Int) < n_)) = true →
        hp_ = hp_ ∧ B_ = true) ∧
       ((decide ((4096 : Int) < n_)) = false →
        hp_ = hp_ ∧ B_ = (decide (slot_ < (1 : Int)))))))) ∧
   ((B_ = true →
     List.length [(Value.int .i64 (0 : Int)), (Value.int .i64 (0 : Int))] = 2 ∧ (∀ c ∈ [(Value.int .i64 (0 : Int)), (Value.int .i64 (0 : Int))], c.oneCell' = true) ∧ wrAt hp_ b_ 0 2 ∧ ∀ hp_1, hp_1 = setsH hp_ b_ 0 [(Value.int .i64 (0 : Int)), (Value.int .i64 (0 : Int))] →
     ∃ resf0_ : Int, ∃ resf1_ : Int, cellsAt hp_1 b_ 0 [(Value.int .i64 resf0_), (Value.int .i64 resf1_)] ∧
     R (.returned (Value.tuple #[(Value.agg #[(Value.int .i64 resf0_), (Value.int .i64 resf1_)]), (Value.int .i64 (1 : Int))])) hp_1) ∧
    (B_ = false →
     Jv_ [] hp_))) ∧
  (∀  hp_2, Jv_ [] hp_2 →
   ∃ Jv_1 : List Value → Hp → Prop,
   (∃ B_1 : Bool, ((((decide ((4096 : Int) < slot_)) = true →
       hp_2 = hp_2 ∧ B_1 = true) ∧
      ((decide ((4096 : Int) < slot_)) = false →
       ∃ x21_, IntKind.i64.wrap (n_ - (2 : Int)) = x21_ ∧
       ∃ x23_, IntKind.i64.wrap ((2 : Int) * slot_) = x23_ ∧
       ∃ x24_, IntKind.i64.wrap (x21_ - x23_) = x24_ ∧
       hp_2 = hp_2 ∧ B_1 = (decide (x24_ < (1 : Int)))))) ∧
    ((B_1 = true →
      List.length [(Value.int .i64 (0 : Int)), (Value.int .i64 (0 : Int))] = 2 ∧ (∀ c ∈ [(Value.int .i64 (0 : Int)), (Value.int .i64 (0 : Int))], c.oneCell' = true) ∧ wrAt hp_2 b_ 0 2 ∧ ∀ hp_3, hp_3 = setsH hp_2 b_ 0 [(Value.int .i64 (0 : Int)), (Value.int .i64 (0 : Int))] →
      ∃ resf0_1 : Int, ∃ resf1_1 : Int, cellsAt hp_3 b_ 0 [(Value.int .i64 resf0_1), (Value.int .i64 resf1_1)] ∧
      R (.returned (Value.tuple #[(Value.agg #[(Value.int .i64 resf0_1), (Value.int .i64 resf1_1)]), (Value.int .i64 (202 : Int))])) hp_3) ∧
     (B_1 = false →
      Jv_1 [] hp_2))) ∧
   (∀  hp_4, Jv_1 [] hp_4 →
    ∃ x30_, IntKind.i64.wrap (n_ - (2 : Int)) = x30_ ∧
    ∃ x32_, IntKind.i64.wrap ((2 : Int) * slot_) = x32_ ∧
    ∃ x33_, IntKind.i64.wrap (x30_ - x32_) = x33_ ∧
    List.length [(Value.int .i64 slot_), (Value.int .i64 x33_)] = 2 ∧ (∀ c ∈ [(Value.int .i64 slot_), (Value.int .i64 x33_)], c.oneCell' = true) ∧ wrAt hp_4 b_ 0 2 ∧ ∀ hp_5, hp_5 = setsH hp_4 b_ 0 [(Value.int .i64 slot_), (Value.int .i64 x33_)] →
    ∃ resf0_2 : Int, ∃ resf1_2 : Int, cellsAt hp_5 b_ 0 [(Value.int .i64 resf0_2), (Value.int .i64 resf1_2)] ∧
    R (.returned (Value.tuple #[(Value.agg #[(Value.int .i64 resf0_2), (Value.int .i64 resf1_2)]), (Value.int .i64 (0 : Int))])) hp_5))) :
  CallsH Tryd.prog 11 #[(Value.int .i64 n_), (Value.int .i64 slot_)] h R := calls_vc fine false Tryd.func11 (ann := A11) (args := [(Value.int .i64 n_), (Value.int .i64 slot_)]) (by kernel_rfl) (Eq.mpr (by kernel_rfl) H)
/-- turnout/ckpt.Next -/
def A12 : Ann := (.seq .nil (.cut (.seq (.join 13) (.cond (.seq .nil .nil) .nil)) [] (.seq .nil (.cut (.seq (.join 25) (.cond (.seq .nil .nil) .nil)) [] (.seq .nil .nil)))))
theorem V12 (hf0_ : Int) (hf1_ : Int) (hf2_ : Int) (hf3_ : Int) (hf4_ : Int) (above_ : Int) (h : Hp) (R : Ending → Hp → Prop) (H :
  ∀ b_ hp_, b_ = Array.size h → hp_ = Array.push h (.cells #[(Value.int .i64 hf0_), (Value.int .u64 hf1_), (Value.int .u64 hf2_), (Value.int .i64 hf3_), (Value.int .i64 hf4_)] 26) →
  ∀ b_1 hp_1, b_1 = Array.size hp_ → hp_1 = Array.push hp_ (.cells (zeros Tryd.prog 26) 26) → (∃ i z, Tryd.prog.info? 26 = some i ∧ i.zero = some z) ∧
  ∃ Jv_ : List Value → Hp → Prop,
  (∃ B_ : Bool, (∃ x7_ : Int, cellsAt hp_1 b_ (0 + 0) [(Value.int .i64 x7_)] ∧
    (((decide (x7_ ≠ (0 : Int))) = true →
      ∃ x11_ : Int, cellsAt hp_1 b_ (0 + 0) [(Value.int .i64 x11_)] ∧
      hp_1 = hp_1 ∧ B_ = (decide (x11_ ≠ (1 : Int)))) ∧
     ((decide (x7_ ≠ (0 : Int))) = false →
      hp_1 = hp_1 ∧ B_ = false))) ∧
   ((B_ = true →
     List.length [(Value.int .i64 (0 : Int)), (Value.int .u64 (0 : Int)), (Value.int .u64 (0 : Int)), (Value.int .i64 (0 : Int)), (Value.int .i64 (0 : Int))] = 5 ∧ (∀ c ∈ [(Value.int .i64 (0 : Int)), (Value.int .u64 (0 : Int)), (Value.int .u64 (0 : Int)), (Value.int .i64 (0 : Int)), (Value.int .i64 (0 : Int))], c.oneCell' = true) ∧ wrAt hp_1 b_1 0 5 ∧ ∀ hp_2, hp_2 = setsH hp_1 b_1 0 [(Value.int .i64 (0 : Int)), (Value.int .u64 (0 : Int)), (Value.int .u64 (0 : Int)), (Value.int .i64 (0 : Int)), (Value.int .i64 (0 : Int))] →
     ∃ resf0_ : Int, ∃ resf1_ : Int, ∃ resf2_ : Int, ∃ resf3_ : Int, ∃ resf4_ : Int, cellsAt hp_2 b_1 0 [(Value.int .i64 resf0_), (Value.int .u64 resf1_), (Value.int .u64 resf2_), (Value.int .i64 resf3_), (Value.int .i64 resf4_)] ∧
     R (.returned (Value.tuple #[(Value.agg #[(Value.int .i64 resf0_), (Value.int .u64 resf1_), (Value.int .u64 resf2_), (Value.int .i64 resf3_), (Value.int .i64 resf4_)]), (Value.int .i64 (1 : Int))])) hp_2) ∧
    (B_ = false →
     Jv_ [] hp_1))) ∧
  (∀  hp_3, Jv_ [] hp_3 →
   ∃ x17_ : Int, cellsAt hp_3 b_ (0 + 2) [(Value.int .u64 x17_)] ∧
   ∃ Jv_1 : List Value → Hp → Prop,
   (∃ B_1 : Bool, (∃ x20_ : Int, cellsAt hp_3 b_ (0 + 1) [(Value.int .u64 x20_)] ∧
     (((decide ((9223372036854775807 : Int) ≤ x20_)) = true →
       hp_3 = hp_3 ∧ B_1 = true) ∧
      ((decide ((9223372036854775807 : Int) ≤ x20_)) = false →
       hp_3 = hp_3 ∧ B_1 = (decide ((9223372036854775807 : Int) ≤ (max above_ x17_)))))) ∧
    ((B_1 = true →
      List.length [(Value.int .i64 (0 : Int)), (Value.int .u64 (0 : Int)), (Value.int .u64 (0 : Int)), (Value.int .i64 (0 : Int)), (Value.int .i64 (0 : Int))] = 5 ∧ (∀ c ∈ [(Value.int .i64 (0 : Int)), (Value.int .u64 (0 : Int)), (Value.int .u64 (0 : Int)), (Value.int .i64 (0 : Int)), (Value.int .i64 (0 : Int))], c.oneCell' = true) ∧ wrAt hp_3 b_1 0 5 ∧ ∀ hp_4, hp_4 = setsH hp_3 b_1 0 [(Value.int .i64 (0 : Int)), (Value.int .u64 (0 : Int)), (Value.int .u64 (0 : Int)), (Value.int .i64 (0 : Int)), (Value.int .i64 (0 : Int))] →
      ∃ resf0_1 : Int, ∃ resf1_1 : Int, ∃ resf2_1 : Int, ∃ resf3_1 : Int, ∃ resf4_1 : Int, cellsAt hp_4 b_1 0 [(Value.int .i64 resf0_1), (Value.int .u64 resf1_1), (Value.int .u64 resf2_1), (Value.int .i64 resf3_1), (Value.int .i64 resf4_1)] ∧
      R (.returned (Value.tuple #[(Value.agg #[(Value.int .i64 resf0_1), (Value.int .u64 resf1_1), (Value.int .u64 resf2_1), (Value.int .i64 resf3_1), (Value.int .i64 resf4_1)]), (Value.int .i64 (201 : Int))])) hp_4) ∧
     (B_1 = false →
      Jv_1 [] hp_3))) ∧
   (∀  hp_5, Jv_1 [] hp_5 →
    ∃ x28_ : Int, cellsAt hp_5 b_ (0 + 0) [(Value.int .i64 x28_)] ∧
    ∃ x29_, IntKind.i64.wrap ((1 : Int) - x28_) = x29_ ∧
    ∃ x31_ : Int, cellsAt hp_5 b_ (0 + 1) [(Value.int .u64 x31_)] ∧
    ∃ x32_, IntKind.u64.wrap (x31_ + (1 : Int)) = x32_ ∧
    ∃ x34_, IntKind.u64.wrap ((max above_ x17_) + (1 : Int)) = x34_ ∧
    ∃ x36f0_ : Int, ∃ x36f1_ : Int, cellsAt hp_5 b_ (0 + 3) [(Value.int .i64 x36f0_), (Value.int .i64 x36f1_)] ∧
    List.length [(Value.int .i64 x29_), (Value.int .u64 x32_), (Value.int .u64 x34_), (Value.int .i64 x36f0_), (Value.int .i64 x36f1_)] = 5 ∧ (∀ c ∈ [(Value.int .i64 x29_), (Value.int .u64 x32_), (Value.int .u64 x34_), (Value.int .i64 x36f0_), (Value.int .i64 x36f1_)], c.oneCell' = true) ∧ wrAt hp_5 b_1 0 5 ∧ ∀ hp_6, hp_6 = setsH hp_5 b_1 0 [(Value.int .i64 x29_), (Value.int .u64 x32_), (Value.int .u64 x34_), (Value.int .i64 x36f0_), (Value.int .i64 x36f1_)] →
    ∃ resf0_2 : Int, ∃ resf1_2 : Int, ∃ resf2_2 : Int, ∃ resf3_2 : Int, ∃ resf4_2 : Int, cellsAt hp_6 b_1 0 [(Value.int .i64 resf0_2), (Value.int .u64 resf1_2), (Value.int .u64 resf2_2), (Value.int .i64 resf3_2), (Value.int .i64 resf4_2)] ∧
    R (.returned (Value.tuple #[(Value.agg #[(Value.int .i64 resf0_2), (Value.int .u64 resf1_2), (Value.int .u64 resf2_2), (Value.int .i64 resf3_2), (Value.int .i64 resf4_2)]), (Value.int .i64 (0 : Int))])) hp_6))) :
  CallsH Tryd.prog 12 #[(Value.agg #[(Value.int .i64 hf0_), (Value.int .u64 hf1_), (Value.int .u64 hf2_), (Value.int .i64 hf3_), (Value.int .i64 hf4_)]), (Value.int .u64 above_)] h R := calls_vc fine false Tryd.func12 (ann := A12) (args := [(Value.agg #[(Value.int .i64 hf0_), (Value.int .u64 hf1_), (Value.int .u64 hf2_), (Value.int .i64 hf3_), (Value.int .i64 hf4_)]), (Value.int .u64 above_)]) (by kernel_rfl) (Eq.mpr (by kernel_rfl) H)
/-- turnout/turnoutref20.Next -/
def A13 : Ann := (.seq .nil (.cut (.seq (.join 13) (.cond (.seq .nil .nil) .nil)) [] (.cut (.seq (.join 26) (.cond (.seq .nil .nil) .nil)) [] (.seq .nil .nil))))
theorem V13 (hf0_ : Int) (hf1_ : Int) (hf2_ : Int) (hf3_ : Int) (hf4_ : Int) (above_ : Int) (h : Hp) (R : Ending → Hp → Prop) (H :
  ∀ b_ hp_, b_ = Array.size h → hp_ = Array.push h (.cells #[(Value.int .i64 hf0_), (Value.int .u64 hf1_), (Value.int .u64 hf2_), (Value.int .i64 hf3_), (Value.int .i64 hf4_)] 26) →
  ∀ b_1 hp_1, b_1 = Array.size hp_ → hp_1 = Array.push hp_ (.cells (zeros Tryd.prog 26) 26) → (∃ i z, Tryd.prog.info? 26 = some i ∧ i.zero = some z) ∧
  ∃ Jv_ : List Value → Hp → Prop,
  (∃ B_ : Bool, (∃ x7_ : Int, cellsAt hp_1 b_ (0 + 0) [(Value.int .i64 x7_)] ∧
    (((decide (x7_ ≠ (0 : Int))) = true →
      ∃ x11_ : Int, cellsAt hp_1 b_ (0 + 0) [(Value.int .i64 x11_)] ∧
      hp_1 = hp_1 ∧ B_ = (decide (x11_ ≠ (1 : Int)))) ∧
     ((decide (x7_ ≠ (0 : Int))) = false →
      hp_1 = hp_1 ∧ B_ = false))) ∧
   ((B_ = true →
     List.length [(Value.int .i64 (0 : Int)), (Value.int .u64 (0 : Int)), (Value.int .u64 (0 : Int)), (Value.int .i64 (0 : Int)), (Value.int .i64 (0 : Int))] = 5 ∧ (∀ c ∈ [(Value.int .i64 (0 : Int)), (Value.int .u64 (0 : Int)), (Value.int .u64 (0 : Int)), (Value.int .i64 (0 : Int)), (Value.int .i64 (0 : Int))], c.oneCell' = true) ∧ wrAt hp_1 b_1 0 5 ∧ ∀ hp_2, hp_2 = setsH hp_1 b_1 0 [(Value.int .i64 (0 : Int)), (Value.int .u64 (0 : Int)), (Value.int .u64 (0 : Int)), (Value.int .i64 (0 : Int)), (Value.int .i64 (0 : Int))] →
     ∃ resf0_ : Int, ∃ resf1_ : Int, ∃ resf2_ : Int, ∃ resf3_ : Int, ∃ resf4_ : Int, cellsAt hp_2 b_1 0 [(Value.int .i64 resf0_), (Value.int .u64 resf1_), (Value.int .u64 resf2_), (Value.int .i64 resf3_), (Value.int .i64 resf4_)] ∧
     R (.returned (Value.tuple #[(Value.agg #[(Value.int .i64 resf0_), (Value.int .u64 resf1_), (Value.int .u64 resf2_), (Value.int .i64 resf3_), (Value.int .i64 resf4_)]), (Value.int .i64 (1 : Int))])) hp_2) ∧
    (B_ = false →
     Jv_ [] hp_1))) ∧
  (∀  hp_3, Jv_ [] hp_3 →
   ∃ Jv_1 : List Value → Hp → Prop,
   (∃ B_1 : Bool, (∃ x16_ : Int, cellsAt hp_3 b_ (0 + 1) [(Value.int .u64 x16_)] ∧
     (((decide ((9223372036854775807 : Int) ≤ x16_)) = true →
       hp_3 = hp_3 ∧ B_1 = true) ∧
      ((decide ((9223372036854775807 : Int) ≤ x16_)) = false →
       ∃ x20_ : Int, cellsAt hp_3 b_ (0 + 2) [(Value.int .u64 x20_)] ∧
       (((decide ((9223372036854775807 : Int) ≤ x20_)) = true →
         hp_3 = hp_3 ∧ B_1 = true) ∧
        ((decide ((9223372036854775807 : Int) ≤ x20_)) = false →
         hp_3 = hp_3 ∧ B_1 = (decide ((9223372036854775807 : Int) ≤ above_))))))) ∧
    ((B_1 = true →
      List.length [(Value.int .i64 (0 : Int)), (Value.int .u64 (0 : Int)), (Value.int .u64 (0 : Int)), (Value.int .i64 (0 : Int)), (Value.int .i64 (0 : Int))] = 5 ∧ (∀ c ∈ [(Value.int .i64 (0 : Int)), (Value.int .u64 (0 : Int)), (Value.int .u64 (0 : Int)), (Value.int .i64 (0 : Int)), (Value.int .i64 (0 : Int))], c.oneCell' = true) ∧ wrAt hp_3 b_1 0 5 ∧ ∀ hp_4, hp_4 = setsH hp_3 b_1 0 [(Value.int .i64 (0 : Int)), (Value.int .u64 (0 : Int)), (Value.int .u64 (0 : Int)), (Value.int .i64 (0 : Int)), (Value.int .i64 (0 : Int))] →
      ∃ resf0_1 : Int, ∃ resf1_1 : Int, ∃ resf2_1 : Int, ∃ resf3_1 : Int, ∃ resf4_1 : Int, cellsAt hp_4 b_1 0 [(Value.int .i64 resf0_1), (Value.int .u64 resf1_1), (Value.int .u64 resf2_1), (Value.int .i64 resf3_1), (Value.int .i64 resf4_1)] ∧
      R (.returned (Value.tuple #[(Value.agg #[(Value.int .i64 resf0_1), (Value.int .u64 resf1_1), (Value.int .u64 resf2_1), (Value.int .i64 resf3_1), (Value.int .i64 resf4_1)]), (Value.int .i64 (201 : Int))])) hp_4) ∧
     (B_1 = false →
      Jv_1 [] hp_3))) ∧
   (∀  hp_5, Jv_1 [] hp_5 →
    ∃ x29_ : Int, cellsAt hp_5 b_ (0 + 0) [(Value.int .i64 x29_)] ∧
    ∃ x30_, IntKind.i64.wrap ((1 : Int) - x29_) = x30_ ∧
    ∃ x32_ : Int, cellsAt hp_5 b_ (0 + 1) [(Value.int .u64 x32_)] ∧
    ∃ x33_, IntKind.u64.wrap (x32_ + (1 : Int)) = x33_ ∧
    ∃ x35_ : Int, cellsAt hp_5 b_ (0 + 2) [(Value.int .u64 x35_)] ∧
    ∃ x38_, IntKind.u64.wrap ((max x35_ above_) + (1 : Int)) = x38_ ∧
    ∃ x40f0_ : Int, ∃ x40f1_ : Int, cellsAt hp_5 b_ (0 + 3) [(Value.int .i64 x40f0_), (Value.int .i64 x40f1_)] ∧
    List.length [(Value.int .i64 x30_), (Value.int .u64 x33_), (Value.int .u64 x38_), (Value.int .i64 x40f0_), (Value.int .i64 x40f1_)] = 5 ∧ (∀ c ∈ [(Value.int .i64 x30_), (Value.int .u64 x33_), (Value.int .u64 x38_), (Value.int .i64 x40f0_), (Value.int .i64 x40f1_)], c.oneCell' = true) ∧ wrAt hp_5 b_1 0 5 ∧ ∀ hp_6, hp_6 = setsH hp_5 b_1 0 [(Value.int .i64 x30_), (Value.int .u64 x33_), (Value.int .u64 x38_), (Value.int .i64 x40f0_), (Value.int .i64 x40f1_)] →
    ∃ resf0_2 : Int, ∃ resf1_2 : Int, ∃ resf2_2 : Int, ∃ resf3_2 : Int, ∃ resf4_2 : Int, cellsAt hp_6 b_1 0 [(Value.int .i64 resf0_2), (Value.int .u64 resf1_2), (Value.int .u64 resf2_2), (Value.int .i64 resf3_2), (Value.int .i64 resf4_2)] ∧
    R (.returned (Value.tuple #[(Value.agg #[(Value.int .i64 resf0_2), (Value.int .u64 resf1_2), (Value.int .u64 resf2_2), (Value.int .i64 resf3_2), (Value.int .i64 resf4_2)]), (Value.int .i64 (0 : Int))])) hp_6))) :
  CallsH Tryd.prog 13 #[(Value.agg #[(Value.int .i64 hf0_), (Value.int .u64 hf1_), (Value.int .u64 hf2_), (Value.int .i64 hf3_), (Value.int .i64 hf4_)]), (Value.int .u64 above_)] h R := calls_vc fine false Tryd.func13 (ann := A13) (args := [(Value.agg #[(Value.int .i64 hf0_), (Value.int .u64 hf1_), (Value.int .u64 hf2_), (Value.int .i64 hf3_), (Value.int .i64 hf4_)]), (Value.int .u64 above_)]) (by kernel_rfl) (Eq.mpr (by kernel_rfl) H)
/-- turnout/ckpt.Write -/
def A14 : Ann := (.seq .nil (.cut (.seq .nil (.cond (.seq .nil .nil) .nil)) [] (.seq (.seq .nil (.cond (.seq .nil .nil) .nil)) (.seq .nil (.seq (.seq .nil (.cond (.seq .nil .nil) .nil)) (.seq .nil (.seq (.seq .nil (.block (.loop [(9, .slice), (10, .ptr)] (.seq (.seq .nil (.cond .nil .nil)) (.seq (.block (.seq .nil .nil)) (.seq (.seq .nil .nil) .nil)))))) (.seq .nil (.seq (.seq .nil (.block (.loop [(73, (.int .i64))] (.seq .nil (.seq (.cond .nil .nil) (.seq (.block (.seq .nil (.seq .nil (.seq .nil (.cond (.seq .nil .nil) .nil))))) .nil)))))) (.seq .nil .nil))))))))))
theorem V14 (d_ : Option Addr) (hf0_ : Int) (hf1_ : Int) (hf2_ : Int) (hf3_ : Int) (hf4_ : Int) (image_ : ByteArray) (h : Hp) (R : Ending → Hp → Prop) (H :
  ∀ b_ hp_, b_ = Array.size h → hp_ = Array.push h (.cells #[(Value.pointer d_)] 43) →
  ∀ b_1 hp_1, b_1 = Array.size hp_ → hp_1 = Array.push hp_ (.cells #[(Value.int .i64 hf0_), (Value.int .u64 hf1_), (Value.int .u64 hf2_), (Value.int .i64 hf3_), (Value.int .i64 hf4_)] 26) →
  ∃ Jv_ : List Value → Hp → Prop,
  (∃ x15_ : Option Addr, cellsAt hp_1 b_ 0 [(Value.pointer x15_)] ∧
   ∃ x16_, EqV Tryd.prog 43 (Value.pointer x15_) (Value.pointer none) x16_ ∧
   ((x16_ = true →
     R (.returned (Value.int .i64 (1 : Int))) hp_1) ∧
    (x16_ = false →
     ∃ x18_ : Option Addr, cellsAt hp_1 b_ 0 [(Value.pointer x18_)] ∧
     ∃ x19f0_ : Int, ∃ x19f1_ : Int, ∃ x19f2_ : Int, ∃ x19f3_ : Int, ∃ x19f4_ : Int, cellsAt hp_1 b_1 0 [(Value.int .i64 x19f0_), (Value.int .u64 x19f1_), (Value.int .u64 x19f2_), (Value.int .i64 x19f3_), (Value.int .i64 x19f4_)] ∧
     CallsH Tryd.prog 30 #[(Value.pointer x18_), (Value.agg #[(Value.int .i64 x19f0_), (Value.int .u64 x19f1_), (Value.int .u64 x19f2_), (Value.int .i64 x19f3_), (Value.int .i64 x19f4_)])] hp_1 fun en_ hp_2 =>
     ∃ x20_ : Bool, en_ = .returned (Value.bool x20_) ∧
     (((!x20_) = true →
       R (.returned (Value.int .i64 (1 : Int))) hp_2) ∧
      ((!x20_) = false →
       (((decide (image_ = (⟨#[]⟩ : ByteArray))) = true →
         R (.returned (Value.int .i64 (1 : Int))) hp_2) ∧
        ((decide (image_ = (⟨#[]⟩ : ByteArray))) = false →
         Jv_ [] hp_2))))))) ∧
  (∀  hp_3, Jv_ [] hp_3 →
   ∃ x29f0_ : Int, ∃ x29f1_ : Int, ∃ x29f2_ : Int, ∃ x29f3_ : Int, ∃ x29f4_ : Int, cellsAt hp_3 b_1 0 [(Value.int .i64 x29f0_), (Value.int .u64 x29f1_), (Value.int .u64 x29f2_), (Value.int .i64 x29f3_), (Value.int .i64 x29f4_)] ∧
   CallsH Tryd.prog 31 #[(Value.agg #[(Value.int .i64 x29f0_), (Value.int .u64 x29f1_), (Value.int .u64 x29f2_), (Value.int .i64 x29f3_), (Value.int .i64 x29f4_)])] hp_3 fun en_1 hp_4 =>
   ∃ x30_ : Int, en_1 = .returned (Value.int .i64 x30_) ∧
   (((decide (x30_ < (ByteArray.size image_ : Int))) = true →
     R (.returned (Value.int .i64 (2 : Int))) hp_4) ∧
    ((decide (x30_ < (ByteArray.size image_ : Int))) = false →
     ∃ x33f0_ : Int, ∃ x33f1_ : Int, ∃ x33f2_ : Int, ∃ x33f3_ : Int, ∃ x33f4_ : Int, cellsAt hp_4 b_1 0 [(Value.int .i64 x33f0_), (Value.int .u64 x33f1_), (Value.int .u64 x33f2_), (Value.int .i64 x33f3_), (Value.int .i64 x33f4_)] ∧
     CallsH Tryd.prog 32 #[(Value.agg #[(Value.int .i64 x33f0_), (Value.int .u64 x33f1_), (Value.int .u64 x33f2_), (Value.int .i64 x33f3_), (Value.int .i64 x33f4_)]), (Value.string image_)] hp_4 fun en_2 hp_5 =>
     ∃ x35r0_ : ByteArray, ∃ x35r1_ : Int, en_2 = .returned (Value.tuple #[(Value.string x35r0_), (Value.int .i64 x35r1_)]) ∧
     ∀ b_2 hp_6, b_2 = Array.size hp_5 → hp_6 = Array.push hp_5 (.cells (zeros Tryd.prog 9) 9) → (∃ i z, Tryd.prog.info? 9 = some i ∧ i.zero = some z) ∧
     Value.oneCell' (Value.string x35r0_) = true ∧ wrAt hp_6 b_2 0 1 ∧ ∀ hp_7, hp_7 = setsH hp_6 b_2 0 [(Value.string x35r0_)] →
     (((decide (x35r1_ ≠ (0 : Int))) = true →
       R (.returned (Value.int .i64 x35r1_)) hp_7) ∧
      ((decide (x35r1_ ≠ (0 : Int))) = false →
       ∀ b_3 hp_8, b_3 = Array.size hp_7 → hp_8 = Array.push hp_7 (.cells (zeros Tryd.prog 3) 3) → (∃ i z, Tryd.prog.info? 3 = some i ∧ i.zero = some z) ∧
       Value.oneCell' (Value.int .i64 (0 : Int)) = true ∧ wrAt hp_8 b_3 0 1 ∧ ∀ hp_9, hp_9 = setsH hp_8 b_3 0 [(Value.int .i64 (0 : Int))] →
       ∃ (Iv_ : List Value → Hp → Prop) (m_ : List Value → Hp → Nat), Iv_ [(Value.slice none 0 0), (Value.pointer (some ⟨b_3, 0, none⟩))] hp_9 ∧
       (∀ (todop_ : Option Addr) (todon_ todoc_ : Nat) (k_ : Option Addr) hp_10, Iv_ [(Value.slice todop_ todon_ todoc_), (Value.pointer k_)] hp_10 →
        ∃ b_4 o_, k_ = some ⟨b_4, o_, none⟩ ∧
        ∃ x41_ : Int, cellsAt hp_10 b_4 o_ [(Value.int .i64 x41_)] ∧
        ∃ x42_, IntKind.i64.wrap (x41_ * (491 : Int)) = x42_ ∧
        (((decide (x42_ < (ByteArray.size image_ : Int))) = true →
          ∃ b_5 o_1, k_ = some ⟨b_5, o_1, none⟩ ∧
          ∃ x49_ : Int, cellsAt hp_10 b_5 o_1 [(Value.int .i64 x49_)] ∧
          ∃ x50_, IntKind.i64.wrap (x49_ * (491 : Int)) = x50_ ∧
          ∃ b_6 o_2, k_ = some ⟨b_6, o_2, none⟩ ∧
          ∃ x51_ : Int, cellsAt hp_10 b_6 o_2 [(Value.int .i64 x51_)] ∧
          ∃ x52_, IntKind.i64.wrap (x51_ + (1 : Int)) = x52_ ∧
          ∃ x53_, IntKind.i64.wrap (x52_ * (491 : Int)) = x53_ ∧
          ∃ l_ : Nat, x50_ = (l_ : Int) ∧
          ∃ u_ : Nat, (min x53_ (ByteArray.size image_ : Int)) = (u_ : Int) ∧
          l_ ≤ u_ ∧ u_ ≤ ByteArray.size image_ ∧ ∃ x57_, ByteArray.extract image_ l_ u_ = x57_ ∧
          ∀ b_7 hp_11, b_7 = Array.size hp_10 → hp_11 = Array.push hp_10 (.cells (zeros Tryd.prog 9) 9) → (∃ i z, Tryd.prog.info? 9 = some i ∧ i.zero = some z) ∧
          Value.oneCell' (Value.string x57_) = true ∧ wrAt hp_11 b_7 0 1 ∧ ∀ hp_12, hp_12 = setsH hp_11 b_7 0 [(Value.string x57_)] →
          SemH Tryd.prog (Instr.buildSlice 71 1 #[(0, (Value.func (.func 33) #[] #[(Value.pointer (some ⟨b_, 0, none⟩)), (Value.pointer (some ⟨b_1, 0, none⟩)), (Value.pointer k_), (Value.pointer (some ⟨b_7, 0, none⟩))]))]) hp_12 fun v_ hp_13 =>
          ∃ (x60p_ : Option Addr) (x60n_ x60c_ : Nat), v_ = (Value.slice x60p_ x60n_ x60c_) ∧
          SemH Tryd.prog (Builtin.append_ #[71, 71] 71 #[(Value.slice todop_ todon_ todoc_), (Value.slice x60p_ x60n_ x60c_)]) hp_13 fun v_1 hp_14 =>
          ∃ (x61p_ : Option Addr) (x61n_ x61c_ : Nat), v_1 = (Value.slice x61p_ x61n_ x61c_) ∧
          ∃ b_8 o_3, k_ = some ⟨b_8, o_3, none⟩ ∧
          ∃ x62_ : Int, cellsAt hp_14 b_8 o_3 [(Value.int .i64 x62_)] ∧
          ∀ b_9 hp_15, b_9 = Array.size hp_14 → hp_15 = Array.push hp_14 (.cells (zeros Tryd.prog 3) 3) → (∃ i z, Tryd.prog.info? 3 = some i ∧ i.zero = some z) ∧
          Value.oneCell' (Value.int .i64 x62_) = true ∧ wrAt hp_15 b_9 0 1 ∧ ∀ hp_16, hp_16 = setsH hp_15 b_9 0 [(Value.int .i64 x62_)] →
          ∃ x46_ : Int, cellsAt hp_16 b_9 0 [(Value.int .i64 x46_)] ∧
          ∃ x47_, IntKind.i64.wrap (x46_ + (1 : Int)) = x47_ ∧
          Value.oneCell' (Value.int .i64 x47_) = true ∧ wrAt hp_16 b_9 0 1 ∧ ∀ hp_17, hp_17 = setsH hp_16 b_9 0 [(Value.int .i64 x47_)] →
          (Iv_ [(Value.slice x61p_ x61n_ x61c_), (Value.pointer (some ⟨b_9, 0, none⟩))] hp_17 ∧ m_ [(Value.slice x61p_ x61n_ x61c_), (Value.pointer (some ⟨b_9, 0, none⟩))] hp_17 < m_ [(Value.slice todop_ todon_ todoc_), (Value.pointer k_)] hp_10)) ∧
         ((decide (x42_ < (ByteArray.size image_ : Int))) = false →
          ∃ x64_ : Option Addr, cellsAt hp_10 b_ 0 [(Value.pointer x64_)] ∧
          ∃ x67_ : Option Addr, cellsAt hp_10 b_ 0 [(Value.pointer x67_)] ∧
          SemH Tryd.prog (Instr.buildSlice 71 3 #[(0, (Value.func (.func 36) #[(Value.pointer x64_)] #[])), (1, (Value.func (.func 37) #[] #[(Value.pointer (some ⟨b_, 0, none⟩)), (Value.pointer (some ⟨b_1, 0, none⟩)), (Value.pointer (some ⟨b_2, 0, none⟩))])), (2, (Value.func (.func 36) #[(Value.pointer x67_)] #[]))]) hp_10 fun v_2 hp_18 =>
          ∃ (x69p_ : Option Addr) (x69n_ x69c_ : Nat), v_2 = (Value.slice x69p_ x69n_ x69c_) ∧
          SemH Tryd.prog (Builtin.append_ #[71, 71] 71 #[(Value.slice todop_ todon_ todoc_), (Value.slice x69p_ x69n_ x69c_)]) hp_18 fun v_3 hp_19 =>
          ∃ (x70p_ : Option Addr) (x70n_ x70c_ : Nat), v_3 = (Value.slice x70p_ x70n_ x70c_) ∧
          ∃ (Iv_1 : List Value → Hp → Prop) (m_1 : List Value → Hp → Nat), Iv_1 [(Value.int .i64 (0 : Int))] hp_19 ∧
          (∀ (x73_ : Int) hp_20, Iv_1 [(Value.int .i64 x73_)] hp_20 →
           (((decide (x73_ < ((x70n_ : Nat) : Int))) = true →
             ∃ b_10 o_4, x70p_ = some ⟨b_10, o_4, none⟩ ∧ 0 ≤ x73_ ∧ x73_ < (x70n_ : Int) ∧
             ∃ x76_ : Value, cellsAt hp_20 b_10 (o_4 + Int.toNat x73_ * 1) [x76_] ∧
             ∃ fn_ fst_ cap_, x76_ = Value.func (.func fn_) fst_ cap_ ∧ bodied Tryd.prog fn_ = true ∧
             CallsH Tryd.prog fn_ (fst_.toList ++ [] ++ cap_.toList).toArray hp_20 fun en_3 hp_21 =>
             ∃ x78_ : Int, en_3 = .returned (Value.int .i64 x78_) ∧
             (((decide (x78_ ≠ (0 : Int))) = true →
               R (.returned (Value.int .i64 x78_)) hp_21) ∧
              ((decide (x78_ ≠ (0 : Int))) = false →
               ∃ x82_, IntKind.i64.wrap (x73_ + (1 : Int)) = x82_ ∧
               (Iv_1 [(Value.int .i64 x82_)] hp_21 ∧ m_1 [(Value.int .i64 x82_)] hp_21 < m_1 [(Value.int .i64 x73_)] hp_20)))) ∧
            ((decide (x73_ < ((x70n_ : Nat) : Int))) = false →
             R (.returned (Value.int .i64 (0 : Int))) hp_20)))))))))))) :
  CallsH Tryd.prog 14 #[(Value.pointer d_), (Value.agg #[(Value.int .i64 hf0_), (Value.int .u64 hf1_), (Value.int .u64 hf2_), (Value.int .i64 hf3_), (Value.int .i64 hf4_)]), (Value.string image_)] h R := calls_vc fine false Tryd.func14 (ann := A14) (args := [(Value.pointer d_), (Value.agg #[(Value.int .i64 hf0_), (Value.int .u64 hf1_), (Value.int .u64 hf2_), (Value.int .i64 hf3_), (Value.int .i64 hf4_)]), (Value.string image_)]) (by kernel_rfl) (Eq.mpr (by kernel_rfl) H)
/-- turnout/ckpt.Heads -/
def A15 : Ann := (.seq .nil (.seq .nil (.seq .nil (.seq (.seq .nil (.block (.loop [(6, .slice), (16, (.int .i64))] (.seq .nil (.seq (.cond .nil .nil) (.seq (.block (.seq .nil .nil)) .nil)))))) (.seq .nil .nil)))))
theorem V15 (d_ : Option Addr) (h : Hp) (R : Ending → Hp → Prop) (H :
  CallsH Tryd.prog 38 #[(Value.pointer d_)] h fun en_ hp_ =>
  ∃ (x11r0p_ : Option Addr) (x11r0n_ x11r0c_ : Nat), ∃ x11r1_ : Int, en_ = .returned (Value.tuple #[(Value.slice x11r0p_ x11r0n_ x11r0c_), (Value.int .i64 x11r1_)]) ∧
  ∃ (Iv_ : List Value → Hp → Prop) (m_ : List Value → Hp → Nat), Iv_ [(Value.slice none 0 0), (Value.int .i64 (0 : Int))] hp_ ∧
  (∀ (outp_ : Option Addr) (outn_ outc_ : Nat) (x16_ : Int) hp_1, Iv_ [(Value.slice outp_ outn_ outc_), (Value.int .i64 x16_)] hp_1 →
   (((decide (x16_ < ((x11r0n_ : Nat) : Int))) = true →
     ∃ b_ o_, x11r0p_ = some ⟨b_, o_, none⟩ ∧ 0 ≤ x16_ ∧ x16_ < (x11r0n_ : Int) ∧
     ∃ x19f0_ : Int, ∃ x19f1_ : Int, ∃ x19f2_ : Int, ∃ x19f3_ : Int, ∃ x19f4_ : Int, ∃ x19f5_ : Int, ∃ x19f6_ : Int, cellsAt hp_1 b_ (o_ + Int.toNat x16_ * 7) [(Value.int .i64 x19f0_), (Value.int .u64 x19f1_), (Value.int .u64 x19f2_), (Value.int .i64 x19f3_), (Value.int .i64 x19f4_), (Value.int .i64 x19f5_), (Value.int .u32 x19f6_)] ∧
     ∀ b_1 hp_2, b_1 = Array.size hp_1 → hp_2 = Array.push hp_1 (.cells (zeros Tryd.prog 81) 81) → (∃ i z, Tryd.prog.info? 81 = some i ∧ i.zero = some z) ∧
     List.length [(Value.int .i64 x19f0_), (Value.int .u64 x19f1_), (Value.int .u64 x19f2_), (Value.int .i64 x19f3_), (Value.int .i64 x19f4_), (Value.int .i64 x19f5_), (Value.int .u32 x19f6_)] = 7 ∧ (∀ c ∈ [(Value.int .i64 x19f0_), (Value.int .u64 x19f1_), (Value.int .u64 x19f2_), (Value.int .i64 x19f3_), (Value.int .i64 x19f4_), (Value.int .i64 x19f5_), (Value.int .u32 x19f6_)], c.oneCell' = true) ∧ wrAt hp_2 b_1 0 7 ∧ ∀ hp_3, hp_3 = setsH hp_2 b_1 0 [(Value.int .i64 x19f0_), (Value.int .u64 x19f1_), (Value.int .u64 x19f2_), (Value.int .i64 x19f3_), (Value.int .i64 x19f4_), (Value.int .i64 x19f5_), (Value.int .u32 x19f6_)] →
     ∃ x22f0_ : Int, ∃ x22f1_ : Int, ∃ x22f2_ : Int, ∃ x22f3_ : Int, ∃ x22f4_ : Int, cellsAt hp_3 b_1 (0 + 0) [(Value.int .i64 x22f0_), (Value.int .u64 x22f1_), (Value.int .u64 x22f2_), (Value.int .i64 x22f3_), (Value.int .i64 x22f4_)] ∧
     SemH Tryd.prog (Instr.buildSlice 35 1 #[(0, (Value.agg #[(Value.int .i64 x22f0_), (Value.int .u64 x22f1_), (Value.int .u64 x22f2_), (Value.int .i64 x22f3_), (Value.int .i64 x22f4_)]))]) hp_3 fun v_ hp_4 =>
     ∃ (x23p_ : Option Addr) (x23n_ x23c_ : Nat), v_ = (Value.slice x23p_ x23n_ x23c_) ∧
     SemH Tryd.prog (Builtin.append_ #[35, 35] 35 #[(Value.slice outp_ outn_ outc_), (Value.slice x23p_ x23n_ x23c_)]) hp_4 fun v_1 hp_5 =>
     ∃ (x24p_ : Option Addr) (x24n_ x24c_ : Nat), v_1 = (Value.slice x24p_ x24n_ x24c_) ∧
     ∃ x25_, IntKind.i64.wrap (x16_ + (1 : Int)) = x25_ ∧
     (Iv_ [(Value.slice x24p_ x24n_ x24c_), (Value.int .i64 x25_)] hp_5 ∧ m_ [(Value.slice x24p_ x24n_ x24c_), (Value.int .i64 x25_)] hp_5 < m_ [(Value.slice outp_ outn_ outc_), (Value.int .i64 x16_)] hp_1)) ∧
    ((decide (x16_ < ((x11r0n_ : Nat) : Int))) = false →
     R (.returned (Value.tuple #[(Value.slice outp_ outn_ outc_), (Value.int .i64 x11r1_)])) hp_1)))) :
  CallsH Tryd.prog 15 #[(Value.pointer d_)] h R := calls_vc fine false Tryd.func15 (ann := A15) (args := [(Value.pointer d_)]) (by kernel_rfl) (Eq.mpr (by kernel_rfl) H)
/-- turnout/ckpt.Find -/
def A16 : Ann := (.seq .nil (.seq .nil (.seq (.seq .nil (.cond (.seq .nil .nil) .nil)) (.seq (.seq .nil (.cond (.seq .nil .nil) .nil)) (.seq .nil (.seq .nil (.seq (.seq .nil (.block (.loop [(8, .slice), (9, (.int .i64))] (.seq (.seq .nil (.cond .nil .nil)) (.seq (.block (.seq .nil (.seq (.seq .nil (.cond (.seq .nil .nil) .nil)) (.seq (.seq (.join 85) (.cond (.seq .nil .nil) .nil)) .nil)))) .nil))))) (.seq .nil (.seq (.seq (.drawLast [4]) (.cond (.seq .nil .nil) .nil)) (.seq .nil .nil))))))))))
theorem V16 (d_ : Option Addr) (h : Hp) (R : Ending → Hp → Prop) (H :
  ∀ b_ hp_, b_ = Array.size h → hp_ = Array.push h (.cells (zeros Tryd.prog 26) 26) → (∃ i z, Tryd.prog.info? 26 = some i ∧ i.zero = some z) ∧
  CallsH Tryd.prog 38 #[(Value.pointer d_)] hp_ fun en_ hp_1 =>
  ∃ (x15r0p_ : Option Addr) (x15r0n_ x15r0c_ : Nat), ∃ x15r1_ : Int, en_ = .returned (Value.tuple #[(Value.slice x15r0p_ x15r0n_ x15r0c_), (Value.int .i64 x15r1_)]) ∧
  (((decide (x15r1_ ≠ (0 : Int))) = true →
    List.length [(Value.int .i64 (0 : Int)), (Value.int .u64 (0 : Int)), (Value.int .u64 (0 : Int)), (Value.int .i64 (0 : Int)), (Value.int .i64 (0 : Int))] = 5 ∧ (∀ c ∈ [(Value.int .i64 (0 : Int)), (Value.int .u64 (0 : Int)), (Value.int .u64 (0 : Int)), (Value.int .i64 (0 : Int)), (Value.int .i64 (0 : Int))], c.oneCell' = true) ∧ wrAt hp_1 b_ 0 5 ∧ ∀ hp_2, hp_2 = setsH hp_1 b_ 0 [(Value.int .i64 (0 : Int)), (Value.int .u64 (0 : Int)), (Value.int .u64 (0 : Int)), (Value.int .i64 (0 : Int)), (Value.int .i64 (0 : Int))] →
    ∃ resf0_ : Int, ∃ resf1_ : Int, ∃ resf2_ : Int, ∃ resf3_ : Int, ∃ resf4_ : Int, cellsAt hp_2 b_ 0 [(Value.int .i64 resf0_), (Value.int .u64 resf1_), (Value.int .u64 resf2_), (Value.int .i64 resf3_), (Value.int .i64 resf4_)] ∧
    R (.returned (Value.tuple #[(Value.agg #[(Value.int .i64 resf0_), (Value.int .u64 resf1_), (Value.int .u64 resf2_), (Value.int .i64 resf3_), (Value.int .i64 resf4_)]), (Value.string (⟨#[]⟩ : ByteArray)), (Value.int .i64 x15r1_)])) hp_2) ∧
   ((decide (x15r1_ ≠ (0 : Int))) = false →
    (((decide (((x15r0n_ : Nat) : Int) = (0 : Int))) = true →
      List.length [(Value.int .i64 (0 : Int)), (Value.int .u64 (0 : Int)), (Value.int .u64 (0 : Int)), (Value.int .i64 (0 : Int)), (Value.int .i64 (0 : Int))] = 5 ∧ (∀ c ∈ [(Value.int .i64 (0 : Int)), (Value.int .u64 (0 : Int)), (Value.int .u64 (0 : Int)), (Value.int .i64 (0 : Int)), (Value.int .i64 (0 : Int))], c.oneCell' = true) ∧ wrAt hp_1 b_ 0 5 ∧ ∀ hp_3, hp_3 = setsH hp_1 b_ 0 [(Value.int .i64 (0 : Int)), (Value.int .u64 (0 : Int)), (Value.int .u64 (0 : Int)), (Value.int .i64 (0 : Int)), (Value.int .i64 (0 : Int))] →
      ∃ resf0_1 : Int, ∃ resf1_1 : Int, ∃ resf2_1 : Int, ∃ resf3_1 : Int, ∃ resf4_1 : Int, cellsAt hp_3 b_ 0 [(Value.int .i64 resf0_1), (Value.int .u64 resf1_1), (Value.int .u64 resf2_1), (Value.int .i64 resf3_1), (Value.int .i64 resf4_1)] ∧
      R (.returned (Value.tuple #[(Value.agg #[(Value.int .i64 resf0_1), (Value.int .u64 resf1_1), (Value.int .u64 resf2_1), (Value.int .i64 resf3_1), (Value.int .i64 resf4_1)]), (Value.string (⟨#[]⟩ : ByteArray)), (Value.int .i64 (200 : Int))])) hp_3) ∧
     ((decide (((x15r0n_ : Nat) : Int) = (0 : Int))) = false →
      ∃ b_1 o_, x15r0p_ = some ⟨b_1, o_, none⟩ ∧ 0 ≤ (0 : Int) ∧ (0 : Int) < (x15r0n_ : Int) ∧
      ∃ x28f0_ : Int, ∃ x28f1_ : Int, ∃ x28f2_ : Int, ∃ x28f3_ : Int, ∃ x28f4_ : Int, ∃ x28f5_ : Int, ∃ x28f6_ : Int, cellsAt hp_1 b_1 (o_ + Int.toNat (0 : Int) * 7) [(Value.int .i64 x28f0_), (Value.int .u64 x28f1_), (Value.int .u64 x28f2_), (Value.int .i64 x28f3_), (Value.int .i64 x28f4_), (Value.int .i64 x28f5_), (Value.int .u32 x28f6_)] ∧
      ∀ b_2 hp_4, b_2 = Array.size hp_1 → hp_4 = Array.push hp_1 (.cells (zeros Tryd.prog 81) 81) → (∃ i z, Tryd.prog.info? 81 = some i ∧ i.zero = some z) ∧
      List.length [(Value.int .i64 x28f0_), (Value.int .u64 x28f1_), (Value.int .u64 x28f2_), (Value.int .i64 x28f3_), (Value.int .i64 x28f4_), (Value.int .i64 x28f5_), (Value.int .u32 x28f6_)] = 7 ∧ (∀ c ∈ [(Value.int .i64 x28f0_), (Value.int .u64 x28f1_), (Value.int .u64 x28f2_), (Value.int .i64 x28f3_), (Value.int .i64 x28f4_), (Value.int .i64 x28f5_), (Value.int .u32 x28f6_)], c.oneCell' = true) ∧ wrAt hp_4 b_2 0 7 ∧ ∀ hp_5, hp_5 = setsH hp_4 b_2 0 [(Value.int .i64 x28f0_), (Value.int .u64 x28f1_), (Value.int .u64 x28f2_), (Value.int .i64 x28f3_), (Value.int .i64 x28f4_), (Value.int .i64 x28f5_), (Value.int .u32 x28f6_)] →
      ∃ x30_ : Int, cellsAt hp_5 b_2 (0 + 5) [(Value.int .i64 x30_)] ∧
      SemH Tryd.prog (Instr.makeSlice 82 (Value.int .i64 (0 : Int)) (Value.int .i64 x30_)) hp_5 fun v_ hp_6 =>
      ∃ (x31p_ : Option Addr) (x31n_ x31c_ : Nat), v_ = (Value.slice x31p_ x31n_ x31c_) ∧
      ∃ (Iv_ : List Value → Hp → Prop) (m_ : List Value → Hp → Nat), Iv_ [(Value.slice x31p_ x31n_ x31c_), (Value.int .i64 (0 : Int))] hp_6 ∧
      (∀ (bp_ : Option Addr) (bn_ bc_ : Nat) (k_ : Int) hp_7, Iv_ [(Value.slice bp_ bn_ bc_), (Value.int .i64 k_)] hp_7 →
       ∃ x35_ : Int, cellsAt hp_7 b_2 (0 + 5) [(Value.int .i64 x35_)] ∧
       (((decide (((bn_ : Nat) : Int) < x35_)) = true →
         ∃ x42f0_ : Int, ∃ x42f1_ : Int, ∃ x42f2_ : Int, ∃ x42f3_ : Int, ∃ x42f4_ : Int, cellsAt hp_7 b_2 (0 + 0) [(Value.int .i64 x42f0_), (Value.int .u64 x42f1_), (Value.int .u64 x42f2_), (Value.int .i64 x42f3_), (Value.int .i64 x42f4_)] ∧
         CallsH Tryd.prog 35 #[(Value.agg #[(Value.int .i64 x42f0_), (Value.int .u64 x42f1_), (Value.int .u64 x42f2_), (Value.int .i64 x42f3_), (Value.int .i64 x42f4_)])] hp_7 fun en_1 hp_8 =>
         ∃ x43_ : Int, en_1 = .returned (Value.int .i64 x43_) ∧
         ∃ x45_, IntKind.i64.wrap (x43_ + k_) = x45_ ∧
         CallsH Tryd.prog 39 #[(Value.pointer d_), (Value.int .i64 x45_)] hp_8 fun en_2 hp_9 =>
         ∃ x46r0f0_ : Int, ∃ x46r0f1_ : Int, ∃ x46r0f2_ : Int, ∃ x46r0f3_ : ByteArray, ∃ x46r1_ : Int, en_2 = .returned (Value.tuple #[(Value.agg #[(Value.int .i64 x46r0f0_), (Value.int .u64 x46r0f1_), (Value.int .i64 x46r0f2_), (Value.string x46r0f3_)]), (Value.int .i64 x46r1_)]) ∧
         ∀ b_3 hp_10, b_3 = Array.size hp_9 → hp_10 = Array.push hp_9 (.cells (zeros Tryd.prog 74) 74) → (∃ i z, Tryd.prog.info? 74 = some i ∧ i.zero = some z) ∧
         List.length [(Value.int .i64 x46r0f0_), (Value.int .u64 x46r0f1_), (Value.int .i64 x46r0f2_), (Value.string x46r0f3_)] = 4 ∧ (∀ c ∈ [(Value.int .i64 x46r0f0_), (Value.int .u64 x46r0f1_), (Value.int .i64 x46r0f2_), (Value.string x46r0f3_)], c.oneCell' = true) ∧ wrAt hp_10 b_3 0 4 ∧ ∀ hp_11, hp_11 = setsH hp_10 b_3 0 [(Value.int .i64 x46r0f0_), (Value.int .u64 x46r0f1_), (Value.int .i64 x46r0f2_), (Value.string x46r0f3_)] →
         (((decide (x46r1_ = (40 : Int))) = true →
           List.length [(Value.int .i64 (0 : Int)), (Value.int .u64 (0 : Int)), (Value.int .u64 (0 : Int)), (Value.int .i64 (0 : Int)), (Value.int .i64 (0 : Int))] = 5 ∧ (∀ c ∈ [(Value.int .i64 (0 : Int)), (Value.int .u64 (0 : Int)), (Value.int .u64 (0 : Int)), (Value.int .i64 (0 : Int)), (Value.int .i64 (0 : Int))], c.oneCell' = true) ∧ wrAt hp_11 b_ 0 5 ∧ ∀ hp_12, hp_12 = setsH hp_11 b_ 0 [(Value.int .i64 (0 : Int)), (Value.int .u64 (0 : Int)), (Value.int .u64 (0 : Int)), (Value.int .i64 (0 : Int)), (Value.int .i64 (0 : Int))] →
           ∃ resf0_2 : Int, ∃ resf1_2 : Int, ∃ resf2_2 : Int, ∃ resf3_2 : Int, ∃ resf4_2 : Int, cellsAt hp_12 b_ 0 [(Value.int .i64 resf0_2), (Value.int .u64 resf1_2), (Value.int .u64 resf2_2), (Value.int .i64 resf3_2), (Value.int .i64 resf4_2)] ∧
           R (.returned (Value.tuple #[(Value.agg #[(Value.int .i64 resf0_2), (Value.int .u64 resf1_2), (Value.int .u64 resf2_2), (Value.int .i64 resf3_2), (Value.int .i64 resf4_2)]), (Value.string (⟨#[]⟩ : ByteArray)), (Value.int .i64 x46r1_)])) hp_12) ∧
          ((decide (x46r1_ = (40 : Int))) = false →
           ∃ B_ : Bool, ((((decide (x46r1_ ≠ (0 : Int))) = true →
              hp_11 = hp_11 ∧ B_ = true) ∧
             ((decide (x46r1_ ≠ (0 : Int))) = false →
              ∃ x57_ : Int, cellsAt hp_11 b_3 (0 + 0) [(Value.int .i64 x57_)] ∧
              (((decide (x57_ ≠ (2 : Int))) = true →
                hp_11 = hp_11 ∧ B_ = true) ∧
               ((decide (x57_ ≠ (2 : Int))) = false →
                ∃ x62_ : Int, cellsAt hp_11 b_3 (0 + 1) [(Value.int .u64 x62_)] ∧
                ∃ x65_ : Int, cellsAt hp_11 b_2 ((0 + 0) + 1) [(Value.int .u64 x65_)] ∧
                (((decide (x62_ ≠ x65_)) = true →
                  hp_11 = hp_11 ∧ B_ = true) ∧
                 ((decide (x62_ ≠ x65_)) = false →
                  ∃ x70_ : Int, cellsAt hp_11 b_3 (0 + 2) [(Value.int .i64 x70_)] ∧
                  (((decide (x70_ ≠ k_)) = true →
                    hp_11 = hp_11 ∧ B_ = true) ∧
                   ((decide (x70_ ≠ k_)) = false →
                    ∃ x76_ : ByteArray, cellsAt hp_11 b_3 (0 + 3) [(Value.string x76_)] ∧
                    ∃ x79_ : Int, cellsAt hp_11 b_2 (0 + 5) [(Value.int .i64 x79_)] ∧
                    ∃ x82_, IntKind.i64.wrap (x79_ - ((bn_ : Nat) : Int)) = x82_ ∧
                    hp_11 = hp_11 ∧ B_ = (decide ((ByteArray.size x76_ : Int) ≠ (min x82_ (491 : Int))))))))))))) ∧
           ((B_ = true →
             List.length [(Value.int .i64 (0 : Int)), (Value.int .u64 (0 : Int)), (Value.int .u64 (0 : Int)), (Value.int .i64 (0 : Int)), (Value.int .i64 (0 : Int))] = 5 ∧ (∀ c ∈ [(Value.int .i64 (0 : Int)), (Value.int .u64 (0 : Int)), (Value.int .u64 (0 : Int)), (Value.int .i64 (0 : Int)), (Value.int .i64 (0 : Int))], c.oneCell' = true) ∧ wrAt hp_11 b_ 0 5 ∧ ∀ hp_13, hp_13 = setsH hp_11 b_ 0 [(Value.int .i64 (0 : Int)), (Value.int .u64 (0 : Int)), (Value.int .u64 (0 : Int)), (Value.int .i64 (0 : Int)), (Value.int .i64 (0 : Int))] →
             ∃ resf0_3 : Int, ∃ resf1_3 : Int, ∃ resf2_3 : Int, ∃ resf3_3 : Int, ∃ resf4_3 : Int, cellsAt hp_13 b_ 0 [(Value.int .i64 resf0_3), (Value.int .u64 resf1_3), (Value.int .u64 resf2_3), (Value.int .i64 resf3_3), (Value.int .i64 resf4_3)] ∧
             R (.returned (Value.tuple #[(Value.agg #[(Value.int .i64 resf0_3), (Value.int .u64 resf1_3), (Value.int .u64 resf2_3), (Value.int .i64 resf3_3), (Value.int .i64 resf4_3)]), (Value.string (⟨#[]⟩ : ByteArray)), (Value.int .i64 (180 : Int))])) hp_13) ∧
            (B_ = false →
             ∃ x89_ : ByteArray, cellsAt hp_11 b_3 (0 + 3) [(Value.string x89_)] ∧
             SemH Tryd.prog (Builtin.append_ #[82, 9] 82 #[(Value.slice bp_ bn_ bc_), (Value.string x89_)]) hp_11 fun v_1 hp_14 =>
             ∃ (x90p_ : Option Addr) (x90n_ x90c_ : Nat), v_1 = (Value.slice x90p_ x90n_ x90c_) ∧
             ∃ x38_, IntKind.i64.wrap (k_ + (1 : Int)) = x38_ ∧
             (Iv_ [(Value.slice x90p_ x90n_ x90c_), (Value.int .i64 x38_)] hp_14 ∧ m_ [(Value.slice x90p_ x90n_ x90c_), (Value.int .i64 x38_)] hp_14 < m_ [(Value.slice bp_ bn_ bc_), (Value.int .i64 k_)] hp_7)))))) ∧
        ((decide (((bn_ : Nat) : Int) < x35_)) = false →
         SemH Tryd.prog (convert 82 9 (Value.slice bp_ bn_ bc_)) hp_7 fun v_2 hp_15 =>
         ∃ x92_ : ByteArray, v_2 = (Value.string x92_) ∧
         ∃ Cv_ : Hp → Prop, Cv_ hp_15 ∧
         SemH Tryd.prog (Instr.buildSlice 86 1 #[(0, (Value.string x92_))]) hp_15 fun v_3 hp_16 =>
         ∃ (x94p_ : Option Addr) (x94n_ x94c_ : Nat), v_3 = (Value.slice x94p_ x94n_ x94c_) ∧
         Cv_ hp_16 ∧
         CallsH Tryd.prog 40 #[(Value.slice x94p_ x94n_ x94c_)] hp_16 fun en_3 hp_17 =>
         ∃ x95_ : Int, en_3 = .returned (Value.int .u32 x95_) ∧
         Cv_ hp_17 ∧
         ∃ x97_ : Int, (∀ h', Cv_ h' → cellsAt h' b_2 (0 + 6) [(Value.int .u32 x97_)]) ∧
         (((decide (x95_ ≠ x97_)) = true →
           List.length [(Value.int .i64 (0 : Int)), (Value.int .u64 (0 : Int)), (Value.int .u64 (0 : Int)), (Value.int .i64 (0 : Int)), (Value.int .i64 (0 : Int))] = 5 ∧ (∀ c ∈ [(Value.int .i64 (0 : Int)), (Value.int .u64 (0 : Int)), (Value.int .u64 (0 : Int)), (Value.int .i64 (0 : Int)), (Value.int .i64 (0 : Int))], c.oneCell' = true) ∧ wrAt hp_17 b_ 0 5 ∧ ∀ hp_18, hp_18 = setsH hp_17 b_ 0 [(Value.int .i64 (0 : Int)), (Value.int .u64 (0 : Int)), (Value.int .u64 (0 : Int)), (Value.int .i64 (0 : Int)), (Value.int .i64 (0 : Int))] →
           ∃ resf0_4 : Int, ∃ resf1_4 : Int, ∃ resf2_4 : Int, ∃ resf3_4 : Int, ∃ resf4_4 : Int, cellsAt hp_18 b_ 0 [(Value.int .i64 resf0_4), (Value.int .u64 resf1_4), (Value.int .u64 resf2_4), (Value.int .i64 resf3_4), (Value.int .i64 resf4_4)] ∧
           R (.returned (Value.tuple #[(Value.agg #[(Value.int .i64 resf0_4), (Value.int .u64 resf1_4), (Value.int .u64 resf2_4), (Value.int .i64 resf3_4), (Value.int .i64 resf4_4)]), (Value.string (⟨#[]⟩ : ByteArray)), (Value.int .i64 (180 : Int))])) hp_18) ∧
          ((decide (x95_ ≠ x97_)) = false →
           ∃ x101f0_ : Int, ∃ x101f1_ : Int, ∃ x101f2_ : Int, ∃ x101f3_ : Int, ∃ x101f4_ : Int, cellsAt hp_17 b_2 (0 + 0) [(Value.int .i64 x101f0_), (Value.int .u64 x101f1_), (Value.int .u64 x101f2_), (Value.int .i64 x101f3_), (Value.int .i64 x101f4_)] ∧
           List.length [(Value.int .i64 x101f0_), (Value.int .u64 x101f1_), (Value.int .u64 x101f2_), (Value.int .i64 x101f3_), (Value.int .i64 x101f4_)] = 5 ∧ (∀ c ∈ [(Value.int .i64 x101f0_), (Value.int .u64 x101f1_), (Value.int .u64 x101f2_), (Value.int .i64 x101f3_), (Value.int .i64 x101f4_)], c.oneCell' = true) ∧ wrAt hp_17 b_ 0 5 ∧ ∀ hp_19, hp_19 = setsH hp_17 b_ 0 [(Value.int .i64 x101f0_), (Value.int .u64 x101f1_), (Value.int .u64 x101f2_), (Value.int .i64 x101f3_), (Value.int .i64 x101f4_)] →
           ∃ resf0_5 : Int, ∃ resf1_5 : Int, ∃ resf2_5 : Int, ∃ resf3_5 : Int, ∃ resf4_5 : Int, cellsAt hp_19 b_ 0 [(Value.int .i64 resf0_5), (Value.int .u64 resf1_5), (Value.int .u64 resf2_5), (Value.int .i64 resf3_5), (Value.int .i64 resf4_5)] ∧
           R (.returned (Value.tuple #[(Value.agg #[(Value.int .i64 resf0_5), (Value.int .u64 resf1_5), (Value.int .u64 resf2_5), (Value.int .i64 resf3_5), (Value.int .i64 resf4_5)]), (Value.string x92_), (Value.int .i64 (0 : Int))])) hp_19)))))))))) :
  CallsH Tryd.prog 16 #[(Value.pointer d_)] h R := calls_vc fine false Tryd.func16 (ann := A16) (args := [(Value.pointer d_)]) (by kernel_rfl) (Eq.mpr (by kernel_rfl) H)
/-- turnout/turnoutlaw20.pick -/
def A17 : Ann := (.seq .nil (.seq (.seq .nil (.cond .nil .nil)) (.seq .nil .nil)))
theorem V17 (c_ : Int) (n_ : Int) (h : Hp) (R : Ending → Hp → Prop) (H :
  (((decide (c_ < (0 : Int))) = true →
    ∃ x8_, IntKind.i64.wrap (c_ + (1 : Int)) = x8_ ∧
    ∃ x9_, IntKind.i64.wrap (0 - x8_) = x9_ ∧
    n_ ≠ 0 ∧ ∃ x12_, Int.tmod x9_ n_ = x12_ ∧
    R (.returned (Value.int .i64 x12_)) h) ∧
   ((decide (c_ < (0 : Int))) = false →
    n_ ≠ 0 ∧ ∃ x12_1, Int.tmod c_ n_ = x12_1 ∧
    R (.returned (Value.int .i64 x12_1)) h))) :
  CallsH Tryd.prog 17 #[(Value.int .i64 c_), (Value.int .i64 n_)] h R := calls_vc fine false Tryd.func17 (ann := A17) (args := [(Value.int .i64 c_), (Value.int .i64 n_)]) (by kernel_rfl) (Eq.mpr (by kernel_rfl) H)
/-- turnout/disk.New -/
def A18 : Ann := (.seq .nil (.cut (.seq (.join 12) (.cond (.seq .nil .nil) .nil)) [] (.seq .nil (.seq .nil (.seq (.seq .nil (.block (.loop [(25, (.int .i64))] (.seq .nil (.seq (.cond .nil .nil) (.seq (.block (.seq .nil .nil)) .nil)))))) (.seq .nil .nil))))))
theorem V18 (sectors_ : Int) (h : Hp) (R : Ending → Hp → Prop) (H :
  ∃ Jv_ : List Value → Hp → Prop,
  (∃ B_ : Bool, ((((decide (sectors_ < (1 : Int))) = true →
      h = h ∧ B_ = true) ∧
     ((decide (sectors_ < (1 : Int))) = false →
      h = h ∧ B_ = (decide ((4096 : Int) < sectors_))))) ∧
   ((B_ = true →
     R (.returned (Value.tuple #[(Value.pointer none), (Value.int .i64 (1 : Int))])) h) ∧
    (B_ = false →
     Jv_ [] h))) ∧
  (∀  hp_, Jv_ [] hp_ →
   SemH Tryd.prog (Instr.makeSlice 82 (Value.int .i64 (512 : Int)) (Value.int .i64 (512 : Int))) hp_ fun v_ hp_1 =>
   ∃ (x13p_ : Option Addr) (x13n_ x13c_ : Nat), v_ = (Value.slice x13p_ x13n_ x13c_) ∧
   SemH Tryd.prog (convert 82 9 (Value.slice x13p_ x13n_ x13c_)) hp_1 fun v_1 hp_2 =>
   ∃ x14_ : ByteArray, v_1 = (Value.string x14_) ∧
   SemH Tryd.prog (Instr.makeSlice 86 (Value.int .i64 sectors_) (Value.int .i64 sectors_)) hp_2 fun v_2 hp_3 =>
   ∃ (x16p_ : Option Addr) (x16n_ x16c_ : Nat), v_2 = (Value.slice x16p_ x16n_ x16c_) ∧
   ∀ r_ hp_4, r_ = Array.size hp_3 → hp_4 = Array.push hp_3 (.map #[] 0) →
   ∀ b_ hp_5, b_ = Array.size hp_4 → hp_5 = Array.push hp_4 (.cells #[(Value.slice x16p_ x16n_ x16c_), (Value.map (some r_)), (Value.slice none 0 0), (Value.slice none 0 0), (Value.bool false), (Value.int .i64 (0 : Int)), (Value.int .i64 (0 : Int)), (Value.int .i64 (0 : Int)), (Value.int .i64 (0 : Int))] 91) →
   ∃ (x23p_ : Option Addr) (x23n_ x23c_ : Nat), cellsAt hp_5 b_ (0 + 0) [(Value.slice x23p_ x23n_ x23c_)] ∧
   ∃ (Iv_ : List Value → Hp → Prop) (m_ : List Value → Hp → Nat), Iv_ [(Value.int .i64 (0 : Int))] hp_5 ∧
   (∀ (x25_ : Int) hp_6, Iv_ [(Value.int .i64 x25_)] hp_6 →
    (((decide (x25_ < ((x23n_ : Nat) : Int))) = true →
      ∃ (x31p_ : Option Addr) (x31n_ x31c_ : Nat), cellsAt hp_6 b_ (0 + 0) [(Value.slice x31p_ x31n_ x31c_)] ∧
      ∃ b_1 o_, x31p_ = some ⟨b_1, o_, none⟩ ∧ 0 ≤ x25_ ∧ x25_ < (x31n_ : Int) ∧
      Value.oneCell' (Value.string x14_) = true ∧ wrAt hp_6 b_1 (o_ + Int.toNat x25_ * 1) 1 ∧ ∀ hp_7, hp_7 = setsH hp_6 b_1 (o_ + Int.toNat x25_ * 1) [(Value.string x14_)] →
      ∃ x35_, IntKind.i64.wrap (x25_ + (1 : Int)) = x35_ ∧
      (Iv_ [(Value.int .i64 x35_)] hp_7 ∧ m_ [(Value.int .i64 x35_)] hp_7 < m_ [(Value.int .i64 x25_)] hp_6)) ∧
     ((decide (x25_ < ((x23n_ : Nat) : Int))) = false →
      R (.returned (Value.tuple #[(Value.pointer (some ⟨b_, 0, none⟩)), (Value.int .i64 (0 : Int))])) hp_6))))) :
  CallsH Tryd.prog 18 #[(Value.int .i64 sectors_)] h R := calls_vc fine false Tryd.func18 (ann := A18) (args := [(Value.int .i64 sectors_)]) (by kernel_rfl) (Eq.mpr (by kernel_rfl) H)
/-- turnout/turnoutlaw20.long -/
def A19 : Ann := (.seq .nil (.seq .nil (.seq (.seq .nil (.block (.loop [(6, (.int .i64))] (.seq (.seq .nil (.cond .nil .nil)) (.seq (.block .nil) .nil))))) (.seq .nil .nil))))
theorem V19 (n_ : Int) (which_ : Int) (h : Hp) (R : Ending → Hp → Prop) (H :
  SemH Tryd.prog (Instr.makeSlice 82 (Value.int .i64 n_) (Value.int .i64 n_)) h fun v_ hp_ =>
  ∃ (x8p_ : Option Addr) (x8n_ x8c_ : Nat), v_ = (Value.slice x8p_ x8n_ x8c_) ∧
  ∃ (Iv_ : List Value → Hp → Prop) (m_ : List Value → Hp → Nat), Iv_ [(Value.int .i64 (0 : Int))] hp_ ∧
  (∀ (i_ : Int) hp_1, Iv_ [(Value.int .i64 i_)] hp_1 →
   (((decide (i_ < n_)) = true →
     (5 : Int) ≠ 0 ∧ ∃ x18_, IntKind.i64.wrap (Int.tdiv i_ (5 : Int)) = x18_ ∧
     ∃ x19_, IntKind.i64.wrap (which_ + x18_) = x19_ ∧
     ∃ x20_, IntKind.u8.wrap x19_ = x20_ ∧
     ∃ b_ o_, x8p_ = some ⟨b_, o_, none⟩ ∧ 0 ≤ i_ ∧ i_ < (x8n_ : Int) ∧
     Value.oneCell' (Value.int .u8 x20_) = true ∧ wrAt hp_1 b_ (o_ + Int.toNat i_ * 1) 1 ∧ ∀ hp_2, hp_2 = setsH hp_1 b_ (o_ + Int.toNat i_ * 1) [(Value.int .u8 x20_)] →
     ∃ x13_, IntKind.i64.wrap (i_ + (1 : Int)) = x13_ ∧
     (Iv_ [(Value.int .i64 x13_)] hp_2 ∧ m_ [(Value.int .i64 x13_)] hp_2 < m_ [(Value.int .i64 i_)] hp_1)) ∧
    ((decide (i_ < n_)) = false →
     SemH Tryd.prog (convert 82 9 (Value.slice x8p_ x8n_ x8c_)) hp_1 fun v_1 hp_3 =>
     ∃ x23_ : ByteArray, v_1 = (Value.string x23_) ∧
     R (.returned (Value.string x23_)) hp_3)))) :
  CallsH Tryd.prog 19 #[(Value.int .i64 n_), (Value.int .i64 which_)] h R := calls_vc fine false Tryd.func19 (ann := A19) (args := [(Value.int .i64 n_), (Value.int .i64 which_)]) (by kernel_rfl) (Eq.mpr (by kernel_rfl) H)
/-- (*turnout/disk.Disk).Image -/
def A20 : Ann := (.seq .nil (.seq (.seq .nil (.cond (.seq .nil .nil) .nil)) (.seq .nil (.seq (.seq .nil (.block (.loop [(3, .slice), (20, (.int .i64))] (.seq .nil (.seq (.cond .nil .nil) (.seq (.block (.seq .nil .nil)) .nil)))))) (.seq .nil .nil)))))
theorem V20 (d_ : Option Addr) (h : Hp) (R : Ending → Hp → Prop) (H :
  ∃ x7_, EqV Tryd.prog 43 (Value.pointer d_) (Value.pointer none) x7_ ∧
  ((x7_ = true →
    R (.returned (Value.string (⟨#[]⟩ : ByteArray))) h) ∧
   (x7_ = false →
    ∃ b_ o_, d_ = some ⟨b_, o_, none⟩ ∧
    ∃ (x11p_ : Option Addr) (x11n_ x11c_ : Nat), cellsAt h b_ (o_ + 0) [(Value.slice x11p_ x11n_ x11c_)] ∧
    ∃ x13_, IntKind.i64.wrap (((x11n_ : Nat) : Int) * (512 : Int)) = x13_ ∧
    SemH Tryd.prog (Instr.makeSlice 82 (Value.int .i64 (0 : Int)) (Value.int .i64 x13_)) h fun v_ hp_ =>
    ∃ (x14p_ : Option Addr) (x14n_ x14c_ : Nat), v_ = (Value.slice x14p_ x14n_ x14c_) ∧
    ∃ b_1 o_1, d_ = some ⟨b_1, o_1, none⟩ ∧
    ∃ (x18p_ : Option Addr) (x18n_ x18c_ : Nat), cellsAt hp_ b_1 (o_1 + 0) [(Value.slice x18p_ x18n_ x18c_)] ∧
    ∃ (Iv_ : List Value → Hp → Prop) (m_ : List Value → Hp → Nat), Iv_ [(Value.slice x14p_ x14n_ x14c_), (Value.int .i64 (0 : Int))] hp_ ∧
    (∀ (bp_ : Option Addr) (bn_ bc_ : Nat) (x20_ : Int) hp_1, Iv_ [(Value.slice bp_ bn_ bc_), (Value.int .i64 x20_)] hp_1 →
     (((decide (x20_ < ((x18n_ : Nat) : Int))) = true →
       ∃ b_2 o_2, x18p_ = some ⟨b_2, o_2, none⟩ ∧ 0 ≤ x20_ ∧ x20_ < (x18n_ : Int) ∧
       ∃ x23_ : ByteArray, cellsAt hp_1 b_2 (o_2 + Int.toNat x20_ * 1) [(Value.string x23_)] ∧
       SemH Tryd.prog (Builtin.append_ #[82, 9] 82 #[(Value.slice bp_ bn_ bc_), (Value.string x23_)]) hp_1 fun v_1 hp_2 =>
       ∃ (x26p_ : Option Addr) (x26n_ x26c_ : Nat), v_1 = (Value.slice x26p_ x26n_ x26c_) ∧
       ∃ x27_, IntKind.i64.wrap (x20_ + (1 : Int)) = x27_ ∧
       (Iv_ [(Value.slice x26p_ x26n_ x26c_), (Value.int .i64 x27_)] hp_2 ∧ m_ [(Value.slice x26p_ x26n_ x26c_), (Value.int .i64 x27_)] hp_2 < m_ [(Value.slice bp_ bn_ bc_), (Value.int .i64 x20_)] hp_1)) ∧
      ((decide (x20_ < ((x18n_ : Nat) : Int))) = false →
       SemH Tryd.prog (convert 82 9 (Value.slice bp_ bn_ bc_)) hp_1 fun v_2 hp_3 =>
       ∃ x29_ : ByteArray, v_2 = (Value.string x29_) ∧
       R (.returned (Value.string x29_)) hp_3)))))) :
  CallsH Tryd.prog 20 #[(Value.pointer d_)] h R := calls_vc fine false Tryd.func20 (ann := A20) (args := [(Value.pointer d_)]) (by kernel_rfl) (Eq.mpr (by kernel_rfl) H)
/-- (*turnout/disk.Disk).Cut -/
def A21 : Ann := (.seq (.seq (.join 11) (.cond .nil .nil)) .nil)
theorem V21 (d_ : Option Addr) (steps_ : Int) (h : Hp) (R : Ending → Hp → Prop) (H :
  ∃ B_ : Bool, (∃ x5_, EqV Tryd.prog 43 (Value.pointer d_) (Value.pointer none) x5_ ∧
   ((x5_ = true →
     h = h ∧ B_ = true) ∧
    (x5_ = false →
     ∃ b_ o_, d_ = some ⟨b_, o_, none⟩ ∧
     ∃ x10_ : Bool, cellsAt h b_ (o_ + 4) [(Value.bool x10_)] ∧
     h = h ∧ B_ = x10_))) ∧
  ((B_ = true →
    R (.returned (Value.tuple #[])) h) ∧
   (B_ = false →
    ∃ b_1 o_1, d_ = some ⟨b_1, o_1, none⟩ ∧
    Value.oneCell' (Value.int .i64 (max steps_ (0 : Int))) = true ∧ wrAt h b_1 (o_1 + 5) 1 ∧ ∀ hp_, hp_ = setsH h b_1 (o_1 + 5) [(Value.int .i64 (max steps_ (0 : Int)))] →
    R (.returned (Value.tuple #[])) hp_))) :
  CallsH Tryd.prog 21 #[(Value.pointer d_), (Value.int .i64 steps_)] h R := calls_vc fine false Tryd.func21 (ann := A21) (args := [(Value.pointer d_), (Value.int .i64 steps_)]) (by kernel_rfl) (Eq.mpr (by kernel_rfl) H)
/-- (*turnout/disk.Disk).Crash -/
def A22 : Ann := (.seq (.seq .nil (.cond .nil .nil)) (.cut (.seq .nil (.block (.loop [(13, (.int .i64))] (.seq .nil (.seq (.cond .nil .nil) (.seq (.block (.seq .nil (.seq (.seq .nil (.cond .nil .nil)) (.drawLast [4])))) .nil)))))) [] (.seq .nil (.seq .nil .nil))))
theorem V22 (d_ : Option Addr) (fatesp_ : Option Addr) (fatesn_ fatesc_ : Nat) (h : Hp) (R : Ending → Hp → Prop) (H :
  ∃ x7_, EqV Tryd.prog 43 (Value.pointer d_) (Value.pointer none) x7_ ∧
  ((x7_ = true →
    R (.returned (Value.tuple #[])) h) ∧
   (x7_ = false →
    ∃ Jv_ : List Value → Hp → Prop,
    (∃ b_ o_, d_ = some ⟨b_, o_, none⟩ ∧
     ∃ (x11p_ : Option Addr) (x11n_ x11c_ : Nat), cellsAt h b_ (o_ + 3) [(Value.slice x11p_ x11n_ x11c_)] ∧
     ∃ (Iv_ : List Value → Hp → Prop) (m_ : List Value → Hp → Nat), Iv_ [(Value.int .i64 (0 : Int))] h ∧
     (∀ (x13_ : Int) hp_, Iv_ [(Value.int .i64 x13_)] hp_ →
      (((decide (x13_ < ((x11n_ : Nat) : Int))) = true →
        ∃ b_1 o_1, x11p_ = some ⟨b_1, o_1, none⟩ ∧ 0 ≤ x13_ ∧ x13_ < (x11n_ : Int) ∧
        ∃ x17_ : Value, cellsAt hp_ b_1 (o_1 + Int.toNat x13_ * 1) [x17_] ∧
        (((decide (((fatesn_ : Nat) : Int) ≤ x13_)) = true →
          Jv_ [] hp_) ∧
         ((decide (((fatesn_ : Nat) : Int) ≤ x13_)) = false →
          ∃ Cv_ : Hp → Prop, Cv_ hp_ ∧
          ∃ b_2 o_2, d_ = some ⟨b_2, o_2, none⟩ ∧
          ∃ (x26p_ : Option Addr) (x26n_ x26c_ : Nat), (∀ h', Cv_ h' → cellsAt h' b_2 (o_2 + 0) [(Value.slice x26p_ x26n_ x26c_)]) ∧
          ∃ b_3 o_3, fatesp_ = some ⟨b_3, o_3, none⟩ ∧ 0 ≤ x13_ ∧ x13_ < (fatesn_ : Int) ∧
          ∃ x30f0_ : Int, ∃ x30f1_ : Int, cellsAt hp_ b_3 (o_3 + Int.toNat x13_ * 2) [(Value.int .i64 x30f0_), (Value.int .i64 x30f1_)] ∧
          CallsH Tryd.prog 41 #[(Value.agg #[(Value.int .i64 x30f0_), (Value.int .i64 x30f1_)])] hp_ fun en_ hp_1 =>
          ∃ x31_ : Int, en_ = .returned (Value.int .i64 x31_) ∧
          Cv_ hp_1 ∧
          ∃ fn_ fst_ cap_, x17_ = Value.func (.func fn_) fst_ cap_ ∧ bodied Tryd.prog fn_ = true ∧
          CallsH Tryd.prog fn_ (fst_.toList ++ [(Value.slice x26p_ x26n_ x26c_), (Value.int .i64 x31_)] ++ cap_.toList).toArray hp_1 fun en_1 hp_2 =>
          en_1 = .returned (Value.tuple #[]) ∧
          ∃ x33_, IntKind.i64.wrap (x13_ + (1 : Int)) = x33_ ∧
          (Iv_ [(Value.int .i64 x33_)] hp_2 ∧ m_ [(Value.int .i64 x33_)] hp_2 < m_ [(Value.int .i64 x13_)] hp_)))) ∧
       ((decide (x13_ < ((x11n_ : Nat) : Int))) = false →
        Jv_ [] hp_)))) ∧
    (∀  hp_3, Jv_ [] hp_3 →
     CallsH Tryd.prog 42 #[(Value.pointer d_)] hp_3 fun en_2 hp_4 =>
     en_2 = .returned (Value.tuple #[]) ∧
     ∃ b_4 o_4, d_ = some ⟨b_4, o_4, none⟩ ∧
     Value.oneCell' (Value.bool false) = true ∧ wrAt hp_4 b_4 (o_4 + 4) 1 ∧ ∀ hp_5, hp_5 = setsH hp_4 b_4 (o_4 + 4) [(Value.bool false)] →
     ∃ b_5 o_5, d_ = some ⟨b_5, o_5, none⟩ ∧
     Value.oneCell' (Value.int .i64 (0 : Int)) = true ∧ wrAt hp_5 b_5 (o_5 + 5) 1 ∧ ∀ hp_6, hp_6 = setsH hp_5 b_5 (o_5 + 5) [(Value.int .i64 (0 : Int))] →
     R (.returned (Value.tuple #[])) hp_6)))) :
  CallsH Tryd.prog 22 #[(Value.pointer d_), (Value.slice fatesp_ fatesn_ fatesc_)] h R := calls_vc fine false Tryd.func22 (ann := A22) (args := [(Value.pointer d_), (Value.slice fatesp_ fatesn_ fatesc_)]) (by kernel_rfl) (Eq.mpr (by kernel_rfl) H)
/-- turnout/turnoutlaw20.same -/
def A23 : Ann := (.seq .nil (.seq (.seq .nil (.cond (.seq .nil .nil) .nil)) (.seq (.seq .nil (.block (.loop [(11, (.int .i64))] (.seq (.seq .nil (.cond .nil .nil)) (.seq (.block (.cut (.seq (.join 36) (.cond .nil .nil)) [] (.seq .nil (.cond (.seq .nil .nil) .nil)))) .nil))))) (.seq .nil .nil))))
theorem V23 (a_ : ByteArray) (b_ : ByteArray) (fromv_ : Int) (to_ : Int) (beside_ : Int) (h : Hp) (R : Ending → Hp → Prop) (H :
  (((decide ((ByteArray.size a_ : Int) ≠ (ByteArray.size b_ : Int))) = true →
    R (.returned (Value.bool false)) h) ∧
   ((decide ((ByteArray.size a_ : Int) ≠ (ByteArray.size b_ : Int))) = false →
    ∃ (Iv_ : List Value → Hp → Prop) (m_ : List Value → Hp → Nat), Iv_ [(Value.int .i64 (0 : Int))] h ∧
    (∀ (i_ : Int) hp_, Iv_ [(Value.int .i64 i_)] hp_ →
     ∃ x18_, IntKind.i64.wrap ((512 : Int) * i_) = x18_ ∧
     (((decide (x18_ < (ByteArray.size a_ : Int))) = true →
       ∃ Jv_ : List Value → Hp → Prop,
       (∃ B_ : Bool, ((((decide (fromv_ ≤ i_)) = true →
           (((decide (i_ < to_)) = true →
             hp_ = hp_ ∧ B_ = true) ∧
            ((decide (i_ < to_)) = false →
             hp_ = hp_ ∧ B_ = (decide (i_ = beside_))))) ∧
          ((decide (fromv_ ≤ i_)) = false →
           hp_ = hp_ ∧ B_ = (decide (i_ = beside_))))) ∧
        ((B_ = true →
          ∃ x23_, IntKind.i64.wrap (i_ + (1 : Int)) = x23_ ∧
          (Iv_ [(Value.int .i64 x23_)] hp_ ∧ m_ [(Value.int .i64 x23_)] hp_ < m_ [(Value.int .i64 i_)] hp_)) ∧
         (B_ = false →
          Jv_ [] hp_))) ∧
       (∀  hp_1, Jv_ [] hp_1 →
        ∃ x39_, IntKind.i64.wrap ((512 : Int) * i_) = x39_ ∧
        ∃ x41_, IntKind.i64.wrap ((512 : Int) * i_) = x41_ ∧
        ∃ x42_, IntKind.i64.wrap (x41_ + (512 : Int)) = x42_ ∧
        ∃ l_ : Nat, x39_ = (l_ : Int) ∧
        ∃ u_ : Nat, x42_ = (u_ : Int) ∧
        l_ ≤ u_ ∧ u_ ≤ ByteArray.size a_ ∧ ∃ x43_, ByteArray.extract a_ l_ u_ = x43_ ∧
        ∃ x46_, IntKind.i64.wrap ((512 : Int) * i_) = x46_ ∧
        ∃ x48_, IntKind.i64.wrap ((512 : Int) * i_) = x48_ ∧
        ∃ x49_, IntKind.i64.wrap (x48_ + (512 : Int)) = x49_ ∧
        ∃ l_1 : Nat, x46_ = (l_1 : Int) ∧
        ∃ u_1 : Nat, x49_ = (u_1 : Int) ∧
        l_1 ≤ u_1 ∧ u_1 ≤ ByteArray.size b_ ∧ ∃ x50_, ByteArray.extract b_ l_1 u_1 = x50_ ∧
        (((decide (x43_ ≠ x50_)) = true →
          R (.returned (Value.bool false)) hp_1) ∧
         ((decide (x43_ ≠ x50_)) = false →
          ∃ x23_1, IntKind.i64.wrap (i_ + (1 : Int)) = x23_1 ∧
          (Iv_ [(Value.int .i64 x23_1)] hp_1 ∧ m_ [(Value.int .i64 x23_1)] hp_1 < m_ [(Value.int .i64 i_)] hp_))))) ∧
      ((decide (x18_ < (ByteArray.size a_ : Int))) = false →
       R (.returned (Value.bool true)) hp_)))))) :
  CallsH Tryd.prog 23 #[(Value.string a_), (Value.string b_), (Value.int .i64 fromv_), (Value.int .i64 to_), (Value.int .i64 beside_)] h R := calls_vc fine false Tryd.func23 (ann := A23) (args := [(Value.string a_), (Value.string b_), (Value.int .i64 fromv_), (Value.int .i64 to_), (Value.int .i64 beside_)]) (by kernel_rfl) (Eq.mpr (by kernel_rfl) H)
/-- turnout/disk.Load -/
def A24 : Ann := (.seq .nil (.seq .nil (.seq (.seq .nil (.cond (.seq .nil .nil) .nil)) (.seq .nil (.seq (.seq .nil (.cond (.seq .nil .nil) .nil)) (.seq (.seq .nil (.block (.loop [(29, (.int .i64))] (.seq .nil (.seq (.cond .nil .nil) (.seq (.block (.seq .nil .nil)) .nil)))))) (.seq .nil .nil)))))))
theorem V24 (image_ : ByteArray) (h : Hp) (R : Ending → Hp → Prop) (H :
  (512 : Int) ≠ 0 ∧ ∃ x10_, IntKind.i64.wrap (Int.tdiv (ByteArray.size image_ : Int) (512 : Int)) = x10_ ∧
  ∃ x12_, IntKind.i64.wrap (x10_ * (512 : Int)) = x12_ ∧
  (((decide (x12_ ≠ (ByteArray.size image_ : Int))) = true →
    R (.returned (Value.tuple #[(Value.pointer none), (Value.int .i64 (1 : Int))])) h) ∧
   ((decide (x12_ ≠ (ByteArray.size image_ : Int))) = false →
    CallsH Tryd.prog 18 #[(Value.int .i64 x10_)] h fun en_ hp_ =>
    ∃ x18r0_ : Option Addr, ∃ x18r1_ : Int, en_ = .returned (Value.tuple #[(Value.pointer x18r0_), (Value.int .i64 x18r1_)]) ∧
    (((decide (x18r1_ ≠ (0 : Int))) = true →
      R (.returned (Value.tuple #[(Value.pointer none), (Value.int .i64 x18r1_)])) hp_) ∧
     ((decide (x18r1_ ≠ (0 : Int))) = false →
      ∃ b_ o_, x18r0_ = some ⟨b_, o_, none⟩ ∧
      ∃ (x27p_ : Option Addr) (x27n_ x27c_ : Nat), cellsAt hp_ b_ (o_ + 0) [(Value.slice x27p_ x27n_ x27c_)] ∧
      ∃ (Iv_ : List Value → Hp → Prop) (m_ : List Value → Hp → Nat), Iv_ [(Value.int .i64 (0 : Int))] hp_ ∧
      (∀ (x29_ : Int) hp_1, Iv_ [(Value.int .i64 x29_)] hp_1 →
       (((decide (x29_ < ((x27n_ : Nat) : Int))) = true →
         ∃ b_1 o_1, x18r0_ = some ⟨b_1, o_1, none⟩ ∧
         ∃ (x35p_ : Option Addr) (x35n_ x35c_ : Nat), cellsAt hp_1 b_1 (o_1 + 0) [(Value.slice x35p_ x35n_ x35c_)] ∧
         ∃ x39_, IntKind.i64.wrap (x29_ * (512 : Int)) = x39_ ∧
         ∃ x41_, IntKind.i64.wrap (x29_ + (1 : Int)) = x41_ ∧
         ∃ x42_, IntKind.i64.wrap (x41_ * (512 : Int)) = x42_ ∧
         ∃ l_ : Nat, x39_ = (l_ : Int) ∧
         ∃ u_ : Nat, x42_ = (u_ : Int) ∧
         l_ ≤ u_ ∧ u_ ≤ ByteArray.size image_ ∧ ∃ x43_, ByteArray.extract image_ l_ u_ = x43_ ∧
         ∃ b_2 o_2, x35p_ = some ⟨b_2, o_2, none⟩ ∧ 0 ≤ x29_ ∧ x29_ < (x35n_ : Int) ∧
         Value.oneCell' (Value.string x43_) = true ∧ wrAt hp_1 b_2 (o_2 + Int.toNat x29_ * 1) 1 ∧ ∀ hp_2, hp_2 = setsH hp_1 b_2 (o_2 + Int.toNat x29_ * 1) [(Value.string x43_)] →
         ∃ x45_, IntKind.i64.wrap (x29_ + (1 : Int)) = x45_ ∧
         (Iv_ [(Value.int .i64 x45_)] hp_2 ∧ m_ [(Value.int .i64 x45_)] hp_2 < m_ [(Value.int .i64 x29_)] hp_1)) ∧
        ((decide (x29_ < ((x27n_ : Nat) : Int))) = false →
         R (.returned (Value.tuple #[(Value.pointer x18r0_), (Value.int .i64 (0 : Int))])) hp_1)))))))) :
  CallsH Tryd.prog 24 #[(Value.string image_)] h R := calls_vc fine false Tryd.func24 (ann := A24) (args := [(Value.string image_)]) (by kernel_rfl) (Eq.mpr (by kernel_rfl) H)
/-- (*turnout/disk.Disk).Stats -/
def A25 : Ann := (.seq .nil (.seq (.seq .nil (.cond (.seq .nil .nil) .nil)) (.seq .nil .nil)))
theorem V25 (d_ : Option Addr) (h : Hp) (R : Ending → Hp → Prop) (H :
  ∀ b_ hp_, b_ = Array.size h → hp_ = Array.push h (.cells (zeros Tryd.prog 58) 58) → (∃ i z, Tryd.prog.info? 58 = some i ∧ i.zero = some z) ∧
  ∃ x4_, EqV Tryd.prog 43 (Value.pointer d_) (Value.pointer none) x4_ ∧
  ((x4_ = true →
    List.length [(Value.int .i64 (0 : Int)), (Value.int .i64 (0 : Int)), (Value.int .i64 (0 : Int))] = 3 ∧ (∀ c ∈ [(Value.int .i64 (0 : Int)), (Value.int .i64 (0 : Int)), (Value.int .i64 (0 : Int))], c.oneCell' = true) ∧ wrAt hp_ b_ 0 3 ∧ ∀ hp_1, hp_1 = setsH hp_ b_ 0 [(Value.int .i64 (0 : Int)), (Value.int .i64 (0 : Int)), (Value.int .i64 (0 : Int))] →
    ∃ resf0_ : Int, ∃ resf1_ : Int, ∃ resf2_ : Int, cellsAt hp_1 b_ 0 [(Value.int .i64 resf0_), (Value.int .i64 resf1_), (Value.int .i64 resf2_)] ∧
    R (.returned (Value.agg #[(Value.int .i64 resf0_), (Value.int .i64 resf1_), (Value.int .i64 resf2_)])) hp_1) ∧
   (x4_ = false →
    ∃ b_1 o_, d_ = some ⟨b_1, o_, none⟩ ∧
    ∃ x9f0_ : Int, ∃ x9f1_ : Int, ∃ x9f2_ : Int, cellsAt hp_ b_1 (o_ + 6) [(Value.int .i64 x9f0_), (Value.int .i64 x9f1_), (Value.int .i64 x9f2_)] ∧
    List.length [(Value.int .i64 x9f0_), (Value.int .i64 x9f1_), (Value.int .i64 x9f2_)] = 3 ∧ (∀ c ∈ [(Value.int .i64 x9f0_), (Value.int .i64 x9f1_), (Value.int .i64 x9f2_)], c.oneCell' = true) ∧ wrAt hp_ b_ 0 3 ∧ ∀ hp_2, hp_2 = setsH hp_ b_ 0 [(Value.int .i64 x9f0_), (Value.int .i64 x9f1_), (Value.int .i64 x9f2_)] →
    ∃ resf0_1 : Int, ∃ resf1_1 : Int, ∃ resf2_1 : Int, cellsAt hp_2 b_ 0 [(Value.int .i64 resf0_1), (Value.int .i64 resf1_1), (Value.int .i64 resf2_1)] ∧
    R (.returned (Value.agg #[(Value.int .i64 resf0_1), (Value.int .i64 resf1_1), (Value.int .i64 resf2_1)])) hp_2))) :
  CallsH Tryd.prog 25 #[(Value.pointer d_)] h R := calls_vc fine false Tryd.func25 (ann := A25) (args := [(Value.pointer d_)]) (by kernel_rfl) (Eq.mpr (by kernel_rfl) H)
/-- (*turnout/disk.Disk).Size -/
def A26 : Ann := (.seq .nil (.seq (.seq .nil (.cond (.seq .nil .nil) .nil)) (.seq .nil .nil)))
theorem V26 (d_ : Option Addr) (h : Hp) (R : Ending → Hp → Prop) (H :
  ∃ x4_, EqV Tryd.prog 43 (Value.pointer d_) (Value.pointer none) x4_ ∧
  ((x4_ = true →
    R (.returned (Value.int .i64 (0 : Int))) h) ∧
   (x4_ = false →
    ∃ b_ o_, d_ = some ⟨b_, o_, none⟩ ∧
    ∃ (x8p_ : Option Addr) (x8n_ x8c_ : Nat), cellsAt h b_ (o_ + 0) [(Value.slice x8p_ x8n_ x8c_)] ∧
    R (.returned (Value.int .i64 ((x8n_ : Nat) : Int))) h))) :
  CallsH Tryd.prog 26 #[(Value.pointer d_)] h R := calls_vc fine false Tryd.func26 (ann := A26) (args := [(Value.pointer d_)]) (by kernel_rfl) (Eq.mpr (by kernel_rfl) H)
/-- turnout/turnoutref04.Load -/
def A27 : Ann := (.seq .nil (.cut (.seq (.join 19) (.cond (.seq .nil .nil) .nil)) [] (.seq .nil (.seq (.seq .nil (.block (.loop [(5, (.int .i64))] (.seq (.seq .nil (.cond .nil .nil)) (.seq (.block (.drawLast [4])) .nil))))) (.seq .nil .nil)))))
theorem V27 (image_ : ByteArray) (h : Hp) (R : Ending → Hp → Prop) (H :
  ∃ Jv_ : List Value → Hp → Prop,
  (∃ B_ : Bool, ((512 : Int) ≠ 0 ∧ ∃ x8_, Int.tmod (ByteArray.size image_ : Int) (512 : Int) = x8_ ∧
    (((decide (x8_ ≠ (0 : Int))) = true →
      h = h ∧ B_ = true) ∧
     ((decide (x8_ ≠ (0 : Int))) = false →
      (((decide ((ByteArray.size image_ : Int) = (0 : Int))) = true →
        h = h ∧ B_ = true) ∧
       ((decide ((ByteArray.size image_ : Int) = (0 : Int))) = false →
        h = h ∧ B_ = (decide ((2097152 : Int) < (ByteArray.size image_ : Int)))))))) ∧
   ((B_ = true →
     R (.returned (Value.tuple #[(Value.pointer none), (Value.int .i64 (1 : Int))])) h) ∧
    (B_ = false →
     Jv_ [] h))) ∧
  (∀  hp_, Jv_ [] hp_ →
   ∀ b_ hp_1, b_ = Array.size hp_ → hp_1 = Array.push hp_ (.cells #[(Value.slice none 0 0), (Value.slice none 0 0), (Value.bool false), (Value.int .i64 (0 : Int)), (Value.int .i64 (0 : Int)), (Value.int .i64 (0 : Int)), (Value.int .i64 (0 : Int))] 99) →
   ∃ (Iv_ : List Value → Hp → Prop) (m_ : List Value → Hp → Nat), Iv_ [(Value.int .i64 (0 : Int))] hp_1 ∧
   (∀ (i_ : Int) hp_2, Iv_ [(Value.int .i64 i_)] hp_2 →
    (((decide (i_ < (ByteArray.size image_ : Int))) = true →
      ∃ Cv_ : Hp → Prop, Cv_ hp_2 ∧
      ∃ (x32p_ : Option Addr) (x32n_ x32c_ : Nat), (∀ h', Cv_ h' → cellsAt h' b_ (0 + 0) [(Value.slice x32p_ x32n_ x32c_)]) ∧
      ∃ x36_, IntKind.i64.wrap (i_ + (512 : Int)) = x36_ ∧
      ∃ l_ : Nat, i_ = (l_ : Int) ∧
      ∃ u_ : Nat, x36_ = (u_ : Int) ∧
      l_ ≤ u_ ∧ u_ ≤ ByteArray.size image_ ∧ ∃ x37_, ByteArray.extract image_ l_ u_ = x37_ ∧
      SemH Tryd.prog (Instr.buildSlice 86 1 #[(0, (Value.string x37_))]) hp_2 fun v_ hp_3 =>
      ∃ (x38p_ : Option Addr) (x38n_ x38c_ : Nat), v_ = (Value.slice x38p_ x38n_ x38c_) ∧
      Cv_ hp_3 ∧
      SemH Tryd.prog (Builtin.append_ #[86, 86] 86 #[(Value.slice x32p_ x32n_ x32c_), (Value.slice x38p_ x38n_ x38c_)]) hp_3 fun v_1 hp_4 =>
      ∃ (x39p_ : Option Addr) (x39n_ x39c_ : Nat), v_1 = (Value.slice x39p_ x39n_ x39c_) ∧
      Cv_ hp_4 ∧
      Value.oneCell' (Value.slice x39p_ x39n_ x39c_) = true ∧ wrAt hp_4 b_ (0 + 0) 1 ∧ ∀ hp_5, hp_5 = setsH hp_4 b_ (0 + 0) [(Value.slice x39p_ x39n_ x39c_)] →
      ∃ x27_, IntKind.i64.wrap (i_ + (512 : Int)) = x27_ ∧
      (Iv_ [(Value.int .i64 x27_)] hp_5 ∧ m_ [(Value.int .i64 x27_)] hp_5 < m_ [(Value.int .i64 i_)] hp_2)) ∧
     ((decide (i_ < (ByteArray.size image_ : Int))) = false →
      R (.returned (Value.tuple #[(Value.pointer (some ⟨b_, 0, none⟩)), (Value.int .i64 (0 : Int))])) hp_2))))) :
  CallsH Tryd.prog 27 #[(Value.string image_)] h R := calls_vc fine false Tryd.func27 (ann := A27) (args := [(Value.string image_)]) (by kernel_rfl) (Eq.mpr (by kernel_rfl) H)
/-- (turnout/turnoutlaw20.pair).finds -/
def A28 : Ann := (.seq .nil (.seq .nil (.seq .nil (.seq .nil (.seq .nil (.seq .nil (.cut (.seq (.join 86) (.cond (.seq .nil .nil) .nil)) [] (.seq (.seq .nil (.block (.loop [(15, (.int .i64))] (.seq (.seq .nil (.cond .nil .nil)) (.seq (.block (.seq (.seq .nil (.cond (.seq .nil .nil) .nil)) .nil)) .nil))))) (.seq (.seq .nil (.block (.loop [(9, .slice), (16, (.int .i64))] (.seq (.seq .nil (.cond .nil .nil)) (.seq (.block .nil) .nil))))) (.seq (.seq .nil (.block (.loop [(17, (.int .i64))] (.seq (.seq .nil (.cond .nil .nil)) (.seq (.block (.seq .nil (.cond (.seq .nil .nil) .nil))) .nil))))) (.seq .nil .nil)))))))))))
theorem V28 (pf0_ : Option Addr) (pf1_ : Option Addr) (h : Hp) (R : Ending → Hp → Prop) (H :
  ∀ b_ hp_, b_ = Array.size h → hp_ = Array.push h (.cells #[(Value.pointer pf0_), (Value.pointer pf1_)] 66) →
  ∃ x20_ : Option Addr, cellsAt hp_ b_ (0 + 0) [(Value.pointer x20_)] ∧
  CallsH Tryd.prog 16 #[(Value.pointer x20_)] hp_ fun en_ hp_1 =>
  ∃ x21r0f0_ : Int, ∃ x21r0f1_ : Int, ∃ x21r0f2_ : Int, ∃ x21r0f3_ : Int, ∃ x21r0f4_ : Int, ∃ x21r1_ : ByteArray, ∃ x21r2_ : Int, en_ = .returned (Value.tuple #[(Value.agg #[(Value.int .i64 x21r0f0_), (Value.int .u64 x21r0f1_), (Value.int .u64 x21r0f2_), (Value.int .i64 x21r0f3_), (Value.int .i64 x21r0f4_)]), (Value.string x21r1_), (Value.int .i64 x21r2_)]) ∧
  ∀ b_1 hp_2, b_1 = Array.size hp_1 → hp_2 = Array.push hp_1 (.cells (zeros Tryd.prog 26) 26) → (∃ i z, Tryd.prog.info? 26 = some i ∧ i.zero = some z) ∧
  List.length [(Value.int .i64 x21r0f0_), (Value.int .u64 x21r0f1_), (Value.int .u64 x21r0f2_), (Value.int .i64 x21r0f3_), (Value.int .i64 x21r0f4_)] = 5 ∧ (∀ c ∈ [(Value.int .i64 x21r0f0_), (Value.int .u64 x21r0f1_), (Value.int .u64 x21r0f2_), (Value.int .i64 x21r0f3_), (Value.int .i64 x21r0f4_)], c.oneCell' = true) ∧ wrAt hp_2 b_1 0 5 ∧ ∀ hp_3, hp_3 = setsH hp_2 b_1 0 [(Value.int .i64 x21r0f0_), (Value.int .u64 x21r0f1_), (Value.int .u64 x21r0f2_), (Value.int .i64 x21r0f3_), (Value.int .i64 x21r0f4_)] →
  ∃ x27_ : Option Addr, cellsAt hp_3 b_ (0 + 1) [(Value.pointer x27_)] ∧
  CallsH Tryd.prog 43 #[(Value.pointer x27_)] hp_3 fun en_1 hp_4 =>
  ∃ x28r0f0_ : Int, ∃ x28r0f1_ : Int, ∃ x28r0f2_ : Int, ∃ x28r0f3_ : Int, ∃ x28r0f4_ : Int, ∃ x28r1_ : ByteArray, ∃ x28r2_ : Int, en_1 = .returned (Value.tuple #[(Value.agg #[(Value.int .i64 x28r0f0_), (Value.int .u64 x28r0f1_), (Value.int .u64 x28r0f2_), (Value.int .i64 x28r0f3_), (Value.int .i64 x28r0f4_)]), (Value.string x28r1_), (Value.int .i64 x28r2_)]) ∧
  ∀ b_2 hp_5, b_2 = Array.size hp_4 → hp_5 = Array.push hp_4 (.cells (zeros Tryd.prog 26) 26) → (∃ i z, Tryd.prog.info? 26 = some i ∧ i.zero = some z) ∧
  List.length [(Value.int .i64 x28r0f0_), (Value.int .u64 x28r0f1_), (Value.int .u64 x28r0f2_), (Value.int .i64 x28r0f3_), (Value.int .i64 x28r0f4_)] = 5 ∧ (∀ c ∈ [(Value.int .i64 x28r0f0_), (Value.int .u64 x28r0f1_), (Value.int .u64 x28r0f2_), (Value.int .i64 x28r0f3_), (Value.int .i64 x28r0f4_)], c.oneCell' = true) ∧ wrAt hp_5 b_2 0 5 ∧ ∀ hp_6, hp_6 = setsH hp_5 b_2 0 [(Value.int .i64 x28r0f0_), (Value.int .u64 x28r0f1_), (Value.int .u64 x28r0f2_), (Value.int .i64 x28r0f3_), (Value.int .i64 x28r0f4_)] →
  ∃ x34_ : Option Addr, cellsAt hp_6 b_ (0 + 0) [(Value.pointer x34_)] ∧
  CallsH Tryd.prog 15 #[(Value.pointer x34_)] hp_6 fun en_2 hp_7 =>
  ∃ (x35r0p_ : Option Addr) (x35r0n_ x35r0c_ : Nat), ∃ x35r1_ : Int, en_2 = .returned (Value.tuple #[(Value.slice x35r0p_ x35r0n_ x35r0c_), (Value.int .i64 x35r1_)]) ∧
  ∃ x40_ : Option Addr, cellsAt hp_7 b_ (0 + 0) [(Value.pointer x40_)] ∧
  CallsH Tryd.prog 15 #[(Value.pointer x40_)] hp_7 fun en_3 hp_8 =>
  ∃ (x41r0p_ : Option Addr) (x41r0n_ x41r0c_ : Nat), ∃ x41r1_ : Int, en_3 = .returned (Value.tuple #[(Value.slice x41r0p_ x41r0n_ x41r0c_), (Value.int .i64 x41r1_)]) ∧
  ∃ x46_ : Option Addr, cellsAt hp_8 b_ (0 + 1) [(Value.pointer x46_)] ∧
  CallsH Tryd.prog 44 #[(Value.pointer x46_)] hp_8 fun en_4 hp_9 =>
  ∃ (x47r0p_ : Option Addr) (x47r0n_ x47r0c_ : Nat), ∃ x47r1_ : Int, en_4 = .returned (Value.tuple #[(Value.slice x47r0p_ x47r0n_ x47r0c_), (Value.int .i64 x47r1_)]) ∧
  ∃ Jv_ : List Value → Hp → Prop,
  (∃ B_ : Bool, (∃ x50f0_ : Int, ∃ x50f1_ : Int, ∃ x50f2_ : Int, ∃ x50f3_ : Int, ∃ x50f4_ : Int, cellsAt hp_9 b_1 0 [(Value.int .i64 x50f0_), (Value.int .u64 x50f1_), (Value.int .u64 x50f2_), (Value.int .i64 x50f3_), (Value.int .i64 x50f4_)] ∧
    ∃ x51f0_ : Int, ∃ x51f1_ : Int, ∃ x51f2_ : Int, ∃ x51f3_ : Int, ∃ x51f4_ : Int, cellsAt hp_9 b_2 0 [(Value.int .i64 x51f0_), (Value.int .u64 x51f1_), (Value.int .u64 x51f2_), (Value.int .i64 x51f3_), (Value.int .i64 x51f4_)] ∧
    ∃ x52_, EqV Tryd.prog 26 (Value.agg #[(Value.int .i64 x50f0_), (Value.int .u64 x50f1_), (Value.int .u64 x50f2_), (Value.int .i64 x50f3_), (Value.int .i64 x50f4_)]) (Value.agg #[(Value.int .i64 x51f0_), (Value.int .u64 x51f1_), (Value.int .u64 x51f2_), (Value.int .i64 x51f3_), (Value.int .i64 x51f4_)]) x52_ ∧
    (((!x52_) = true →
      hp_9 = hp_9 ∧ B_ = true) ∧
     ((!x52_) = false →
      (((decide (x21r1_ ≠ x28r1_)) = true →
        hp_9 = hp_9 ∧ B_ = true) ∧
       ((decide (x21r1_ ≠ x28r1_)) = false →
        (((decide (x21r2_ ≠ x28r2_)) = true →
          hp_9 = hp_9 ∧ B_ = true) ∧
         ((decide (x21r2_ ≠ x28r2_)) = false →
          (((decide (x35r1_ ≠ x47r1_)) = true →
            hp_9 = hp_9 ∧ B_ = true) ∧
           ((decide (x35r1_ ≠ x47r1_)) = false →
            (((decide (x41r1_ ≠ x47r1_)) = true →
              hp_9 = hp_9 ∧ B_ = true) ∧
             ((decide (x41r1_ ≠ x47r1_)) = false →
              (((decide (((x35r0n_ : Nat) : Int) ≠ ((x47r0n_ : Nat) : Int))) = true →
                hp_9 = hp_9 ∧ B_ = true) ∧
               ((decide (((x35r0n_ : Nat) : Int) ≠ ((x47r0n_ : Nat) : Int))) = false →
                hp_9 = hp_9 ∧ B_ = (decide (((x41r0n_ : Nat) : Int) ≠ ((x47r0n_ : Nat) : Int)))))))))))))))) ∧
   ((B_ = true →
     R (.returned (Value.bool false)) hp_9) ∧
    (B_ = false →
     Jv_ [] hp_9))) ∧
  (∀  hp_10, Jv_ [] hp_10 →
   ∃ (Iv_ : List Value → Hp → Prop) (m_ : List Value → Hp → Nat), Iv_ [(Value.int .i64 (0 : Int))] hp_10 ∧
   (∀ (n_ : Int) hp_11, Iv_ [(Value.int .i64 n_)] hp_11 →
    (((decide (n_ < ((x35r0n_ : Nat) : Int))) = true →
      ∃ b_3 o_, x35r0p_ = some ⟨b_3, o_, none⟩ ∧ 0 ≤ n_ ∧ n_ < (x35r0n_ : Int) ∧
      ∃ x96f0_ : Int, ∃ x96f1_ : Int, ∃ x96f2_ : Int, ∃ x96f3_ : Int, ∃ x96f4_ : Int, cellsAt hp_11 b_3 (o_ + Int.toNat n_ * 5) [(Value.int .i64 x96f0_), (Value.int .u64 x96f1_), (Value.int .u64 x96f2_), (Value.int .i64 x96f3_), (Value.int .i64 x96f4_)] ∧
      ∃ b_4 o_1, x47r0p_ = some ⟨b_4, o_1, none⟩ ∧ 0 ≤ n_ ∧ n_ < (x47r0n_ : Int) ∧
      ∃ x100f0_ : Int, ∃ x100f1_ : Int, ∃ x100f2_ : Int, ∃ x100f3_ : Int, ∃ x100f4_ : Int, cellsAt hp_11 b_4 (o_1 + Int.toNat n_ * 5) [(Value.int .i64 x100f0_), (Value.int .u64 x100f1_), (Value.int .u64 x100f2_), (Value.int .i64 x100f3_), (Value.int .i64 x100f4_)] ∧
      ∃ x101_, EqV Tryd.prog 26 (Value.agg #[(Value.int .i64 x96f0_), (Value.int .u64 x96f1_), (Value.int .u64 x96f2_), (Value.int .i64 x96f3_), (Value.int .i64 x96f4_)]) (Value.agg #[(Value.int .i64 x100f0_), (Value.int .u64 x100f1_), (Value.int .u64 x100f2_), (Value.int .i64 x100f3_), (Value.int .i64 x100f4_)]) x101_ ∧
      (((!x101_) = true →
        R (.returned (Value.bool false)) hp_11) ∧
       ((!x101_) = false →
        ∃ b_5 o_2, x35r0p_ = some ⟨b_5, o_2, none⟩ ∧ 0 ≤ n_ ∧ n_ < (x35r0n_ : Int) ∧
        List.length [(Value.int .i64 (0 : Int)), (Value.int .u64 (0 : Int)), (Value.int .u64 (0 : Int)), (Value.int .i64 (0 : Int)), (Value.int .i64 (0 : Int))] = 5 ∧ (∀ c ∈ [(Value.int .i64 (0 : Int)), (Value.int .u64 (0 : Int)), (Value.int .u64 (0 : Int)), (Value.int .i64 (0 : Int)), (Value.int .i64 (0 : Int))], c.oneCell' = true) ∧ wrAt hp_11 b_5 (o_2 + Int.toNat n_ * 5) 5 ∧ ∀ hp_12, hp_12 = setsH hp_11 b_5 (o_2 + Int.toNat n_ * 5) [(Value.int .i64 (0 : Int)), (Value.int .u64 (0 : Int)), (Value.int .u64 (0 : Int)), (Value.int .i64 (0 : Int)), (Value.int .i64 (0 : Int))] →
        ∃ x92_, IntKind.i64.wrap (n_ + (1 : Int)) = x92_ ∧
        (Iv_ [(Value.int .i64 x92_)] hp_12 ∧ m_ [(Value.int .i64 x92_)] hp_12 < m_ [(Value.int .i64 n_)] hp_11)))) ∧
     ((decide (n_ < ((x35r0n_ : Nat) : Int))) = false →
      ∃ (Iv_1 : List Value → Hp → Prop) (m_1 : List Value → Hp → Nat), Iv_1 [(Value.slice x35r0p_ x35r0n_ x35r0c_), (Value.int .i64 (0 : Int))] hp_11 ∧
      (∀ (lp_ : Option Addr) (ln_ lc_ : Nat) (n_1 : Int) hp_13, Iv_1 [(Value.slice lp_ ln_ lc_), (Value.int .i64 n_1)] hp_13 →
       (((decide (n_1 < (4 : Int))) = true →
         SemH Tryd.prog (Instr.buildSlice 35 1 #[(0, (Value.agg #[(Value.int .i64 (0 : Int)), (Value.int .u64 (0 : Int)), (Value.int .u64 (0 : Int)), (Value.int .i64 (0 : Int)), (Value.int .i64 (0 : Int))]))]) hp_13 fun v_ hp_14 =>
         ∃ (x112p_ : Option Addr) (x112n_ x112c_ : Nat), v_ = (Value.slice x112p_ x112n_ x112c_) ∧
         SemH Tryd.prog (Builtin.append_ #[35, 35] 35 #[(Value.slice lp_ ln_ lc_), (Value.slice x112p_ x112n_ x112c_)]) hp_14 fun v_1 hp_15 =>
         ∃ (x113p_ : Option Addr) (x113n_ x113c_ : Nat), v_1 = (Value.slice x113p_ x113n_ x113c_) ∧
         ∃ x109_, IntKind.i64.wrap (n_1 + (1 : Int)) = x109_ ∧
         (Iv_1 [(Value.slice x113p_ x113n_ x113c_), (Value.int .i64 x109_)] hp_15 ∧ m_1 [(Value.slice x113p_ x113n_ x113c_), (Value.int .i64 x109_)] hp_15 < m_1 [(Value.slice lp_ ln_ lc_), (Value.int .i64 n_1)] hp_13)) ∧
        ((decide (n_1 < (4 : Int))) = false →
         ∃ (Iv_2 : List Value → Hp → Prop) (m_2 : List Value → Hp → Nat), Iv_2 [(Value.int .i64 (0 : Int))] hp_13 ∧
         (∀ (n_2 : Int) hp_16, Iv_2 [(Value.int .i64 n_2)] hp_16 →
          (((decide (n_2 < ((x41r0n_ : Nat) : Int))) = true →
            ∃ b_6 o_3, x41r0p_ = some ⟨b_6, o_3, none⟩ ∧ 0 ≤ n_2 ∧ n_2 < (x41r0n_ : Int) ∧
            ∃ x123f0_ : Int, ∃ x123f1_ : Int, ∃ x123f2_ : Int, ∃ x123f3_ : Int, ∃ x123f4_ : Int, cellsAt hp_16 b_6 (o_3 + Int.toNat n_2 * 5) [(Value.int .i64 x123f0_), (Value.int .u64 x123f1_), (Value.int .u64 x123f2_), (Value.int .i64 x123f3_), (Value.int .i64 x123f4_)] ∧
            ∃ b_7 o_4, x47r0p_ = some ⟨b_7, o_4, none⟩ ∧ 0 ≤ n_2 ∧ n_2 < (x47r0n_ : Int) ∧
            ∃ x127f0_ : Int, ∃ x127f1_ : Int, ∃ x127f2_ : Int, ∃ x127f3_ : Int, ∃ x127f4_ : Int, cellsAt hp_16 b_7 (o_4 + Int.toNat n_2 * 5) [(Value.int .i64 x127f0_), (Value.int .u64 x127f1_), (Value.int .u64 x127f2_), (Value.int .i64 x127f3_), (Value.int .i64 x127f4_)] ∧
            ∃ x128_, EqV Tryd.prog 26 (Value.agg #[(Value.int .i64 x123f0_), (Value.int .u64 x123f1_), (Value.int .u64 x123f2_), (Value.int .i64 x123f3_), (Value.int .i64 x123f4_)]) (Value.agg #[(Value.int .i64 x127f0_), (Value.int .u64 x127f1_), (Value.int .u64 x127f2_), (Value.int .i64 x127f3_), (Value.int .i64 x127f4_)]) x128_ ∧
            (((!x128_) = true →
              R (.returned (Value.bool false)) hp_16) ∧
             ((!x128_) = false →
              ∃ x119_, IntKind.i64.wrap (n_2 + (1 : Int)) = x119_ ∧
              (Iv_2 [(Value.int .i64 x119_)] hp_16 ∧ m_2 [(Value.int .i64 x119_)] hp_16 < m_2 [(Value.int .i64 n_2)] hp_16)))) ∧
           ((decide (n_2 < ((x41r0n_ : Nat) : Int))) = false →
            R (.returned (Value.bool true)) hp_16))))))))))) :
  CallsH Tryd.prog 28 #[(Value.agg #[(Value.pointer pf0_), (Value.pointer pf1_)])] h R := calls_vc fine false Tryd.func28 (ann := A28) (args := [(Value.agg #[(Value.pointer pf0_), (Value.pointer pf1_)])]) (by kernel_rfl) (Eq.mpr (by kernel_rfl) H)
/-- (turnout/turnoutlaw20.pair).lies -/
def A29 : Ann := (.seq .nil (.seq .nil (.seq .nil (.seq .nil (.seq .nil (.cut (.seq (.drawLast [10, 33]) (.cond (.seq .nil .nil) .nil)) [] (.seq (.seq .nil (.block (.loop [(7, (.int .i64))] (.seq (.seq .nil (.cond .nil .nil)) (.seq (.block (.seq .nil (.cond (.seq .nil .nil) .nil))) .nil))))) (.seq .nil .nil))))))))
theorem V29 (pf0_ : Option Addr) (pf1_ : Option Addr) (h : Hp) (R : Ending → Hp → Prop) (H :
  ∀ b_ hp_, b_ = Array.size h → hp_ = Array.push h (.cells #[(Value.pointer pf0_), (Value.pointer pf1_)] 66) →
  ∃ x9_ : Option Addr, cellsAt hp_ b_ (0 + 0) [(Value.pointer x9_)] ∧
  CallsH Tryd.prog 45 #[(Value.pointer x9_)] hp_ fun en_ hp_1 =>
  ∃ (x10p_ : Option Addr) (x10n_ x10c_ : Nat), en_ = .returned (Value.slice x10p_ x10n_ x10c_) ∧
  ∃ x12_ : Option Addr, cellsAt hp_1 b_ (0 + 1) [(Value.pointer x12_)] ∧
  CallsH Tryd.prog 46 #[(Value.pointer x12_)] hp_1 fun en_1 hp_2 =>
  ∃ (x13p_ : Option Addr) (x13n_ x13c_ : Nat), en_1 = .returned (Value.slice x13p_ x13n_ x13c_) ∧
  ∃ x15_ : Option Addr, cellsAt hp_2 b_ (0 + 0) [(Value.pointer x15_)] ∧
  CallsH Tryd.prog 25 #[(Value.pointer x15_)] hp_2 fun en_2 hp_3 =>
  ∃ x16f0_ : Int, ∃ x16f1_ : Int, ∃ x16f2_ : Int, en_2 = .returned (Value.agg #[(Value.int .i64 x16f0_), (Value.int .i64 x16f1_), (Value.int .i64 x16f2_)]) ∧
  ∀ b_1 hp_4, b_1 = Array.size hp_3 → hp_4 = Array.push hp_3 (.cells (zeros Tryd.prog 58) 58) → (∃ i z, Tryd.prog.info? 58 = some i ∧ i.zero = some z) ∧
  List.length [(Value.int .i64 x16f0_), (Value.int .i64 x16f1_), (Value.int .i64 x16f2_)] = 3 ∧ (∀ c ∈ [(Value.int .i64 x16f0_), (Value.int .i64 x16f1_), (Value.int .i64 x16f2_)], c.oneCell' = true) ∧ wrAt hp_4 b_1 0 3 ∧ ∀ hp_5, hp_5 = setsH hp_4 b_1 0 [(Value.int .i64 x16f0_), (Value.int .i64 x16f1_), (Value.int .i64 x16f2_)] →
  ∃ x18_ : Option Addr, cellsAt hp_5 b_ (0 + 1) [(Value.pointer x18_)] ∧
  CallsH Tryd.prog 47 #[(Value.pointer x18_)] hp_5 fun en_3 hp_6 =>
  ∃ x19f0_ : Int, ∃ x19f1_ : Int, ∃ x19f2_ : Int, en_3 = .returned (Value.agg #[(Value.int .i64 x19f0_), (Value.int .i64 x19f1_), (Value.int .i64 x19f2_)]) ∧
  ∀ b_2 hp_7, b_2 = Array.size hp_6 → hp_7 = Array.push hp_6 (.cells (zeros Tryd.prog 58) 58) → (∃ i z, Tryd.prog.info? 58 = some i ∧ i.zero = some z) ∧
  List.length [(Value.int .i64 x19f0_), (Value.int .i64 x19f1_), (Value.int .i64 x19f2_)] = 3 ∧ (∀ c ∈ [(Value.int .i64 x19f0_), (Value.int .i64 x19f1_), (Value.int .i64 x19f2_)], c.oneCell' = true) ∧ wrAt hp_7 b_2 0 3 ∧ ∀ hp_8, hp_8 = setsH hp_7 b_2 0 [(Value.int .i64 x19f0_), (Value.int .i64 x19f1_), (Value.int .i64 x19f2_)] →
  ∃ Jv_ : List Value → Hp → Prop,
  (∃ Cv_ : Hp → Prop, Cv_ hp_8 ∧
   (((decide (((x10n_ : Nat) : Int) ≠ ((x13n_ : Nat) : Int))) = true →
     R (.returned (Value.bool false)) hp_8) ∧
    ((decide (((x10n_ : Nat) : Int) ≠ ((x13n_ : Nat) : Int))) = false →
     ∃ x27_ : Option Addr, cellsAt hp_8 b_ (0 + 0) [(Value.pointer x27_)] ∧
     CallsH Tryd.prog 20 #[(Value.pointer x27_)] hp_8 fun en_4 hp_9 =>
     ∃ x28_ : ByteArray, en_4 = .returned (Value.string x28_) ∧
     Cv_ hp_9 ∧
     ∃ x30_ : Option Addr, (∀ h', Cv_ h' → cellsAt h' b_ (0 + 1) [(Value.pointer x30_)]) ∧
     CallsH Tryd.prog 48 #[(Value.pointer x30_)] hp_9 fun en_5 hp_10 =>
     ∃ x31_ : ByteArray, en_5 = .returned (Value.string x31_) ∧
     Cv_ hp_10 ∧
     (((decide (x28_ ≠ x31_)) = true →
       R (.returned (Value.bool false)) hp_10) ∧
      ((decide (x28_ ≠ x31_)) = false →
       ∃ x36_ : Int, cellsAt hp_10 b_1 (0 + 1) [(Value.int .i64 x36_)] ∧
       ∃ x38_ : Int, cellsAt hp_10 b_2 (0 + 1) [(Value.int .i64 x38_)] ∧
       (((decide (x36_ ≠ x38_)) = true →
         R (.returned (Value.bool false)) hp_10) ∧
        ((decide (x36_ ≠ x38_)) = false →
         ∃ x43_ : Int, cellsAt hp_10 b_1 (0 + 2) [(Value.int .i64 x43_)] ∧
         ∃ x45_ : Int, cellsAt hp_10 b_2 (0 + 2) [(Value.int .i64 x45_)] ∧
         (((decide (x43_ ≠ x45_)) = true →
           R (.returned (Value.bool false)) hp_10) ∧
          ((decide (x43_ ≠ x45_)) = false →
           ∃ x50_ : Option Addr, cellsAt hp_10 b_ (0 + 0) [(Value.pointer x50_)] ∧
           CallsH Tryd.prog 49 #[(Value.pointer x50_)] hp_10 fun en_6 hp_11 =>
           ∃ x51_ : Bool, en_6 = .returned (Value.bool x51_) ∧
           Cv_ hp_11 ∧
           ∃ x53_ : Option Addr, (∀ h', Cv_ h' → cellsAt h' b_ (0 + 1) [(Value.pointer x53_)]) ∧
           CallsH Tryd.prog 50 #[(Value.pointer x53_)] hp_11 fun en_7 hp_12 =>
           ∃ x54_ : Bool, en_7 = .returned (Value.bool x54_) ∧
           Cv_ hp_12 ∧
           ∃ x55_, EqV Tryd.prog 4 (Value.bool x51_) (Value.bool x54_) x55_ ∧
           (((!x55_) = true →
             R (.returned (Value.bool false)) hp_12) ∧
            ((!x55_) = false →
             Jv_ [] hp_12))))))))))) ∧
  (∀  hp_13, Jv_ [] hp_13 →
   ∃ (Iv_ : List Value → Hp → Prop) (m_ : List Value → Hp → Nat), Iv_ [(Value.int .i64 (0 : Int))] hp_13 ∧
   (∀ (i_ : Int) hp_14, Iv_ [(Value.int .i64 i_)] hp_14 →
    (((decide (i_ < ((x10n_ : Nat) : Int))) = true →
      ∃ b_3 o_, x10p_ = some ⟨b_3, o_, none⟩ ∧ 0 ≤ i_ ∧ i_ < (x10n_ : Int) ∧
      ∃ x66_ : Int, cellsAt hp_14 b_3 (o_ + Int.toNat i_ * 1) [(Value.int .i64 x66_)] ∧
      ∃ b_4 o_1, x13p_ = some ⟨b_4, o_1, none⟩ ∧ 0 ≤ i_ ∧ i_ < (x13n_ : Int) ∧
      ∃ x70_ : Int, cellsAt hp_14 b_4 (o_1 + Int.toNat i_ * 1) [(Value.int .i64 x70_)] ∧
      (((decide (x66_ ≠ x70_)) = true →
        R (.returned (Value.bool false)) hp_14) ∧
       ((decide (x66_ ≠ x70_)) = false →
        ∃ x62_, IntKind.i64.wrap (i_ + (1 : Int)) = x62_ ∧
        (Iv_ [(Value.int .i64 x62_)] hp_14 ∧ m_ [(Value.int .i64 x62_)] hp_14 < m_ [(Value.int .i64 i_)] hp_14)))) ∧
     ((decide (i_ < ((x10n_ : Nat) : Int))) = false →
      R (.returned (Value.bool true)) hp_14))))) :
  CallsH Tryd.prog 29 #[(Value.agg #[(Value.pointer pf0_), (Value.pointer pf1_)])] h R := calls_vc fine false Tryd.func29 (ann := A29) (args := [(Value.agg #[(Value.pointer pf0_), (Value.pointer pf1_)])]) (by kernel_rfl) (Eq.mpr (by kernel_rfl) H)
/-- turnout/ckpt.right -/
def A30 : Ann := (.seq .nil (.seq (.orders 9 [[0, 1, 2, 3, 4, 5, 6, 7, 8, 9, 10, 11], [0, 9, 1, 2, 3, 4, 5, 6, 7, 8, 10, 11], [0, 1, 2, 3, 4, 9, 5, 6, 7, 8, 10, 11]] [4]) (.seq .nil .nil)))
theorem V30 (d_ : Option Addr) (hf0_ : Int) (hf1_ : Int) (hf2_ : Int) (hf3_ : Int) (hf4_ : Int) (h : Hp) (R : Ending → Hp → Prop) (H :
  ∀ b_ hp_, b_ = Array.size h → hp_ = Array.push h (.cells #[(Value.int .i64 hf0_), (Value.int .u64 hf1_), (Value.int .u64 hf2_), (Value.int .i64 hf3_), (Value.int .i64 hf4_)] 26) →
  (∃ Cv_ : Hp → Prop, Cv_ hp_ ∧
   CallsH Tryd.prog 26 #[(Value.pointer d_)] hp_ fun en_ hp_1 =>
   ∃ x9_ : Int, en_ = .returned (Value.int .i64 x9_) ∧
   Cv_ hp_1 ∧
   ∃ x12_ : Int, (∀ h', Cv_ h' → cellsAt h' b_ ((0 + 3) + 0) [(Value.int .i64 x12_)]) ∧
   CallsH Tryd.prog 10 #[(Value.int .i64 x9_), (Value.int .i64 x12_)] hp_1 fun en_1 hp_2 =>
   ∃ x13r0f0_ : Int, ∃ x13r0f1_ : Int, ∃ x13r1_ : Int, en_1 = .returned (Value.tuple #[(Value.agg #[(Value.int .i64 x13r0f0_), (Value.int .i64 x13r0f1_)]), (Value.int .i64 x13r1_)]) ∧
   Cv_ hp_2 ∧
   ∀ b_1 hp_3, b_1 = Array.size hp_2 → hp_3 = Array.push hp_2 (.cells (zeros Tryd.prog 24) 24) → (∃ i z, Tryd.prog.info? 24 = some i ∧ i.zero = some z) ∧
   Cv_ hp_3 ∧
   List.length [(Value.int .i64 x13r0f0_), (Value.int .i64 x13r0f1_)] = 2 ∧ (∀ c ∈ [(Value.int .i64 x13r0f0_), (Value.int .i64 x13r0f1_)], c.oneCell' = true) ∧ wrAt hp_3 b_1 0 2 ∧ ∀ hp_4, hp_4 = setsH hp_3 b_1 0 [(Value.int .i64 x13r0f0_), (Value.int .i64 x13r0f1_)] →
   Cv_ hp_4 ∧
   (((decide (x13r1_ = (0 : Int))) = true →
     ∃ x19f0_ : Int, ∃ x19f1_ : Int, cellsAt hp_4 b_1 0 [(Value.int .i64 x19f0_), (Value.int .i64 x19f1_)] ∧
     ∃ x21f0_ : Int, ∃ x21f1_ : Int, cellsAt hp_4 b_ (0 + 3) [(Value.int .i64 x21f0_), (Value.int .i64 x21f1_)] ∧
     ∃ x22_, EqV Tryd.prog 24 (Value.agg #[(Value.int .i64 x19f0_), (Value.int .i64 x19f1_)]) (Value.agg #[(Value.int .i64 x21f0_), (Value.int .i64 x21f1_)]) x22_ ∧
     ((x22_ = true →
       ∃ x26_ : Int, cellsAt hp_4 b_ (0 + 0) [(Value.int .i64 x26_)] ∧
       (((decide (x26_ = (0 : Int))) = true →
         ∃ x36_ : Int, cellsAt hp_4 b_ (0 + 1) [(Value.int .u64 x36_)] ∧
         CallsH Tryd.prog 51 #[(Value.int .u64 x36_)] hp_4 fun en_2 hp_5 =>
         ∃ x37_ : Bool, en_2 = .returned (Value.bool x37_) ∧
         ((x37_ = true →
           ∃ x41_ : Int, cellsAt hp_5 b_ (0 + 2) [(Value.int .u64 x41_)] ∧
           CallsH Tryd.prog 51 #[(Value.int .u64 x41_)] hp_5 fun en_3 hp_6 =>
           ∃ x42_ : Bool, en_3 = .returned (Value.bool x42_) ∧
           R (.returned (Value.bool x42_)) hp_6) ∧
          (x37_ = false →
           R (.returned (Value.bool false)) hp_5))) ∧
        ((decide (x26_ = (0 : Int))) = false →
         ∃ x30_ : Int, cellsAt hp_4 b_ (0 + 0) [(Value.int .i64 x30_)] ∧
         (((decide (x30_ = (1 : Int))) = true →
           ∃ x36_1 : Int, cellsAt hp_4 b_ (0 + 1) [(Value.int .u64 x36_1)] ∧
           CallsH Tryd.prog 51 #[(Value.int .u64 x36_1)] hp_4 fun en_4 hp_7 =>
           ∃ x37_1 : Bool, en_4 = .returned (Value.bool x37_1) ∧
           ((x37_1 = true →
             ∃ x41_1 : Int, cellsAt hp_7 b_ (0 + 2) [(Value.int .u64 x41_1)] ∧
             CallsH Tryd.prog 51 #[(Value.int .u64 x41_1)] hp_7 fun en_5 hp_8 =>
             ∃ x42_1 : Bool, en_5 = .returned (Value.bool x42_1) ∧
             R (.returned (Value.bool x42_1)) hp_8) ∧
            (x37_1 = false →
             R (.returned (Value.bool false)) hp_7))) ∧
          ((decide (x30_ = (1 : Int))) = false →
           R (.returned (Value.bool false)) hp_4))))) ∧
      (x22_ = false →
       R (.returned (Value.bool false)) hp_4))) ∧
    ((decide (x13r1_ = (0 : Int))) = false →
     R (.returned (Value.bool false)) hp_4))) ∧
  (∃ Cv_1 : Hp → Prop, Cv_1 hp_ ∧
   ∀ b_2 hp_9, b_2 = Array.size hp_ → hp_9 = Array.push hp_ (.cells (zeros Tryd.prog 24) 24) → (∃ i z, Tryd.prog.info? 24 = some i ∧ i.zero = some z) ∧
   Cv_1 hp_9 ∧
   CallsH Tryd.prog 26 #[(Value.pointer d_)] hp_9 fun en_6 hp_10 =>
   ∃ x9_1 : Int, en_6 = .returned (Value.int .i64 x9_1) ∧
   Cv_1 hp_10 ∧
   ∃ x12_1 : Int, (∀ h', Cv_1 h' → cellsAt h' b_ ((0 + 3) + 0) [(Value.int .i64 x12_1)]) ∧
   CallsH Tryd.prog 10 #[(Value.int .i64 x9_1), (Value.int .i64 x12_1)] hp_10 fun en_7 hp_11 =>
   ∃ x13r0f0_1 : Int, ∃ x13r0f1_1 : Int, ∃ x13r1_1 : Int, en_7 = .returned (Value.tuple #[(Value.agg #[(Value.int .i64 x13r0f0_1), (Value.int .i64 x13r0f1_1)]), (Value.int .i64 x13r1_1)]) ∧
   Cv_1 hp_11 ∧
   List.length [(Value.int .i64 x13r0f0_1), (Value.int .i64 x13r0f1_1)] = 2 ∧ (∀ c ∈ [(Value.int .i64 x13r0f0_1), (Value.int .i64 x13r0f1_1)], c.oneCell' = true) ∧ wrAt hp_11 b_2 0 2 ∧ ∀ hp_12, hp_12 = setsH hp_11 b_2 0 [(Value.int .i64 x13r0f0_1), (Value.int .i64 x13r0f1_1)] →
   Cv_1 hp_12 ∧
   (((decide (x13r1_1 = (0 : Int))) = true →
     ∃ x19f0_1 : Int, ∃ x19f1_1 : Int, cellsAt hp_12 b_2 0 [(Value.int .i64 x19f0_1), (Value.int .i64 x19f1_1)] ∧
     ∃ x21f0_1 : Int, ∃ x21f1_1 : Int, cellsAt hp_12 b_ (0 + 3) [(Value.int .i64 x21f0_1), (Value.int .i64 x21f1_1)] ∧
     ∃ x22_1, EqV Tryd.prog 24 (Value.agg #[(Value.int .i64 x19f0_1), (Value.int .i64 x19f1_1)]) (Value.agg #[(Value.int .i64 x21f0_1), (Value.int .i64 x21f1_1)]) x22_1 ∧
     ((x22_1 = true →
       ∃ x26_1 : Int, cellsAt hp_12 b_ (0 + 0) [(Value.int .i64 x26_1)] ∧
       (((decide (x26_1 = (0 : Int))) = true →
         ∃ x36_2 : Int, cellsAt hp_12 b_ (0 + 1) [(Value.int .u64 x36_2)] ∧
         CallsH Tryd.prog 51 #[(Value.int .u64 x36_2)] hp_12 fun en_8 hp_13 =>
         ∃ x37_2 : Bool, en_8 = .returned (Value.bool x37_2) ∧
         ((x37_2 = true →
           ∃ x41_2 : Int, cellsAt hp_13 b_ (0 + 2) [(Value.int .u64 x41_2)] ∧
           CallsH Tryd.prog 51 #[(Value.int .u64 x41_2)] hp_13 fun en_9 hp_14 =>
           ∃ x42_2 : Bool, en_9 = .returned (Value.bool x42_2) ∧
           R (.returned (Value.bool x42_2)) hp_14) ∧
          (x37_2 = false →
           R (.returned (Value.bool false)) hp_13))) ∧
        ((decide (x26_1 = (0 : Int))) = false →
         ∃ x30_1 : Int, cellsAt hp_12 b_ (0 + 0) [(Value.int .i64 x30_1)] ∧
         (((decide (x30_1 = (1 : Int))) = true →
           ∃ x36_3 : Int, cellsAt hp_12 b_ (0 + 1) [(Value.int .u64 x36_3)] ∧
           CallsH Tryd.prog 51 #[(Value.int .u64 x36_3)] hp_12 fun en_10 hp_15 =>
           ∃ x37_3 : Bool, en_10 = .returned (Value.bool x37_3) ∧
           ((x37_3 = true →
             ∃ x41_3 : Int, cellsAt hp_15 b_ (0 + 2) [(Value.int .u64 x41_3)] ∧
             CallsH Tryd.prog 51 #[(Value.int .u64 x41_3)] hp_15 fun en_11 hp_16 =>
             ∃ x42_3 : Bool, en_11 = .returned (Value.bool x42_3) ∧
             R (.returned (Value.bool x42_3)) hp_16) ∧
            (x37_3 = false →
             R (.returned (Value.bool false)) hp_15))) ∧
          ((decide (x30_1 = (1 : Int))) = false →
           R (.returned (Value.bool false)) hp_12))))) ∧
      (x22_1 = false →
       R (.returned (Value.bool false)) hp_12))) ∧
    ((decide (x13r1_1 = (0 : Int))) = false →
     R (.returned (Value.bool false)) hp_12))) ∧
  (∃ Cv_2 : Hp → Prop, Cv_2 hp_ ∧
   CallsH Tryd.prog 26 #[(Value.pointer d_)] hp_ fun en_12 hp_17 =>
   ∃ x9_2 : Int, en_12 = .returned (Value.int .i64 x9_2) ∧
   Cv_2 hp_17 ∧
   ∃ x12_2 : Int, (∀ h', Cv_2 h' → cellsAt h' b_ ((0 + 3) + 0) [(Value.int .i64 x12_2)]) ∧
   ∀ b_3 hp_18, b_3 = Array.size hp_17 → hp_18 = Array.push hp_17 (.cells (zeros Tryd.prog 24) 24) → (∃ i z, Tryd.prog.info? 24 = some i ∧ i.zero = some z) ∧
   Cv_2 hp_18 ∧
   CallsH Tryd.prog 10 #[(Value.int .i64 x9_2), (Value.int .i64 x12_2)] hp_18 fun en_13 hp_19 =>
   ∃ x13r0f0_2 : Int, ∃ x13r0f1_2 : Int, ∃ x13r1_2 : Int, en_13 = .returned (Value.tuple #[(Value.agg #[(Value.int .i64 x13r0f0_2), (Value.int .i64 x13r0f1_2)]), (Value.int .i64 x13r1_2)]) ∧
   Cv_2 hp_19 ∧
   List.length [(Value.int .i64 x13r0f0_2), (Value.int .i64 x13r0f1_2)] = 2 ∧ (∀ c ∈ [(Value.int .i64 x13r0f0_2), (Value.int .i64 x13r0f1_2)], c.oneCell' = true) ∧ wrAt hp_19 b_3 0 2 ∧ ∀ hp_20, hp_20 = setsH hp_19 b_3 0 [(Value.int .i64 x13r0f0_2), (Value.int .i64 x13r0f1_2)] →
   Cv_2 hp_20 ∧
   (((decide (x13r1_2 = (0 : Int))) = true →
     ∃ x19f0_2 : Int, ∃ x19f1_2 : Int, cellsAt hp_20 b_3 0 [(Value.int .i64 x19f0_2), (Value.int .i64 x19f1_2)] ∧
     ∃ x21f0_2 : Int, ∃ x21f1_2 : Int, cellsAt hp_20 b_ (0 + 3) [(Value.int .i64 x21f0_2), (Value.int .i64 x21f1_2)] ∧
     ∃ x22_2, EqV Tryd.prog 24 (Value.agg #[(Value.int .i64 x19f0_2), (Value.int .i64 x19f1_2)]) (Value.agg #[(Value.int .i64 x21f0_2), (Value.int .i64 x21f1_2)]) x22_2 ∧
     ((x22_2 = true →
       ∃ x26_2 : Int, cellsAt hp_20 b_ (0 + 0) [(Value.int .i64 x26_2)] ∧
       (((decide (x26_2 = (0 : Int))) = true →
         ∃ x36_4 : Int, cellsAt hp_20 b_ (0 + 1) [(Value.int .u64 x36_4)] ∧
         CallsH Tryd.prog 51 #[(Value.int .u64 x36_4)] hp_20 fun en_14 hp_21 =>
         ∃ x37_4 : Bool, en_14 = .returned (Value.bool x37_4) ∧
         ((x37_4 = true →
           ∃ x41_4 : Int, cellsAt hp_21 b_ (0 + 2) [(Value.int .u64 x41_4)] ∧
           CallsH Tryd.prog 51 #[(Value.int .u64 x41_4)] hp_21 fun en_15 hp_22 =>
           ∃ x42_4 : Bool, en_15 = .returned (Value.bool x42_4) ∧
           R (.returned (Value.bool x42_4)) hp_22) ∧
          (x37_4 = false →
           R (.returned (Value.bool false)) hp_21))) ∧
        ((decide (x26_2 = (0 : Int))) = false →
         ∃ x30_2 : Int, cellsAt hp_20 b_ (0 + 0) [(Value.int .i64 x30_2)] ∧
         (((decide (x30_2 = (1 : Int))) = true →
           ∃ x36_5 : Int, cellsAt hp_20 b_ (0 + 1) [(Value.int .u64 x36_5)] ∧
           CallsH Tryd.prog 51 #[(Value.int .u64 x36_5)] hp_20 fun en_16 hp_23 =>
           ∃ x37_5 : Bool, en_16 = .returned (Value.bool x37_5) ∧
           ((x37_5 = true →
             ∃ x41_5 : Int, cellsAt hp_23 b_ (0 + 2) [(Value.int .u64 x41_5)] ∧
             CallsH Tryd.prog 51 #[(Value.int .u64 x41_5)] hp_23 fun en_17 hp_24 =>
             ∃ x42_5 : Bool, en_17 = .returned (Value.bool x42_5) ∧
             R (.returned (Value.bool x42_5)) hp_24) ∧
            (x37_5 = false →
             R (.returned (Value.bool false)) hp_23))) ∧
          ((decide (x30_2 = (1 : Int))) = false →
           R (.returned (Value.bool false)) hp_20))))) ∧
      (x22_2 = false →
       R (.returned (Value.bool false)) hp_20))) ∧
    ((decide (x13r1_2 = (0 : Int))) = false →
     R (.returned (Value.bool false)) hp_20)))) :
  CallsH Tryd.prog 30 #[(Value.pointer d_), (Value.agg #[(Value.int .i64 hf0_), (Value.int .u64 hf1_), (Value.int .u64 hf2_), (Value.int .i64 hf3_), (Value.int .i64 hf4_)])] h R := calls_vc fine false Tryd.func30 (ann := A30) (args := [(Value.pointer d_), (Value.agg #[(Value.int .i64 hf0_), (Value.int .u64 hf1_), (Value.int .u64 hf2_), (Value.int .i64 hf3_), (Value.int .i64 hf4_)])]) (by kernel_rfl) (Eq.mpr (by kernel_rfl) H)
end Go.Vc
