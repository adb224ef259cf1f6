import Derived.Test.YthkbecpgbjejkaaDoorS9WVa
import Derived.Test.YthkbecpgbjejkaaDoorVcI
import Derived.Test.YthkbecpgbjejkaaDoorProg
set_option maxRecDepth 10000
namespace Go.Vc
open Go Go.Proofs
set_option maxRecDepth 100000
/-- turnout/turnoutref19.Scan -/
def A45 : Ann := (.seq .nil (.seq .nil (.cut (.seq (.join 30) (.cond (.seq .nil .nil) .nil)) [] (.seq .nil (.seq (.seq .nil (.block (.loop [(12, (.int .i64))] (.seq (.seq .nil (.cond .nil .nil)) (.seq (.block (.seq .nil (.seq (.seq .nil (.cond (.seq .nil .nil) .nil)) (.cut (.seq (.join 65) (.cond (.seq .nil .nil) .nil)) [] (.seq .nil (.seq (.seq .nil (.cond (.seq .nil .nil) .nil)) .nil)))))) .nil))))) (.seq .nil .nil))))))
theorem V45 (d_ : Option Addr) (first_ : Int) (count_ : Int) (epoch_ : Int) (h : Hp) (R : Ending → Hp → Prop) (H :
  CallsH Tryd.prog 73 #[(Value.pointer d_), (Value.int .i64 first_), (Value.int .i64 count_)] h fun en_ hp_ =>
  ∃ x20_ : Bool, en_ = .returned (Value.bool x20_) ∧
  ∃ Jv_ : List Value → Hp → Prop,
  (∃ B_ : Bool, ((((!x20_) = true →
      hp_ = hp_ ∧ B_ = true) ∧
     ((!x20_) = false →
      (((decide (epoch_ < (1 : Int))) = true →
        hp_ = hp_ ∧ B_ = true) ∧
       ((decide (epoch_ < (1 : Int))) = false →
        hp_ = hp_ ∧ B_ = (decide ((9223372036854775807 : Int) < epoch_))))))) ∧
   ((B_ = true →
     R (.returned (Value.tuple #[(Value.slice none 0 0), (Value.int .i64 (1 : Int))])) hp_) ∧
    (B_ = false →
     Jv_ [] hp_))) ∧
  (∀  hp_1, Jv_ [] hp_1 →
   ∀ b_ hp_2, b_ = Array.size hp_1 → hp_2 = Array.push hp_1 (.cells (zeros Tryd.prog 136) 136) → (∃ i z, Tryd.prog.info? 136 = some i ∧ i.zero = some z) ∧
   ∃ (Iv_ : List Value → Hp → Prop) (m_ : List Value → Hp → Nat), Iv_ [(Value.int .i64 (0 : Int))] hp_2 ∧
   (∀ (i_ : Int) hp_3, Iv_ [(Value.int .i64 i_)] hp_3 →
    (((decide (i_ < count_)) = true →
      ∃ x40_, IntKind.i64.wrap (first_ + i_) = x40_ ∧
      CallsH Tryd.prog 74 #[(Value.pointer d_), (Value.int .i64 x40_)] hp_3 fun en_1 hp_4 =>
      ∃ x41r0f0_ : Int, ∃ x41r0f1_ : Int, ∃ x41r0f2_ : Int, ∃ x41r0f3_ : ByteArray, ∃ x41r1_ : Int, en_1 = .returned (Value.tuple #[(Value.agg #[(Value.int .i64 x41r0f0_), (Value.int .u64 x41r0f1_), (Value.int .i64 x41r0f2_), (Value.string x41r0f3_)]), (Value.int .i64 x41r1_)]) ∧
      ∀ b_1 hp_5, b_1 = Array.size hp_4 → hp_5 = Array.push hp_4 (.cells (zeros Tryd.prog 94) 94) → (∃ i z, Tryd.prog.info? 94 = some i ∧ i.zero = some z) ∧
      List.length [(Value.int .i64 x41r0f0_), (Value.int .u64 x41r0f1_), (Value.int .i64 x41r0f2_), (Value.string x41r0f3_)] = 4 ∧ (∀ c ∈ [(Value.int .i64 x41r0f0_), (Value.int .u64 x41r0f1_), (Value.int .i64 x41r0f2_), (Value.string x41r0f3_)], c.oneCell' = true) ∧ wrAt hp_5 b_1 0 4 ∧ ∀ hp_6, hp_6 = setsH hp_5 b_1 0 [(Value.int .i64 x41r0f0_), (Value.int .u64 x41r0f1_), (Value.int .i64 x41r0f2_), (Value.string x41r0f3_)] →
      (((decide (x41r1_ = (40 : Int))) = true →
        R (.returned (Value.tuple #[(Value.slice none 0 0), (Value.int .i64 x41r1_)])) hp_6) ∧
       ((decide (x41r1_ = (40 : Int))) = false →
        ∃ Jv_1 : List Value → Hp → Prop,
        (∃ B_1 : Bool, ((((decide (x41r1_ ≠ (0 : Int))) = true →
            hp_6 = hp_6 ∧ B_1 = true) ∧
           ((decide (x41r1_ ≠ (0 : Int))) = false →
            ∃ x51_ : Int, cellsAt hp_6 b_1 (0 + 0) [(Value.int .i64 x51_)] ∧
            (((decide (x51_ ≠ (3 : Int))) = true →
              hp_6 = hp_6 ∧ B_1 = true) ∧
             ((decide (x51_ ≠ (3 : Int))) = false →
              ∃ x56_ : Int, cellsAt hp_6 b_1 (0 + 1) [(Value.int .u64 x56_)] ∧
              (((decide (x56_ ≠ epoch_)) = true →
                hp_6 = hp_6 ∧ B_1 = true) ∧
               ((decide (x56_ ≠ epoch_)) = false →
                ∃ x62_ : Int, cellsAt hp_6 b_1 (0 + 2) [(Value.int .i64 x62_)] ∧
                hp_6 = hp_6 ∧ B_1 = (decide (x62_ ≠ i_))))))))) ∧
         ((B_1 = true →
           ∃ (x67p_ : Option Addr) (x67n_ x67c_ : Nat), cellsAt hp_6 b_ (0 + 0) [(Value.slice x67p_ x67n_ x67c_)] ∧
           R (.returned (Value.tuple #[(Value.slice x67p_ x67n_ x67c_), (Value.int .i64 (0 : Int))])) hp_6) ∧
          (B_1 = false →
           Jv_1 [] hp_6))) ∧
        (∀  hp_7, Jv_1 [] hp_7 →
         ∃ (x69f0p_ : Option Addr) (x69f0n_ x69f0c_ : Nat), ∃ x69f1_ : ByteArray, ∃ x69f2_ : Bool, cellsAt hp_7 b_ 0 [(Value.slice x69f0p_ x69f0n_ x69f0c_), (Value.string x69f1_), (Value.bool x69f2_)] ∧
         ∃ x71_ : ByteArray, cellsAt hp_7 b_1 (0 + 3) [(Value.string x71_)] ∧
         CallsH Tryd.prog 75 #[(Value.agg #[(Value.slice x69f0p_ x69f0n_ x69f0c_), (Value.string x69f1_), (Value.bool x69f2_)]), (Value.string x71_)] hp_7 fun en_2 hp_8 =>
         ∃ (x72r0f0p_ : Option Addr) (x72r0f0n_ x72r0f0c_ : Nat), ∃ x72r0f1_ : ByteArray, ∃ x72r0f2_ : Bool, ∃ x72r1_ : Bool, en_2 = .returned (Value.tuple #[(Value.agg #[(Value.slice x72r0f0p_ x72r0f0n_ x72r0f0c_), (Value.string x72r0f1_), (Value.bool x72r0f2_)]), (Value.bool x72r1_)]) ∧
         ∀ b_2 hp_9, b_2 = Array.size hp_8 → hp_9 = Array.push hp_8 (.cells (zeros Tryd.prog 136) 136) → (∃ i z, Tryd.prog.info? 136 = some i ∧ i.zero = some z) ∧
         List.length [(Value.slice x72r0f0p_ x72r0f0n_ x72r0f0c_), (Value.string x72r0f1_), (Value.bool x72r0f2_)] = 3 ∧ (∀ c ∈ [(Value.slice x72r0f0p_ x72r0f0n_ x72r0f0c_), (Value.string x72r0f1_), (Value.bool x72r0f2_)], c.oneCell' = true) ∧ wrAt hp_9 b_2 0 3 ∧ ∀ hp_10, hp_10 = setsH hp_9 b_2 0 [(Value.slice x72r0f0p_ x72r0f0n_ x72r0f0c_), (Value.string x72r0f1_), (Value.bool x72r0f2_)] →
         (((!x72r1_) = true →
           ∃ (x78p_ : Option Addr) (x78n_ x78c_ : Nat), cellsAt hp_10 b_ (0 + 0) [(Value.slice x78p_ x78n_ x78c_)] ∧
           R (.returned (Value.tuple #[(Value.slice x78p_ x78n_ x78c_), (Value.int .i64 (0 : Int))])) hp_10) ∧
          ((!x72r1_) = false →
           ∃ (x79f0p_ : Option Addr) (x79f0n_ x79f0c_ : Nat), ∃ x79f1_ : ByteArray, ∃ x79f2_ : Bool, cellsAt hp_10 b_2 0 [(Value.slice x79f0p_ x79f0n_ x79f0c_), (Value.string x79f1_), (Value.bool x79f2_)] ∧
           List.length [(Value.slice x79f0p_ x79f0n_ x79f0c_), (Value.string x79f1_), (Value.bool x79f2_)] = 3 ∧ (∀ c ∈ [(Value.slice x79f0p_ x79f0n_ x79f0c_), (Value.string x79f1_), (Value.bool x79f2_)], c.oneCell' = true) ∧ wrAt hp_10 b_ 0 3 ∧ ∀ hp_11, hp_11 = setsH hp_10 b_ 0 [(Value.slice x79f0p_ x79f0n_ x79f0c_), (Value.string x79f1_), (Value.bool x79f2_)] →
           ∃ x35_, IntKind.i64.wrap (i_ + (1 : Int)) = x35_ ∧
           (Iv_ [(Value.int .i64 x35_)] hp_11 ∧ m_ [(Value.int .i64 x35_)] hp_11 < m_ [(Value.int .i64 i_)] hp_3))))))) ∧
     ((decide (i_ < count_)) = false →
      ∃ (x81p_ : Option Addr) (x81n_ x81c_ : Nat), cellsAt hp_3 b_ (0 + 0) [(Value.slice x81p_ x81n_ x81c_)] ∧
      R (.returned (Value.tuple #[(Value.slice x81p_ x81n_ x81c_), (Value.int .i64 (0 : Int))])) hp_3))))) :
  CallsH Tryd.prog 45 #[(Value.pointer d_), (Value.int .i64 first_), (Value.int .i64 count_), (Value.int .u64 epoch_)] h R := calls_vc fine false Tryd.func45 (ann := A45) (args := [(Value.pointer d_), (Value.int .i64 first_), (Value.int .i64 count_), (Value.int .u64 epoch_)]) (by kernel_rfl) (Eq.mpr (by kernel_rfl) H)
/-- turnout/turnoutref19.Last -/
def A46 : Ann := (.seq .nil (.seq .nil (.seq (.seq .nil (.cond (.seq .nil .nil) .nil)) (.seq .nil (.seq (.seq .nil (.block (.loop [(9, (.int .u64)), (10, (.int .i64))] (.seq (.seq .nil (.cond .nil .nil)) (.seq (.block (.seq .nil (.seq (.seq .nil (.cond (.seq .nil .nil) .nil)) (.seq (.join 41) (.cond .nil .nil))))) .nil))))) (.seq .nil .nil))))))
theorem V46 (d_ : Option Addr) (first_ : Int) (count_ : Int) (h : Hp) (R : Ending → Hp → Prop) (H :
  CallsH Tryd.prog 73 #[(Value.pointer d_), (Value.int .i64 first_), (Value.int .i64 count_)] h fun en_ hp_ =>
  ∃ x16_ : Bool, en_ = .returned (Value.bool x16_) ∧
  (((!x16_) = true →
    R (.returned (Value.tuple #[(Value.int .u64 (0 : Int)), (Value.int .i64 (1 : Int))])) hp_) ∧
   ((!x16_) = false →
    ∃ (Iv_ : List Value → Hp → Prop) (m_ : List Value → Hp → Nat), Iv_ [(Value.int .u64 (0 : Int)), (Value.int .i64 (0 : Int))] hp_ ∧
    (∀ (most_ : Int) (i_ : Int) hp_1, Iv_ [(Value.int .u64 most_), (Value.int .i64 i_)] hp_1 →
     (((decide (i_ < count_)) = true →
       ∃ x28_, IntKind.i64.wrap (first_ + i_) = x28_ ∧
       CallsH Tryd.prog 74 #[(Value.pointer d_), (Value.int .i64 x28_)] hp_1 fun en_1 hp_2 =>
       ∃ x29r0f0_ : Int, ∃ x29r0f1_ : Int, ∃ x29r0f2_ : Int, ∃ x29r0f3_ : ByteArray, ∃ x29r1_ : Int, en_1 = .returned (Value.tuple #[(Value.agg #[(Value.int .i64 x29r0f0_), (Value.int .u64 x29r0f1_), (Value.int .i64 x29r0f2_), (Value.string x29r0f3_)]), (Value.int .i64 x29r1_)]) ∧
       ∀ b_ hp_3, b_ = Array.size hp_2 → hp_3 = Array.push hp_2 (.cells (zeros Tryd.prog 94) 94) → (∃ i z, Tryd.prog.info? 94 = some i ∧ i.zero = some z) ∧
       List.length [(Value.int .i64 x29r0f0_), (Value.int .u64 x29r0f1_), (Value.int .i64 x29r0f2_), (Value.string x29r0f3_)] = 4 ∧ (∀ c ∈ [(Value.int .i64 x29r0f0_), (Value.int .u64 x29r0f1_), (Value.int .i64 x29r0f2_), (Value.string x29r0f3_)], c.oneCell' = true) ∧ wrAt hp_3 b_ 0 4 ∧ ∀ hp_4, hp_4 = setsH hp_3 b_ 0 [(Value.int .i64 x29r0f0_), (Value.int .u64 x29r0f1_), (Value.int .i64 x29r0f2_), (Value.string x29r0f3_)] →
       (((decide (x29r1_ = (40 : Int))) = true →
         R (.returned (Value.tuple #[(Value.int .u64 (0 : Int)), (Value.int .i64 x29r1_)])) hp_4) ∧
        ((decide (x29r1_ = (40 : Int))) = false →
         ∃ B_ : Bool, ((((decide (x29r1_ = (0 : Int))) = true →
            ∃ x39_ : Int, cellsAt hp_4 b_ (0 + 0) [(Value.int .i64 x39_)] ∧
            hp_4 = hp_4 ∧ B_ = (decide (x39_ = (3 : Int)))) ∧
           ((decide (x29r1_ = (0 : Int))) = false →
            hp_4 = hp_4 ∧ B_ = false))) ∧
         ((B_ = true →
           ∃ x44_ : Int, cellsAt hp_4 b_ (0 + 1) [(Value.int .u64 x44_)] ∧
           ∃ x23_, IntKind.i64.wrap (i_ + (1 : Int)) = x23_ ∧
           (Iv_ [(Value.int .u64 (max most_ x44_)), (Value.int .i64 x23_)] hp_4 ∧ m_ [(Value.int .u64 (max most_ x44_)), (Value.int .i64 x23_)] hp_4 < m_ [(Value.int .u64 most_), (Value.int .i64 i_)] hp_1)) ∧
          (B_ = false →
           ∃ x23_1, IntKind.i64.wrap (i_ + (1 : Int)) = x23_1 ∧
           (Iv_ [(Value.int .u64 most_), (Value.int .i64 x23_1)] hp_4 ∧ m_ [(Value.int .u64 most_), (Value.int .i64 x23_1)] hp_4 < m_ [(Value.int .u64 most_), (Value.int .i64 i_)] hp_1)))))) ∧
      ((decide (i_ < count_)) = false →
       R (.returned (Value.tuple #[(Value.int .u64 most_), (Value.int .i64 (0 : Int))])) hp_1)))))) :
  CallsH Tryd.prog 46 #[(Value.pointer d_), (Value.int .i64 first_), (Value.int .i64 count_)] h R := calls_vc fine false Tryd.func46 (ann := A46) (args := [(Value.pointer d_), (Value.int .i64 first_), (Value.int .i64 count_)]) (by kernel_rfl) (Eq.mpr (by kernel_rfl) H)
/-- turnout/disk.kept -/
def A47 : Ann := (.seq .nil (.seq (.seq .nil (.block (.seq .nil (.cond (.seq .nil .nil) (.seq .nil (.cond (.seq .nil .nil) .nil)))))) (.seq .nil .nil)))
theorem V47 (ff0_ : Int) (ff1_ : Int) (h : Hp) (R : Ending → Hp → Prop) (H :
  ∀ b_ hp_, b_ = Array.size h → hp_ = Array.push h (.cells #[(Value.int .i64 ff0_), (Value.int .i64 ff1_)] 113) →
  ∃ x4_ : Int, cellsAt hp_ b_ (0 + 0) [(Value.int .i64 x4_)] ∧
  (((decide (x4_ = (1 : Int))) = true →
    R (.returned (Value.int .i64 (512 : Int))) hp_) ∧
   ((decide (x4_ = (1 : Int))) = false →
    (((decide (x4_ = (2 : Int))) = true →
      ∃ x10_ : Int, cellsAt hp_ b_ (0 + 1) [(Value.int .i64 x10_)] ∧
      R (.returned (Value.int .i64 (min (max x10_ (0 : Int)) (512 : Int)))) hp_) ∧
     ((decide (x4_ = (2 : Int))) = false →
      R (.returned (Value.int .i64 (0 : Int))) hp_))))) :
  CallsH Tryd.prog 47 #[(Value.agg #[(Value.int .i64 ff0_), (Value.int .i64 ff1_)])] h R := calls_vc fine false Tryd.func47 (ann := A47) (args := [(Value.agg #[(Value.int .i64 ff0_), (Value.int .i64 ff1_)])]) (by kernel_rfl) (Eq.mpr (by kernel_rfl) H)
/-- (*turnout/disk.Disk).forget -/
def A48 : Ann := (.seq .nil (.seq .nil .nil))
theorem V48 (d_ : Option Addr) (h : Hp) (R : Ending → Hp → Prop) (H :
  ∃ b_ o_, d_ = some ⟨b_, o_, none⟩ ∧
  ∃ x5_ : Option Nat, cellsAt h b_ (o_ + 1) [(Value.map x5_)] ∧
  SemH Tryd.prog (Builtin.clear_ #[100] 0 #[(Value.map x5_)]) h fun v_ hp_ =>
  v_ = (Value.tuple #[]) ∧
  ∃ b_1 o_1, d_ = some ⟨b_1, o_1, none⟩ ∧
  Value.oneCell' (Value.slice none 0 0) = true ∧ wrAt hp_ b_1 (o_1 + 2) 1 ∧ ∀ hp_1, hp_1 = setsH hp_ b_1 (o_1 + 2) [(Value.slice none 0 0)] →
  ∃ b_2 o_2, d_ = some ⟨b_2, o_2, none⟩ ∧
  Value.oneCell' (Value.slice none 0 0) = true ∧ wrAt hp_1 b_2 (o_2 + 3) 1 ∧ ∀ hp_2, hp_2 = setsH hp_1 b_2 (o_2 + 3) [(Value.slice none 0 0)] →
  R (.returned (Value.tuple #[])) hp_2) :
  CallsH Tryd.prog 48 #[(Value.pointer d_)] h R := calls_vc fine false Tryd.func48 (ann := A48) (args := [(Value.pointer d_)]) (by kernel_rfl) (Eq.mpr (by kernel_rfl) H)
/-- turnout/turnoutref04.noughts -/
def A49 : Ann := (.seq .nil (.seq .nil .nil))
theorem V49  (h : Hp) (R : Ending → Hp → Prop) (H :
  SemH Tryd.prog (Instr.makeSlice 71 (Value.int .i64 (512 : Int)) (Value.int .i64 (512 : Int))) h fun v_ hp_ =>
  ∃ (x1p_ : Option Addr) (x1n_ x1c_ : Nat), v_ = (Value.slice x1p_ x1n_ x1c_) ∧
  SemH Tryd.prog (convert 71 9 (Value.slice x1p_ x1n_ x1c_)) hp_ fun v_1 hp_1 =>
  ∃ x2_ : ByteArray, v_1 = (Value.string x2_) ∧
  R (.returned (Value.string x2_)) hp_1) :
  CallsH Tryd.prog 49 #[] h R := calls_vc fine false Tryd.func49 (ann := A49) (args := []) (by kernel_rfl) (Eq.mpr (by kernel_rfl) H)
/-- turnout/turnoutref19.New -/
def A50 : Ann := (.seq .nil (.seq .nil (.cut (.seq (.join 24) (.cond (.seq .nil .nil) .nil)) [] (.seq .nil .nil))))
theorem V50 (d_ : Option Addr) (first_ : Int) (count_ : Int) (epoch_ : Int) (h : Hp) (R : Ending → Hp → Prop) (H :
  CallsH Tryd.prog 73 #[(Value.pointer d_), (Value.int .i64 first_), (Value.int .i64 count_)] h fun en_ hp_ =>
  ∃ x14_ : Bool, en_ = .returned (Value.bool x14_) ∧
  ∃ Jv_ : List Value → Hp → Prop,
  (∃ B_ : Bool, ((((!x14_) = true →
      hp_ = hp_ ∧ B_ = true) ∧
     ((!x14_) = false →
      (((decide (epoch_ < (1 : Int))) = true →
        hp_ = hp_ ∧ B_ = true) ∧
       ((decide (epoch_ < (1 : Int))) = false →
        hp_ = hp_ ∧ B_ = (decide ((9223372036854775807 : Int) < epoch_))))))) ∧
   ((B_ = true →
     R (.returned (Value.tuple #[(Value.pointer none), (Value.int .i64 (1 : Int))])) hp_) ∧
    (B_ = false →
     Jv_ [] hp_))) ∧
  (∀  hp_1, Jv_ [] hp_1 →
   ∀ b_ hp_2, b_ = Array.size hp_1 → hp_2 = Array.push hp_1 (.cells #[(Value.pointer d_), (Value.int .i64 first_), (Value.int .i64 count_), (Value.int .u64 epoch_), (Value.int .i64 (0 : Int)), (Value.string (⟨#[]⟩ : ByteArray)), (Value.bool false)] 119) →
   R (.returned (Value.tuple #[(Value.pointer (some ⟨b_, 0, none⟩)), (Value.int .i64 (0 : Int))])) hp_2)) :
  CallsH Tryd.prog 50 #[(Value.pointer d_), (Value.int .i64 first_), (Value.int .i64 count_), (Value.int .u64 epoch_)] h R := calls_vc fine false Tryd.func50 (ann := A50) (args := [(Value.pointer d_), (Value.int .i64 first_), (Value.int .i64 count_), (Value.int .u64 epoch_)]) (by kernel_rfl) (Eq.mpr (by kernel_rfl) H)
/-- (*turnout/turnoutlaw19.side).appends -/
def A51 : Ann := (.seq .nil (.seq (.drawLast [9]) .nil))
theorem V51 (s_ : Option Addr) (r_ : ByteArray) (h : Hp) (R : Ending → Hp → Prop) (H :
  ∃ Cv_ : Hp → Prop, Cv_ h ∧
  ∃ b_ o_, s_ = some ⟨b_, o_, none⟩ ∧
  ∃ x8_ : Option Addr, cellsAt h b_ (o_ + 2) [(Value.pointer x8_)] ∧
  CallsH Tryd.prog 11 #[(Value.pointer x8_), (Value.string r_)] h fun en_ hp_ =>
  ∃ x10_ : Int, en_ = .returned (Value.int .i64 x10_) ∧
  Cv_ hp_ ∧
  ∃ b_1 o_1, s_ = some ⟨b_1, o_1, none⟩ ∧
  ∃ x14_ : Option Addr, (∀ h', Cv_ h' → cellsAt h' b_1 (o_1 + 3) [(Value.pointer x14_)]) ∧
  CallsH Tryd.prog 76 #[(Value.pointer x14_), (Value.string r_)] hp_ fun en_1 hp_1 =>
  ∃ x16_ : Int, en_1 = .returned (Value.int .i64 x16_) ∧
  Cv_ hp_1 ∧
  R (.returned (Value.bool (decide (x10_ = x16_)))) hp_1) :
  CallsH Tryd.prog 51 #[(Value.pointer s_), (Value.string r_)] h R := calls_vc fine false Tryd.func51 (ann := A51) (args := [(Value.pointer s_), (Value.string r_)]) (by kernel_rfl) (Eq.mpr (by kernel_rfl) H)
/-- (*turnout/turnoutref19.Log).Free -/
def A52 : Ann := (.seq .nil (.cut (.seq (.join 19) (.cond (.seq .nil .nil) .nil)) [] (.seq .nil (.seq .nil (.cut (.seq .nil (.cond .nil .nil)) [(3, (.int .i64))] (.seq .nil .nil))))))
theorem V52 (l_ : Option Addr) (h : Hp) (R : Ending → Hp → Prop) (H :
  ∃ Jv_ : List Value → Hp → Prop,
  (∃ B_ : Bool, (∃ b_ o_, l_ = some ⟨b_, o_, none⟩ ∧
    ∃ x8_ : Bool, cellsAt h b_ (o_ + 6) [(Value.bool x8_)] ∧
    ((x8_ = true →
      h = h ∧ B_ = true) ∧
     (x8_ = false →
      ∃ b_1 o_1, l_ = some ⟨b_1, o_1, none⟩ ∧
      ∃ x13_ : Int, cellsAt h b_1 (o_1 + 4) [(Value.int .i64 x13_)] ∧
      ∃ b_2 o_2, l_ = some ⟨b_2, o_2, none⟩ ∧
      ∃ x17_ : Int, cellsAt h b_2 (o_2 + 2) [(Value.int .i64 x17_)] ∧
      h = h ∧ B_ = (decide (x13_ = x17_))))) ∧
   ((B_ = true →
     R (.returned (Value.int .i64 (0 : Int))) h) ∧
    (B_ = false →
     Jv_ [] h))) ∧
  (∀  hp_, Jv_ [] hp_ →
   CallsH Tryd.prog 77 #[(Value.pointer l_)] hp_ fun en_ hp_1 =>
   ∃ x21_ : Int, en_ = .returned (Value.int .i64 x21_) ∧
   ∃ Jv_1 : List Value → Hp → Prop,
   ((((decide ((4 : Int) ≤ x21_)) = true →
      ∃ x25_, IntKind.i64.wrap (x21_ - (3 : Int)) = x25_ ∧
      Jv_1 [(Value.int .i64 x25_)] hp_1) ∧
     ((decide ((4 : Int) ≤ x21_)) = false →
      Jv_1 [(Value.int .i64 (0 : Int))] hp_1))) ∧
   (∀ (n_ : Int) hp_2, Jv_1 [(Value.int .i64 n_)] hp_2 →
    ∃ b_3 o_3, l_ = some ⟨b_3, o_3, none⟩ ∧
    ∃ x30_ : Int, cellsAt hp_2 b_3 (o_3 + 2) [(Value.int .i64 x30_)] ∧
    ∃ x31_, IntKind.i64.wrap (x30_ - (1 : Int)) = x31_ ∧
    ∃ b_4 o_4, l_ = some ⟨b_4, o_4, none⟩ ∧
    ∃ x35_ : Int, cellsAt hp_2 b_4 (o_4 + 4) [(Value.int .i64 x35_)] ∧
    ∃ x36_, IntKind.i64.wrap (x31_ - x35_) = x36_ ∧
    ∃ x37_, IntKind.i64.wrap ((488 : Int) * x36_) = x37_ ∧
    ∃ x38_, IntKind.i64.wrap (n_ + x37_) = x38_ ∧
    R (.returned (Value.int .i64 (min x38_ (65536 : Int)))) hp_2))) :
  CallsH Tryd.prog 52 #[(Value.pointer l_)] h R := calls_vc fine false Tryd.func52 (ann := A52) (args := [(Value.pointer l_)]) (by kernel_rfl) (Eq.mpr (by kernel_rfl) H)
/-- (*turnout/turnoutref19.Log).Sync -/
def A53 : Ann := (.seq .nil (.seq (.seq .nil (.cond (.seq .nil .nil) .nil)) (.cut (.seq .nil (.cond (.seq .nil (.seq .nil (.cond (.seq .nil .nil) .nil))) .nil)) [] (.seq .nil (.seq (.seq .nil (.cond .nil .nil)) (.seq .nil .nil))))))
theorem V53 (l_ : Option Addr) (h : Hp) (R : Ending → Hp → Prop) (H :
  ∃ b_ o_, l_ = some ⟨b_, o_, none⟩ ∧
  ∃ x8_ : Bool, cellsAt h b_ (o_ + 6) [(Value.bool x8_)] ∧
  ((x8_ = true →
    R (.returned (Value.int .i64 (191 : Int))) h) ∧
   (x8_ = false →
    ∃ Jv_ : List Value → Hp → Prop,
    (∃ b_1 o_1, l_ = some ⟨b_1, o_1, none⟩ ∧
     ∃ x12_ : ByteArray, cellsAt h b_1 (o_1 + 5) [(Value.string x12_)] ∧
     (((decide (x12_ ≠ (⟨#[]⟩ : ByteArray))) = true →
       CallsH Tryd.prog 78 #[(Value.pointer l_)] h fun en_ hp_ =>
       ∃ x15_ : Int, en_ = .returned (Value.int .i64 x15_) ∧
       (((decide (x15_ ≠ (0 : Int))) = true →
         R (.returned (Value.int .i64 x15_)) hp_) ∧
        ((decide (x15_ ≠ (0 : Int))) = false →
         Jv_ [] hp_))) ∧
      ((decide (x12_ ≠ (⟨#[]⟩ : ByteArray))) = false →
       Jv_ [] h))) ∧
    (∀  hp_1, Jv_ [] hp_1 →
     ∃ b_2 o_2, l_ = some ⟨b_2, o_2, none⟩ ∧
     ∃ x22_ : Option Addr, cellsAt hp_1 b_2 (o_2 + 0) [(Value.pointer x22_)] ∧
     CallsH Tryd.prog 79 #[(Value.pointer x22_)] hp_1 fun en_1 hp_2 =>
     ∃ x23_ : Int, en_1 = .returned (Value.int .i64 x23_) ∧
     (((decide (x23_ ≠ (0 : Int))) = true →
       ∃ b_3 o_3, l_ = some ⟨b_3, o_3, none⟩ ∧
       Value.oneCell' (Value.bool true) = true ∧ wrAt hp_2 b_3 (o_3 + 6) 1 ∧ ∀ hp_3, hp_3 = setsH hp_2 b_3 (o_3 + 6) [(Value.bool true)] →
       R (.returned (Value.int .i64 x23_)) hp_3) ∧
      ((decide (x23_ ≠ (0 : Int))) = false →
       R (.returned (Value.int .i64 x23_)) hp_2)))))) :
  CallsH Tryd.prog 53 #[(Value.pointer l_)] h R := calls_vc fine false Tryd.func53 (ann := A53) (args := [(Value.pointer l_)]) (by kernel_rfl) (Eq.mpr (by kernel_rfl) H)
/-- (*turnout/turnoutref04.Disk).Cut -/
def A54 : Ann := (.seq .nil (.seq (.join 15) (.cond .nil .nil)))
theorem V54 (d_ : Option Addr) (steps_ : Int) (h : Hp) (R : Ending → Hp → Prop) (H :
  ∃ b_ o_, d_ = some ⟨b_, o_, none⟩ ∧
  Value.oneCell' (Value.int .i64 (0 : Int)) = true ∧ wrAt h b_ (o_ + 3) 1 ∧ ∀ hp_, hp_ = setsH h b_ (o_ + 3) [(Value.int .i64 (0 : Int))] →
  ∃ B_ : Bool, ((((decide ((0 : Int) < steps_)) = true →
     ∃ b_1 o_1, d_ = some ⟨b_1, o_1, none⟩ ∧
     ∃ x13_ : Bool, cellsAt hp_ b_1 (o_1 + 2) [(Value.bool x13_)] ∧
     hp_ = hp_ ∧ B_ = (!x13_)) ∧
    ((decide ((0 : Int) < steps_)) = false →
     hp_ = hp_ ∧ B_ = false))) ∧
  ((B_ = true →
    ∃ b_2 o_2, d_ = some ⟨b_2, o_2, none⟩ ∧
    Value.oneCell' (Value.int .i64 steps_) = true ∧ wrAt hp_ b_2 (o_2 + 3) 1 ∧ ∀ hp_1, hp_1 = setsH hp_ b_2 (o_2 + 3) [(Value.int .i64 steps_)] →
    R (.returned (Value.tuple #[])) hp_1) ∧
   (B_ = false →
    R (.returned (Value.tuple #[])) hp_))) :
  CallsH Tryd.prog 54 #[(Value.pointer d_), (Value.int .i64 steps_)] h R := calls_vc fine false Tryd.func54 (ann := A54) (args := [(Value.pointer d_), (Value.int .i64 steps_)]) (by kernel_rfl) (Eq.mpr (by kernel_rfl) H)
/-- (*turnout/turnoutref04.Disk).Crash -/
def A55 : Ann := (.cut (.seq .nil (.block (.loop [(4, (.int .i64))] (.cut (.seq (.join 19) (.cond .nil .nil)) [] (.seq (.block (.seq .nil (.seq .nil (.cut (.seq .nil (.block (.seq .nil (.cond .nil (.seq .nil (.cond .nil .nil)))))) [(6, (.int .i64))] .nil)))) .nil))))) [] (.seq .nil (.seq .nil .nil)))
theorem V55 (d_ : Option Addr) (fatesp_ : Option Addr) (fatesn_ fatesc_ : Nat) (h : Hp) (R : Ending → Hp → Prop) (H :
  ∃ Jv_ : List Value → Hp → Prop,
  (∃ (Iv_ : List Value → Hp → Prop) (m_ : List Value → Hp → Nat), Iv_ [(Value.int .i64 (0 : Int))] h ∧
   (∀ (i_ : Int) hp_, Iv_ [(Value.int .i64 i_)] hp_ →
    ∃ Jv_1 : List Value → Hp → Prop,
    (∃ B_ : Bool, (∃ b_ o_, d_ = some ⟨b_, o_, none⟩ ∧
      ∃ (x11p_ : Option Addr) (x11n_ x11c_ : Nat), cellsAt hp_ b_ (o_ + 1) [(Value.slice x11p_ x11n_ x11c_)] ∧
      (((decide (i_ < ((x11n_ : Nat) : Int))) = true →
        hp_ = hp_ ∧ B_ = (decide (i_ < ((fatesn_ : Nat) : Int)))) ∧
       ((decide (i_ < ((x11n_ : Nat) : Int))) = false →
        hp_ = hp_ ∧ B_ = false))) ∧
     ((B_ = true →
       Jv_1 [] hp_) ∧
      (B_ = false →
       Jv_ [] hp_))) ∧
    (∀  hp_1, Jv_1 [] hp_1 →
     ∃ b_1 o_1, d_ = some ⟨b_1, o_1, none⟩ ∧
     ∃ (x25p_ : Option Addr) (x25n_ x25c_ : Nat), cellsAt hp_1 b_1 (o_1 + 1) [(Value.slice x25p_ x25n_ x25c_)] ∧
     ∃ b_2 o_2, x25p_ = some ⟨b_2, o_2, none⟩ ∧ 0 ≤ i_ ∧ i_ < (x25n_ : Int) ∧
     ∃ x28f0_ : Int, ∃ x28f1_ : ByteArray, cellsAt hp_1 b_2 (o_2 + Int.toNat i_ * 2) [(Value.int .i64 x28f0_), (Value.string x28f1_)] ∧
     ∀ b_3 hp_2, b_3 = Array.size hp_1 → hp_2 = Array.push hp_1 (.cells (zeros Tryd.prog 141) 141) → (∃ i z, Tryd.prog.info? 141 = some i ∧ i.zero = some z) ∧
     List.length [(Value.int .i64 x28f0_), (Value.string x28f1_)] = 2 ∧ (∀ c ∈ [(Value.int .i64 x28f0_), (Value.string x28f1_)], c.oneCell' = true) ∧ wrAt hp_2 b_3 0 2 ∧ ∀ hp_3, hp_3 = setsH hp_2 b_3 0 [(Value.int .i64 x28f0_), (Value.string x28f1_)] →
     ∃ Jv_2 : List Value → Hp → Prop,
     (∃ b_4 o_3, fatesp_ = some ⟨b_4, o_3, none⟩ ∧ 0 ≤ i_ ∧ i_ < (fatesn_ : Int) ∧
      ∃ x33_ : Int, cellsAt hp_3 b_4 ((o_3 + Int.toNat i_ * 2) + 0) [(Value.int .i64 x33_)] ∧
      (((decide (x33_ = (1 : Int))) = true →
        Jv_2 [(Value.int .i64 (512 : Int))] hp_3) ∧
       ((decide (x33_ = (1 : Int))) = false →
        (((decide (x33_ = (2 : Int))) = true →
          ∃ b_5 o_4, fatesp_ = some ⟨b_5, o_4, none⟩ ∧ 0 ≤ i_ ∧ i_ < (fatesn_ : Int) ∧
          ∃ x42_ : Int, cellsAt hp_3 b_5 ((o_4 + Int.toNat i_ * 2) + 1) [(Value.int .i64 x42_)] ∧
          Jv_2 [(Value.int .i64 (min (max x42_ (0 : Int)) (512 : Int)))] hp_3) ∧
         ((decide (x33_ = (2 : Int))) = false →
          Jv_2 [(Value.int .i64 (0 : Int))] hp_3))))) ∧
     (∀ (k_ : Int) hp_4, Jv_2 [(Value.int .i64 k_)] hp_4 →
      ∃ b_6 o_5, d_ = some ⟨b_6, o_5, none⟩ ∧
      ∃ (x48p_ : Option Addr) (x48n_ x48c_ : Nat), cellsAt hp_4 b_6 (o_5 + 0) [(Value.slice x48p_ x48n_ x48c_)] ∧
      ∃ x50_ : Int, cellsAt hp_4 b_3 (0 + 0) [(Value.int .i64 x50_)] ∧
      ∃ x52_ : ByteArray, cellsAt hp_4 b_3 (0 + 1) [(Value.string x52_)] ∧
      ∃ u_ : Nat, k_ = (u_ : Int) ∧
      0 ≤ u_ ∧ u_ ≤ ByteArray.size x52_ ∧ ∃ x54_, ByteArray.extract x52_ 0 u_ = x54_ ∧
      ∃ b_7 o_6, d_ = some ⟨b_7, o_6, none⟩ ∧
      ∃ (x58p_ : Option Addr) (x58n_ x58c_ : Nat), cellsAt hp_4 b_7 (o_6 + 0) [(Value.slice x58p_ x58n_ x58c_)] ∧
      ∃ x60_ : Int, cellsAt hp_4 b_3 (0 + 0) [(Value.int .i64 x60_)] ∧
      ∃ b_8 o_7, x58p_ = some ⟨b_8, o_7, none⟩ ∧ 0 ≤ x60_ ∧ x60_ < (x58n_ : Int) ∧
      ∃ x62_ : ByteArray, cellsAt hp_4 b_8 (o_7 + Int.toNat x60_ * 1) [(Value.string x62_)] ∧
      ∃ l_ : Nat, k_ = (l_ : Int) ∧
      l_ ≤ (ByteArray.size x62_) ∧ (ByteArray.size x62_) ≤ ByteArray.size x62_ ∧ ∃ x64_, ByteArray.extract x62_ l_ (ByteArray.size x62_) = x64_ ∧
      ByteArray.size x54_ + ByteArray.size x64_ ≤ 9223372036854775807 ∧ ∃ x65_, x54_ ++ x64_ = x65_ ∧
      ∃ b_9 o_8, x48p_ = some ⟨b_9, o_8, none⟩ ∧ 0 ≤ x50_ ∧ x50_ < (x48n_ : Int) ∧
      Value.oneCell' (Value.string x65_) = true ∧ wrAt hp_4 b_9 (o_8 + Int.toNat x50_ * 1) 1 ∧ ∀ hp_5, hp_5 = setsH hp_4 b_9 (o_8 + Int.toNat x50_ * 1) [(Value.string x65_)] →
      ∃ x21_, IntKind.i64.wrap (i_ + (1 : Int)) = x21_ ∧
      (Iv_ [(Value.int .i64 x21_)] hp_5 ∧ m_ [(Value.int .i64 x21_)] hp_5 < m_ [(Value.int .i64 i_)] hp_))))) ∧
  (∀  hp_6, Jv_ [] hp_6 →
   ∃ b_10 o_9, d_ = some ⟨b_10, o_9, none⟩ ∧
   Value.oneCell' (Value.slice none 0 0) = true ∧ wrAt hp_6 b_10 (o_9 + 1) 1 ∧ ∀ hp_7, hp_7 = setsH hp_6 b_10 (o_9 + 1) [(Value.slice none 0 0)] →
   ∃ b_11 o_10, d_ = some ⟨b_11, o_10, none⟩ ∧
   Value.oneCell' (Value.bool false) = true ∧ wrAt hp_7 b_11 (o_10 + 2) 1 ∧ ∀ hp_8, hp_8 = setsH hp_7 b_11 (o_10 + 2) [(Value.bool false)] →
   ∃ b_12 o_11, d_ = some ⟨b_12, o_11, none⟩ ∧
   Value.oneCell' (Value.int .i64 (0 : Int)) = true ∧ wrAt hp_8 b_12 (o_11 + 3) 1 ∧ ∀ hp_9, hp_9 = setsH hp_8 b_12 (o_11 + 3) [(Value.int .i64 (0 : Int))] →
   R (.returned (Value.tuple #[])) hp_9)) :
  CallsH Tryd.prog 55 #[(Value.pointer d_), (Value.slice fatesp_ fatesn_ fatesc_)] h R := calls_vc fine false Tryd.func55 (ann := A55) (args := [(Value.pointer d_), (Value.slice fatesp_ fatesn_ fatesc_)]) (by kernel_rfl) (Eq.mpr (by kernel_rfl) H)
/-- (*turnout/disk.Disk).Write -/
def A56 : Ann := (.seq .nil (.seq .nil (.seq (.seq .nil (.cond (.seq .nil .nil) .nil)) (.seq (.seq .nil (.cond (.seq .nil .nil) .nil)) (.seq (.seq .nil (.cond (.seq .nil .nil) .nil)) (.seq .nil (.seq (.drawLast [4]) (.seq .nil (.seq .nil (.seq .nil .nil))))))))))
theorem V56 (d_ : Option Addr) (n_ : Int) (s_ : ByteArray) (h : Hp) (R : Ending → Hp → Prop) (H :
  ∀ b_ hp_, b_ = Array.size h → hp_ = Array.push h (.cells #[(Value.int .i64 n_)] 3) →
  ∀ b_1 hp_1, b_1 = Array.size hp_ → hp_1 = Array.push hp_ (.cells #[(Value.string s_)] 9) →
  ∃ x9_ : Int, cellsAt hp_1 b_ 0 [(Value.int .i64 x9_)] ∧
  CallsH Tryd.prog 66 #[(Value.pointer d_), (Value.int .i64 x9_)] hp_1 fun en_ hp_2 =>
  ∃ x10_ : Int, en_ = .returned (Value.int .i64 x10_) ∧
  (((decide (x10_ ≠ (0 : Int))) = true →
    R (.returned (Value.int .i64 x10_)) hp_2) ∧
   ((decide (x10_ ≠ (0 : Int))) = false →
    ∃ x14_ : ByteArray, cellsAt hp_2 b_1 0 [(Value.string x14_)] ∧
    (((decide ((ByteArray.size x14_ : Int) ≠ (512 : Int))) = true →
      R (.returned (Value.int .i64 (42 : Int))) hp_2) ∧
     ((decide ((ByteArray.size x14_ : Int) ≠ (512 : Int))) = false →
      CallsH Tryd.prog 67 #[(Value.pointer d_)] hp_2 fun en_1 hp_3 =>
      ∃ x18_ : Bool, en_1 = .returned (Value.bool x18_) ∧
      (((!x18_) = true →
        R (.returned (Value.int .i64 (40 : Int))) hp_3) ∧
       ((!x18_) = false →
        ∃ b_2 o_, d_ = some ⟨b_2, o_, none⟩ ∧
        ∃ x23_ : Option Nat, cellsAt hp_3 b_2 (o_ + 1) [(Value.map x23_)] ∧
        ∃ x24_ : Int, cellsAt hp_3 b_ 0 [(Value.int .i64 x24_)] ∧
        ∃ x25_ : ByteArray, cellsAt hp_3 b_1 0 [(Value.string x25_)] ∧
        SemH Tryd.prog (Instr.mapUpdate 100 (Value.map x23_) (Value.int .i64 x24_) (Value.string x25_)) hp_3 fun _ hp_4 =>
        ∃ Cv_ : Hp → Prop, Cv_ hp_4 ∧
        ∃ b_3 o_1, d_ = some ⟨b_3, o_1, none⟩ ∧
        ∃ (x30p_ : Option Addr) (x30n_ x30c_ : Nat), (∀ h', Cv_ h' → cellsAt h' b_3 (o_1 + 2) [(Value.slice x30p_ x30n_ x30c_)]) ∧
        ∃ x31_ : Int, cellsAt hp_4 b_ 0 [(Value.int .i64 x31_)] ∧
        SemH Tryd.prog (Instr.buildSlice 52 1 #[(0, (Value.int .i64 x31_))]) hp_4 fun v_ hp_5 =>
        ∃ (x32p_ : Option Addr) (x32n_ x32c_ : Nat), v_ = (Value.slice x32p_ x32n_ x32c_) ∧
        Cv_ hp_5 ∧
        SemH Tryd.prog (Builtin.append_ #[52, 52] 52 #[(Value.slice x30p_ x30n_ x30c_), (Value.slice x32p_ x32n_ x32c_)]) hp_5 fun v_1 hp_6 =>
        ∃ (x33p_ : Option Addr) (x33n_ x33c_ : Nat), v_1 = (Value.slice x33p_ x33n_ x33c_) ∧
        Cv_ hp_6 ∧
        ∃ b_4 o_2, d_ = some ⟨b_4, o_2, none⟩ ∧
        Value.oneCell' (Value.slice x33p_ x33n_ x33c_) = true ∧ wrAt hp_6 b_4 (o_2 + 2) 1 ∧ ∀ hp_7, hp_7 = setsH hp_6 b_4 (o_2 + 2) [(Value.slice x33p_ x33n_ x33c_)] →
        ∃ b_5 o_3, d_ = some ⟨b_5, o_3, none⟩ ∧
        ∃ (x40p_ : Option Addr) (x40n_ x40c_ : Nat), cellsAt hp_7 b_5 (o_3 + 3) [(Value.slice x40p_ x40n_ x40c_)] ∧
        SemH Tryd.prog (Instr.buildSlice 101 1 #[(0, (Value.func (.func 80) #[] #[(Value.pointer (some ⟨b_1, 0, none⟩)), (Value.pointer (some ⟨b_, 0, none⟩))]))]) hp_7 fun v_2 hp_8 =>
        ∃ (x42p_ : Option Addr) (x42n_ x42c_ : Nat), v_2 = (Value.slice x42p_ x42n_ x42c_) ∧
        SemH Tryd.prog (Builtin.append_ #[101, 101] 101 #[(Value.slice x40p_ x40n_ x40c_), (Value.slice x42p_ x42n_ x42c_)]) hp_8 fun v_3 hp_9 =>
        ∃ (x43p_ : Option Addr) (x43n_ x43c_ : Nat), v_3 = (Value.slice x43p_ x43n_ x43c_) ∧
        ∃ b_6 o_4, d_ = some ⟨b_6, o_4, none⟩ ∧
        Value.oneCell' (Value.slice x43p_ x43n_ x43c_) = true ∧ wrAt hp_9 b_6 (o_4 + 3) 1 ∧ ∀ hp_10, hp_10 = setsH hp_9 b_6 (o_4 + 3) [(Value.slice x43p_ x43n_ x43c_)] →
        ∃ b_7 o_5, d_ = some ⟨b_7, o_5, none⟩ ∧
        ∃ x50_ : Int, cellsAt hp_10 b_7 ((o_5 + 6) + 1) [(Value.int .i64 x50_)] ∧
        ∃ x51_, IntKind.i64.wrap (x50_ + (1 : Int)) = x51_ ∧
        ∃ b_8 o_6, d_ = some ⟨b_8, o_6, none⟩ ∧
        Value.oneCell' (Value.int .i64 x51_) = true ∧ wrAt hp_10 b_8 ((o_6 + 6) + 1) 1 ∧ ∀ hp_11, hp_11 = setsH hp_10 b_8 ((o_6 + 6) + 1) [(Value.int .i64 x51_)] →
        R (.returned (Value.int .i64 (0 : Int))) hp_11))))))) :
  CallsH Tryd.prog 56 #[(Value.pointer d_), (Value.int .i64 n_), (Value.string s_)] h R := calls_vc fine false Tryd.func56 (ann := A56) (args := [(Value.pointer d_), (Value.int .i64 n_), (Value.string s_)]) (by kernel_rfl) (Eq.mpr (by kernel_rfl) H)
/-- (*turnout/turnoutref04.Disk).Write -/
def A57 : Ann := (.seq .nil (.seq (.seq .nil (.cond (.seq .nil .nil) .nil)) (.cut (.seq (.join 22) (.cond (.seq .nil .nil) .nil)) [] (.seq (.seq .nil (.cond (.seq .nil .nil) .nil)) (.seq .nil (.seq (.seq .nil (.cond (.seq .nil .nil) .nil)) (.seq .nil (.seq .nil (.seq .nil .nil)))))))))
theorem V57 (d_ : Option Addr) (n_ : Int) (s_ : ByteArray) (h : Hp) (R : Ending → Hp → Prop) (H :
  ∃ b_ o_, d_ = some ⟨b_, o_, none⟩ ∧
  ∃ x11_ : Bool, cellsAt h b_ (o_ + 2) [(Value.bool x11_)] ∧
  ((x11_ = true →
    R (.returned (Value.int .i64 (40 : Int))) h) ∧
   (x11_ = false →
    ∃ Jv_ : List Value → Hp → Prop,
    (∃ B_ : Bool, ((((decide (n_ < (0 : Int))) = true →
        h = h ∧ B_ = true) ∧
       ((decide (n_ < (0 : Int))) = false →
        ∃ b_1 o_1, d_ = some ⟨b_1, o_1, none⟩ ∧
        ∃ (x19p_ : Option Addr) (x19n_ x19c_ : Nat), cellsAt h b_1 (o_1 + 0) [(Value.slice x19p_ x19n_ x19c_)] ∧
        h = h ∧ B_ = (decide (((x19n_ : Nat) : Int) ≤ n_))))) ∧
     ((B_ = true →
       R (.returned (Value.int .i64 (41 : Int))) h) ∧
      (B_ = false →
       Jv_ [] h))) ∧
    (∀  hp_, Jv_ [] hp_ →
     (((decide ((ByteArray.size s_ : Int) ≠ (512 : Int))) = true →
       R (.returned (Value.int .i64 (42 : Int))) hp_) ∧
      ((decide ((ByteArray.size s_ : Int) ≠ (512 : Int))) = false →
       CallsH Tryd.prog 81 #[(Value.pointer d_)] hp_ fun en_ hp_1 =>
       ∃ x27_ : Bool, en_ = .returned (Value.bool x27_) ∧
       ((x27_ = true →
         R (.returned (Value.int .i64 (40 : Int))) hp_1) ∧
        (x27_ = false →
         ∃ b_2 o_2, d_ = some ⟨b_2, o_2, none⟩ ∧
         ∃ (x33p_ : Option Addr) (x33n_ x33c_ : Nat), cellsAt hp_1 b_2 (o_2 + 1) [(Value.slice x33p_ x33n_ x33c_)] ∧
         SemH Tryd.prog (Instr.buildSlice 104 1 #[(0, (Value.agg #[(Value.int .i64 n_), (Value.string s_)]))]) hp_1 fun v_ hp_2 =>
         ∃ (x37p_ : Option Addr) (x37n_ x37c_ : Nat), v_ = (Value.slice x37p_ x37n_ x37c_) ∧
         SemH Tryd.prog (Builtin.append_ #[104, 104] 104 #[(Value.slice x33p_ x33n_ x33c_), (Value.slice x37p_ x37n_ x37c_)]) hp_2 fun v_1 hp_3 =>
         ∃ (x38p_ : Option Addr) (x38n_ x38c_ : Nat), v_1 = (Value.slice x38p_ x38n_ x38c_) ∧
         ∃ b_3 o_3, d_ = some ⟨b_3, o_3, none⟩ ∧
         Value.oneCell' (Value.slice x38p_ x38n_ x38c_) = true ∧ wrAt hp_3 b_3 (o_3 + 1) 1 ∧ ∀ hp_4, hp_4 = setsH hp_3 b_3 (o_3 + 1) [(Value.slice x38p_ x38n_ x38c_)] →
         ∃ b_4 o_4, d_ = some ⟨b_4, o_4, none⟩ ∧
         ∃ x45_ : Int, cellsAt hp_4 b_4 ((o_4 + 4) + 1) [(Value.int .i64 x45_)] ∧
         ∃ x46_, IntKind.i64.wrap (x45_ + (1 : Int)) = x46_ ∧
         ∃ b_5 o_5, d_ = some ⟨b_5, o_5, none⟩ ∧
         Value.oneCell' (Value.int .i64 x46_) = true ∧ wrAt hp_4 b_5 ((o_5 + 4) + 1) 1 ∧ ∀ hp_5, hp_5 = setsH hp_4 b_5 ((o_5 + 4) + 1) [(Value.int .i64 x46_)] →
         R (.returned (Value.int .i64 (0 : Int))) hp_5)))))))) :
  CallsH Tryd.prog 57 #[(Value.pointer d_), (Value.int .i64 n_), (Value.string s_)] h R := calls_vc fine false Tryd.func57 (ann := A57) (args := [(Value.pointer d_), (Value.int .i64 n_), (Value.string s_)]) (by kernel_rfl) (Eq.mpr (by kernel_rfl) H)
/-- (*turnout/turnoutref19.Log).At -/
def A58 : Ann := (.seq .nil (.seq .nil .nil))
theorem V58 (l_ : Option Addr) (h : Hp) (R : Ending → Hp → Prop) (H :
  ∃ b_ o_, l_ = some ⟨b_, o_, none⟩ ∧
  ∃ x7_ : Int, cellsAt h b_ (o_ + 4) [(Value.int .i64 x7_)] ∧
  ∃ b_1 o_1, l_ = some ⟨b_1, o_1, none⟩ ∧
  ∃ x11_ : ByteArray, cellsAt h b_1 (o_1 + 5) [(Value.string x11_)] ∧
  R (.returned (Value.tuple #[(Value.int .i64 x7_), (Value.int .i64 (ByteArray.size x11_ : Int))])) h) :
  CallsH Tryd.prog 58 #[(Value.pointer l_)] h R := calls_vc fine false Tryd.func58 (ann := A58) (args := [(Value.pointer l_)]) (by kernel_rfl) (Eq.mpr (by kernel_rfl) H)
/-- (*turnout/turnoutref04.Disk).Stats -/
def A59 : Ann := (.seq .nil (.seq .nil .nil))
theorem V59 (d_ : Option Addr) (h : Hp) (R : Ending → Hp → Prop) (H :
  ∀ b_ hp_, b_ = Array.size h → hp_ = Array.push h (.cells (zeros Tryd.prog 48) 48) → (∃ i z, Tryd.prog.info? 48 = some i ∧ i.zero = some z) ∧
  ∃ b_1 o_, d_ = some ⟨b_1, o_, none⟩ ∧
  ∃ x6f0_ : Int, ∃ x6f1_ : Int, ∃ x6f2_ : Int, cellsAt hp_ b_1 (o_ + 4) [(Value.int .i64 x6f0_), (Value.int .i64 x6f1_), (Value.int .i64 x6f2_)] ∧
  List.length [(Value.int .i64 x6f0_), (Value.int .i64 x6f1_), (Value.int .i64 x6f2_)] = 3 ∧ (∀ c ∈ [(Value.int .i64 x6f0_), (Value.int .i64 x6f1_), (Value.int .i64 x6f2_)], c.oneCell' = true) ∧ wrAt hp_ b_ 0 3 ∧ ∀ hp_1, hp_1 = setsH hp_ b_ 0 [(Value.int .i64 x6f0_), (Value.int .i64 x6f1_), (Value.int .i64 x6f2_)] →
  ∃ resf0_ : Int, ∃ resf1_ : Int, ∃ resf2_ : Int, cellsAt hp_1 b_ 0 [(Value.int .i64 resf0_), (Value.int .i64 resf1_), (Value.int .i64 resf2_)] ∧
  R (.returned (Value.agg #[(Value.int .i64 resf0_), (Value.int .i64 resf1_), (Value.int .i64 resf2_)])) hp_1) :
  CallsH Tryd.prog 59 #[(Value.pointer d_)] h R := calls_vc fine false Tryd.func59 (ann := A59) (args := [(Value.pointer d_)]) (by kernel_rfl) (Eq.mpr (by kernel_rfl) H)
/-- (*turnout/disk.Disk).Off -/
def A60 : Ann := (.seq .nil (.seq (.join 2) .nil))
theorem V60 (d_ : Option Addr) (h : Hp) (R : Ending → Hp → Prop) (H :
  ∃ B_ : Bool, (∃ x4_, EqV Tryd.prog 41 (Value.pointer d_) (Value.pointer none) x4_ ∧
   (((!x4_) = true →
     ∃ b_ o_, d_ = some ⟨b_, o_, none⟩ ∧
     ∃ x9_ : Bool, cellsAt h b_ (o_ + 4) [(Value.bool x9_)] ∧
     h = h ∧ B_ = x9_) ∧
    ((!x4_) = false →
     h = h ∧ B_ = false))) ∧
  R (.returned (Value.bool B_)) h) :
  CallsH Tryd.prog 60 #[(Value.pointer d_)] h R := calls_vc fine false Tryd.func60 (ann := A60) (args := [(Value.pointer d_)]) (by kernel_rfl) (Eq.mpr (by kernel_rfl) H)
/-- (*turnout/turnoutref04.Disk).Off -/
def A61 : Ann := (.seq .nil (.seq .nil .nil))
theorem V61 (d_ : Option Addr) (h : Hp) (R : Ending → Hp → Prop) (H :
  ∃ b_ o_, d_ = some ⟨b_, o_, none⟩ ∧
  ∃ x6_ : Bool, cellsAt h b_ (o_ + 2) [(Value.bool x6_)] ∧
  R (.returned (Value.bool x6_)) h) :
  CallsH Tryd.prog 61 #[(Value.pointer d_)] h R := calls_vc fine false Tryd.func61 (ann := A61) (args := [(Value.pointer d_)]) (by kernel_rfl) (Eq.mpr (by kernel_rfl) H)
/-- (*turnout/turnoutref04.Disk).Pending -/
def A62 : Ann := (.seq .nil (.seq .nil (.seq (.seq .nil (.block (.loop [(3, .slice), (4, (.int .i64))] (.seq (.seq .nil (.cond .nil .nil)) (.seq (.block .nil) .nil))))) (.seq .nil .nil))))
theorem V62 (d_ : Option Addr) (h : Hp) (R : Ending → Hp → Prop) (H :
  ∃ (Iv_ : List Value → Hp → Prop) (m_ : List Value → Hp → Nat), Iv_ [(Value.slice none 0 0), (Value.int .i64 (0 : Int))] h ∧
  (∀ (outp_ : Option Addr) (outn_ outc_ : Nat) (i_ : Int) hp_, Iv_ [(Value.slice outp_ outn_ outc_), (Value.int .i64 i_)] hp_ →
   ∃ b_ o_, d_ = some ⟨b_, o_, none⟩ ∧
   ∃ (x9p_ : Option Addr) (x9n_ x9c_ : Nat), cellsAt hp_ b_ (o_ + 1) [(Value.slice x9p_ x9n_ x9c_)] ∧
   (((decide (i_ < ((x9n_ : Nat) : Int))) = true →
     ∃ b_1 o_1, d_ = some ⟨b_1, o_1, none⟩ ∧
     ∃ (x18p_ : Option Addr) (x18n_ x18c_ : Nat), cellsAt hp_ b_1 (o_1 + 1) [(Value.slice x18p_ x18n_ x18c_)] ∧
     ∃ b_2 o_2, x18p_ = some ⟨b_2, o_2, none⟩ ∧ 0 ≤ i_ ∧ i_ < (x18n_ : Int) ∧
     ∃ x22_ : Int, cellsAt hp_ b_2 ((o_2 + Int.toNat i_ * 2) + 0) [(Value.int .i64 x22_)] ∧
     SemH Tryd.prog (Instr.buildSlice 52 1 #[(0, (Value.int .i64 x22_))]) hp_ fun v_ hp_1 =>
     ∃ (x23p_ : Option Addr) (x23n_ x23c_ : Nat), v_ = (Value.slice x23p_ x23n_ x23c_) ∧
     SemH Tryd.prog (Builtin.append_ #[52, 52] 52 #[(Value.slice outp_ outn_ outc_), (Value.slice x23p_ x23n_ x23c_)]) hp_1 fun v_1 hp_2 =>
     ∃ (x24p_ : Option Addr) (x24n_ x24c_ : Nat), v_1 = (Value.slice x24p_ x24n_ x24c_) ∧
     ∃ x13_, IntKind.i64.wrap (i_ + (1 : Int)) = x13_ ∧
     (Iv_ [(Value.slice x24p_ x24n_ x24c_), (Value.int .i64 x13_)] hp_2 ∧ m_ [(Value.slice x24p_ x24n_ x24c_), (Value.int .i64 x13_)] hp_2 < m_ [(Value.slice outp_ outn_ outc_), (Value.int .i64 i_)] hp_)) ∧
    ((decide (i_ < ((x9n_ : Nat) : Int))) = false →
     R (.returned (Value.slice outp_ outn_ outc_)) hp_)))) :
  CallsH Tryd.prog 62 #[(Value.pointer d_)] h R := calls_vc fine false Tryd.func62 (ann := A62) (args := [(Value.pointer d_)]) (by kernel_rfl) (Eq.mpr (by kernel_rfl) H)
/-- (*turnout/disk.Disk).Image -/
def A63 : Ann := (.seq .nil (.seq (.seq .nil (.cond (.seq .nil .nil) .nil)) (.seq .nil (.seq (.seq .nil (.block (.loop [(3, .slice), (20, (.int .i64))] (.seq .nil (.seq (.cond .nil .nil) (.seq (.block (.seq .nil .nil)) .nil)))))) (.seq .nil .nil)))))
theorem V63 (d_ : Option Addr) (h : Hp) (R : Ending → Hp → Prop) (H :
  ∃ x7_, EqV Tryd.prog 41 (Value.pointer d_) (Value.pointer none) x7_ ∧
  ((x7_ = true →
    R (.returned (Value.string (⟨#[]⟩ : ByteArray))) h) ∧
   (x7_ = false →
    ∃ b_ o_, d_ = some ⟨b_, o_, none⟩ ∧
    ∃ (x11p_ : Option Addr) (x11n_ x11c_ : Nat), cellsAt h b_ (o_ + 0) [(Value.slice x11p_ x11n_ x11c_)] ∧
    ∃ x13_, IntKind.i64.wrap (((x11n_ : Nat) : Int) * (512 : Int)) = x13_ ∧
    SemH Tryd.prog (Instr.makeSlice 71 (Value.int .i64 (0 : Int)) (Value.int .i64 x13_)) h fun v_ hp_ =>
    ∃ (x14p_ : Option Addr) (x14n_ x14c_ : Nat), v_ = (Value.slice x14p_ x14n_ x14c_) ∧
    ∃ b_1 o_1, d_ = some ⟨b_1, o_1, none⟩ ∧
    ∃ (x18p_ : Option Addr) (x18n_ x18c_ : Nat), cellsAt hp_ b_1 (o_1 + 0) [(Value.slice x18p_ x18n_ x18c_)] ∧
    ∃ (Iv_ : List Value → Hp → Prop) (m_ : List Value → Hp → Nat), Iv_ [(Value.slice x14p_ x14n_ x14c_), (Value.int .i64 (0 : Int))] hp_ ∧
    (∀ (bp_ : Option Addr) (bn_ bc_ : Nat) (x20_ : Int) hp_1, Iv_ [(Value.slice bp_ bn_ bc_), (Value.int .i64 x20_)] hp_1 →
     (((decide (x20_ < ((x18n_ : Nat) : Int))) = true →
       ∃ b_2 o_2, x18p_ = some ⟨b_2, o_2, none⟩ ∧ 0 ≤ x20_ ∧ x20_ < (x18n_ : Int) ∧
       ∃ x23_ : ByteArray, cellsAt hp_1 b_2 (o_2 + Int.toNat x20_ * 1) [(Value.string x23_)] ∧
       SemH Tryd.prog (Builtin.append_ #[71, 9] 71 #[(Value.slice bp_ bn_ bc_), (Value.string x23_)]) hp_1 fun v_1 hp_2 =>
       ∃ (x26p_ : Option Addr) (x26n_ x26c_ : Nat), v_1 = (Value.slice x26p_ x26n_ x26c_) ∧
       ∃ x27_, IntKind.i64.wrap (x20_ + (1 : Int)) = x27_ ∧
       (Iv_ [(Value.slice x26p_ x26n_ x26c_), (Value.int .i64 x27_)] hp_2 ∧ m_ [(Value.slice x26p_ x26n_ x26c_), (Value.int .i64 x27_)] hp_2 < m_ [(Value.slice bp_ bn_ bc_), (Value.int .i64 x20_)] hp_1)) ∧
      ((decide (x20_ < ((x18n_ : Nat) : Int))) = false →
       SemH Tryd.prog (convert 71 9 (Value.slice bp_ bn_ bc_)) hp_1 fun v_2 hp_3 =>
       ∃ x29_ : ByteArray, v_2 = (Value.string x29_) ∧
       R (.returned (Value.string x29_)) hp_3)))))) :
  CallsH Tryd.prog 63 #[(Value.pointer d_)] h R := calls_vc fine false Tryd.func63 (ann := A63) (args := [(Value.pointer d_)]) (by kernel_rfl) (Eq.mpr (by kernel_rfl) H)
/-- (*turnout/turnoutref04.Disk).Image -/
def A64 : Ann := (.seq .nil (.seq .nil (.seq (.seq .nil (.block (.loop [(3, .slice), (4, (.int .i64))] (.seq (.seq .nil (.cond .nil .nil)) (.seq (.block .nil) .nil))))) (.seq .nil .nil))))
theorem V64 (d_ : Option Addr) (h : Hp) (R : Ending → Hp → Prop) (H :
  ∃ (Iv_ : List Value → Hp → Prop) (m_ : List Value → Hp → Nat), Iv_ [(Value.slice none 0 0), (Value.int .i64 (0 : Int))] h ∧
  (∀ (bp_ : Option Addr) (bn_ bc_ : Nat) (i_ : Int) hp_, Iv_ [(Value.slice bp_ bn_ bc_), (Value.int .i64 i_)] hp_ →
   ∃ b_ o_, d_ = some ⟨b_, o_, none⟩ ∧
   ∃ (x9p_ : Option Addr) (x9n_ x9c_ : Nat), cellsAt hp_ b_ (o_ + 0) [(Value.slice x9p_ x9n_ x9c_)] ∧
   (((decide (i_ < ((x9n_ : Nat) : Int))) = true →
     ∃ b_1 o_1, d_ = some ⟨b_1, o_1, none⟩ ∧
     ∃ (x18p_ : Option Addr) (x18n_ x18c_ : Nat), cellsAt hp_ b_1 (o_1 + 0) [(Value.slice x18p_ x18n_ x18c_)] ∧
     ∃ b_2 o_2, x18p_ = some ⟨b_2, o_2, none⟩ ∧ 0 ≤ i_ ∧ i_ < (x18n_ : Int) ∧
     ∃ x21_ : ByteArray, cellsAt hp_ b_2 (o_2 + Int.toNat i_ * 1) [(Value.string x21_)] ∧
     SemH Tryd.prog (Builtin.append_ #[71, 9] 71 #[(Value.slice bp_ bn_ bc_), (Value.string x21_)]) hp_ fun v_ hp_1 =>
     ∃ (x22p_ : Option Addr) (x22n_ x22c_ : Nat), v_ = (Value.slice x22p_ x22n_ x22c_) ∧
     ∃ x13_, IntKind.i64.wrap (i_ + (1 : Int)) = x13_ ∧
     (Iv_ [(Value.slice x22p_ x22n_ x22c_), (Value.int .i64 x13_)] hp_1 ∧ m_ [(Value.slice x22p_ x22n_ x22c_), (Value.int .i64 x13_)] hp_1 < m_ [(Value.slice bp_ bn_ bc_), (Value.int .i64 i_)] hp_)) ∧
    ((decide (i_ < ((x9n_ : Nat) : Int))) = false →
     SemH Tryd.prog (convert 71 9 (Value.slice bp_ bn_ bc_)) hp_ fun v_1 hp_2 =>
     ∃ x24_ : ByteArray, v_1 = (Value.string x24_) ∧
     R (.returned (Value.string x24_)) hp_2)))) :
  CallsH Tryd.prog 64 #[(Value.pointer d_)] h R := calls_vc fine false Tryd.func64 (ann := A64) (args := [(Value.pointer d_)]) (by kernel_rfl) (Eq.mpr (by kernel_rfl) H)
/-- turnout/frame.Put -/
def A65 : Ann := (.seq .nil (.seq (.seq .nil (.cond (.seq .nil .nil) .nil)) (.seq (.seq .nil (.seq .nil (.cond (.seq .nil .nil) .nil))) (.seq .nil (.seq (.seq .nil (.cond (.seq .nil .nil) .nil)) (.seq .nil (.seq (.seq .nil (.cond (.seq .nil .nil) .nil)) (.seq .nil .nil))))))))
theorem V65 (d_ : Option Addr) (atv_ : Int) (ff0_ : Int) (ff1_ : Int) (ff2_ : Int) (ff3_ : ByteArray) (h : Hp) (R : Ending → Hp → Prop) (H :
  ∀ b_ hp_, b_ = Array.size h → hp_ = Array.push h (.cells #[(Value.int .i64 ff0_), (Value.int .u64 ff1_), (Value.int .i64 ff2_), (Value.string ff3_)] 94) →
  ∃ x12_, EqV Tryd.prog 41 (Value.pointer d_) (Value.pointer none) x12_ ∧
  ((x12_ = true →
    R (.returned (Value.int .i64 (1 : Int))) hp_) ∧
   (x12_ = false →
    ∃ x13f0_ : Int, ∃ x13f1_ : Int, ∃ x13f2_ : Int, ∃ x13f3_ : ByteArray, cellsAt hp_ b_ 0 [(Value.int .i64 x13f0_), (Value.int .u64 x13f1_), (Value.int .i64 x13f2_), (Value.string x13f3_)] ∧
    CallsH Tryd.prog 82 #[(Value.agg #[(Value.int .i64 x13f0_), (Value.int .u64 x13f1_), (Value.int .i64 x13f2_), (Value.string x13f3_)])] hp_ fun en_ hp_1 =>
    ∃ x14_ : Int, en_ = .returned (Value.int .i64 x14_) ∧
    (((decide (x14_ ≠ (0 : Int))) = true →
      R (.returned (Value.int .i64 x14_)) hp_1) ∧
     ((decide (x14_ ≠ (0 : Int))) = false →
      CallsH Tryd.prog 69 #[(Value.pointer d_), (Value.int .i64 atv_)] hp_1 fun en_1 hp_2 =>
      ∃ x21r0_ : ByteArray, ∃ x21r1_ : Int, en_1 = .returned (Value.tuple #[(Value.string x21r0_), (Value.int .i64 x21r1_)]) ∧
      (((decide (x21r1_ ≠ (0 : Int))) = true →
        R (.returned (Value.int .i64 x21r1_)) hp_2) ∧
       ((decide (x21r1_ ≠ (0 : Int))) = false →
        ∃ x28f0_ : Int, ∃ x28f1_ : Int, ∃ x28f2_ : Int, ∃ x28f3_ : ByteArray, cellsAt hp_2 b_ 0 [(Value.int .i64 x28f0_), (Value.int .u64 x28f1_), (Value.int .i64 x28f2_), (Value.string x28f3_)] ∧
        0 ≤ (511 : Int) ∧ ∃ x30_ : UInt8, x21r0_[Int.toNat (511 : Int)]? = some x30_ ∧
        ∃ x31_, IntKind.u8.wrap ((x30_.toNat : Int) + (1 : Int)) = x31_ ∧
        ∃ x32_, IntKind.i64.wrap x31_ = x32_ ∧
        ∃ x33_, andI .i64 x32_ (255 : Int) = x33_ ∧
        CallsH Tryd.prog 83 #[(Value.agg #[(Value.int .i64 x28f0_), (Value.int .u64 x28f1_), (Value.int .i64 x28f2_), (Value.string x28f3_)]), (Value.int .i64 x33_)] hp_2 fun en_2 hp_3 =>
        ∃ x34r0_ : ByteArray, ∃ x34r1_ : Int, en_2 = .returned (Value.tuple #[(Value.string x34r0_), (Value.int .i64 x34r1_)]) ∧
        (((decide (x34r1_ ≠ (0 : Int))) = true →
          R (.returned (Value.int .i64 x34r1_)) hp_3) ∧
         ((decide (x34r1_ ≠ (0 : Int))) = false →
          CallsH Tryd.prog 56 #[(Value.pointer d_), (Value.int .i64 atv_), (Value.string x34r0_)] hp_3 fun en_3 hp_4 =>
          ∃ x43_ : Int, en_3 = .returned (Value.int .i64 x43_) ∧
          R (.returned (Value.int .i64 x43_)) hp_4))))))))) :
  CallsH Tryd.prog 65 #[(Value.pointer d_), (Value.int .i64 atv_), (Value.agg #[(Value.int .i64 ff0_), (Value.int .u64 ff1_), (Value.int .i64 ff2_), (Value.string ff3_)])] h R := calls_vc fine false Tryd.func65 (ann := A65) (args := [(Value.pointer d_), (Value.int .i64 atv_), (Value.agg #[(Value.int .i64 ff0_), (Value.int .u64 ff1_), (Value.int .i64 ff2_), (Value.string ff3_)])]) (by kernel_rfl) (Eq.mpr (by kernel_rfl) H)
/-- (*turnout/disk.Disk).asked -/
def A66 : Ann := (.seq .nil (.seq (.block (.seq .nil (.cond (.seq .nil .nil) (.seq .nil (.cond (.seq .nil .nil) (.seq (.join 13) (.cond (.seq .nil .nil) .nil))))))) (.seq .nil .nil)))
theorem V66 (d_ : Option Addr) (n_ : Int) (h : Hp) (R : Ending → Hp → Prop) (H :
  ∃ x7_, EqV Tryd.prog 41 (Value.pointer d_) (Value.pointer none) x7_ ∧
  ((x7_ = true →
    R (.returned (Value.int .i64 (1 : Int))) h) ∧
   (x7_ = false →
    ∃ b_ o_, d_ = some ⟨b_, o_, none⟩ ∧
    ∃ x12_ : Bool, cellsAt h b_ (o_ + 4) [(Value.bool x12_)] ∧
    ((x12_ = true →
      R (.returned (Value.int .i64 (40 : Int))) h) ∧
     (x12_ = false →
      ∃ B_ : Bool, ((((decide (n_ < (0 : Int))) = true →
         h = h ∧ B_ = true) ∧
        ((decide (n_ < (0 : Int))) = false →
         ∃ b_1 o_1, d_ = some ⟨b_1, o_1, none⟩ ∧
         ∃ (x21p_ : Option Addr) (x21n_ x21c_ : Nat), cellsAt h b_1 (o_1 + 0) [(Value.slice x21p_ x21n_ x21c_)] ∧
         h = h ∧ B_ = (decide (((x21n_ : Nat) : Int) ≤ n_))))) ∧
      ((B_ = true →
        R (.returned (Value.int .i64 (41 : Int))) h) ∧
       (B_ = false →
        R (.returned (Value.int .i64 (0 : Int))) h))))))) :
  CallsH Tryd.prog 66 #[(Value.pointer d_), (Value.int .i64 n_)] h R := calls_vc fine false Tryd.func66 (ann := A66) (args := [(Value.pointer d_), (Value.int .i64 n_)]) (by kernel_rfl) (Eq.mpr (by kernel_rfl) H)
/-- (*turnout/disk.Disk).step -/
def A67 : Ann := (.seq .nil (.seq (.seq .nil (.cond (.seq .nil .nil) .nil)) (.seq .nil (.seq .nil (.seq .nil .nil)))))
theorem V67 (d_ : Option Addr) (h : Hp) (R : Ending → Hp → Prop) (H :
  ∃ b_ o_, d_ = some ⟨b_, o_, none⟩ ∧
  ∃ x6_ : Int, cellsAt h b_ (o_ + 5) [(Value.int .i64 x6_)] ∧
  (((decide (x6_ = (0 : Int))) = true →
    R (.returned (Value.bool true)) h) ∧
   ((decide (x6_ = (0 : Int))) = false →
    ∃ b_1 o_1, d_ = some ⟨b_1, o_1, none⟩ ∧
    ∃ x11_ : Int, cellsAt h b_1 (o_1 + 5) [(Value.int .i64 x11_)] ∧
    ∃ x12_, IntKind.i64.wrap (x11_ - (1 : Int)) = x12_ ∧
    ∃ b_2 o_2, d_ = some ⟨b_2, o_2, none⟩ ∧
    Value.oneCell' (Value.int .i64 x12_) = true ∧ wrAt h b_2 (o_2 + 5) 1 ∧ ∀ hp_, hp_ = setsH h b_2 (o_2 + 5) [(Value.int .i64 x12_)] →
    ∃ b_3 o_3, d_ = some ⟨b_3, o_3, none⟩ ∧
    ∃ x19_ : Int, cellsAt hp_ b_3 (o_3 + 5) [(Value.int .i64 x19_)] ∧
    ∃ b_4 o_4, d_ = some ⟨b_4, o_4, none⟩ ∧
    Value.oneCell' (Value.bool (decide (x19_ = (0 : Int)))) = true ∧ wrAt hp_ b_4 (o_4 + 4) 1 ∧ ∀ hp_1, hp_1 = setsH hp_ b_4 (o_4 + 4) [(Value.bool (decide (x19_ = (0 : Int))))] →
    ∃ b_5 o_5, d_ = some ⟨b_5, o_5, none⟩ ∧
    ∃ x26_ : Bool, cellsAt hp_1 b_5 (o_5 + 4) [(Value.bool x26_)] ∧
    R (.returned (Value.bool (!x26_))) hp_1))) :
  CallsH Tryd.prog 67 #[(Value.pointer d_)] h R := calls_vc fine false Tryd.func67 (ann := A67) (args := [(Value.pointer d_)]) (by kernel_rfl) (Eq.mpr (by kernel_rfl) H)
/-- (*turnout/disk.Disk).Size -/
def A68 : Ann := (.seq .nil (.seq (.seq .nil (.cond (.seq .nil .nil) .nil)) (.seq .nil .nil)))
theorem V68 (d_ : Option Addr) (h : Hp) (R : Ending → Hp → Prop) (H :
  ∃ x4_, EqV Tryd.prog 41 (Value.pointer d_) (Value.pointer none) x4_ ∧
  ((x4_ = true →
    R (.returned (Value.int .i64 (0 : Int))) h) ∧
   (x4_ = false →
    ∃ b_ o_, d_ = some ⟨b_, o_, none⟩ ∧
    ∃ (x8p_ : Option Addr) (x8n_ x8c_ : Nat), cellsAt h b_ (o_ + 0) [(Value.slice x8p_ x8n_ x8c_)] ∧
    R (.returned (Value.int .i64 ((x8n_ : Nat) : Int))) h))) :
  CallsH Tryd.prog 68 #[(Value.pointer d_)] h R := calls_vc fine false Tryd.func68 (ann := A68) (args := [(Value.pointer d_)]) (by kernel_rfl) (Eq.mpr (by kernel_rfl) H)
/-- (*turnout/disk.Disk).Read -/
def A69 : Ann := (.seq .nil (.seq .nil (.seq (.seq .nil (.cond (.seq .nil .nil) .nil)) (.seq .nil (.seq (.seq .nil (.seq .nil (.cond (.seq .nil .nil) .nil))) (.seq .nil .nil))))))
theorem V69 (d_ : Option Addr) (n_ : Int) (h : Hp) (R : Ending → Hp → Prop) (H :
  CallsH Tryd.prog 66 #[(Value.pointer d_), (Value.int .i64 n_)] h fun en_ hp_ =>
  ∃ x11_ : Int, en_ = .returned (Value.int .i64 x11_) ∧
  (((decide (x11_ ≠ (0 : Int))) = true →
    R (.returned (Value.tuple #[(Value.string (⟨#[]⟩ : ByteArray)), (Value.int .i64 x11_)])) hp_) ∧
   ((decide (x11_ ≠ (0 : Int))) = false →
    ∃ b_ o_, d_ = some ⟨b_, o_, none⟩ ∧
    ∃ x19_ : Int, cellsAt hp_ b_ ((o_ + 6) + 0) [(Value.int .i64 x19_)] ∧
    ∃ x20_, IntKind.i64.wrap (x19_ + (1 : Int)) = x20_ ∧
    ∃ b_1 o_1, d_ = some ⟨b_1, o_1, none⟩ ∧
    Value.oneCell' (Value.int .i64 x20_) = true ∧ wrAt hp_ b_1 ((o_1 + 6) + 0) 1 ∧ ∀ hp_1, hp_1 = setsH hp_ b_1 ((o_1 + 6) + 0) [(Value.int .i64 x20_)] →
    ∃ b_2 o_2, d_ = some ⟨b_2, o_2, none⟩ ∧
    ∃ x28_ : Option Nat, cellsAt hp_1 b_2 (o_2 + 1) [(Value.map x28_)] ∧
    SemH Tryd.prog (Instr.lookup 100 (Value.map x28_) (Value.int .i64 n_) true) hp_1 fun v_ hp_2 =>
    ∃ x30r0_ : ByteArray, ∃ x30r1_ : Bool, v_ = (Value.tuple #[(Value.string x30r0_), (Value.bool x30r1_)]) ∧
    ((x30r1_ = true →
      R (.returned (Value.tuple #[(Value.string x30r0_), (Value.int .i64 (0 : Int))])) hp_2) ∧
     (x30r1_ = false →
      ∃ b_3 o_3, d_ = some ⟨b_3, o_3, none⟩ ∧
      ∃ (x38p_ : Option Addr) (x38n_ x38c_ : Nat), cellsAt hp_2 b_3 (o_3 + 0) [(Value.slice x38p_ x38n_ x38c_)] ∧
      ∃ b_4 o_4, x38p_ = some ⟨b_4, o_4, none⟩ ∧ 0 ≤ n_ ∧ n_ < (x38n_ : Int) ∧
      ∃ x41_ : ByteArray, cellsAt hp_2 b_4 (o_4 + Int.toNat n_ * 1) [(Value.string x41_)] ∧
      R (.returned (Value.tuple #[(Value.string x41_), (Value.int .i64 (0 : Int))])) hp_2))))) :
  CallsH Tryd.prog 69 #[(Value.pointer d_), (Value.int .i64 n_)] h R := calls_vc fine false Tryd.func69 (ann := A69) (args := [(Value.pointer d_), (Value.int .i64 n_)]) (by kernel_rfl) (Eq.mpr (by kernel_rfl) H)
/-- turnout/frame.Open -/
def A70h : Ann := .nil
def A70 : Ann := (.seq .nil (.seq .nil (.seq .nil (.seq (.seq .nil (.block (.loop [(25, (.int .i64))] (.seq .nil (.seq (.cond .nil .nil) (.seq (.block (.seq .nil .nil)) .nil)))))) (.seq .nil (.cut .nil [] (.seq (.seq .nil (.block (.loop [(9, (.int .i64))] (.seq (.seq .nil (.cond .nil .nil)) (.seq (.block .nil) .nil))))) (.seq .nil (.seq .nil .nil)))))))))
theorem V70 (s_ : ByteArray) (h : Hp) (R : Ending → Hp → Prop) (H :
  ∀ b_ hp_, b_ = Array.size h → hp_ = Array.push h (.cells (zeros Tryd.prog 94) 94) → (∃ i z, Tryd.prog.info? 94 = some i ∧ i.zero = some z) ∧
  ∀ b_1 hp_1, b_1 = Array.size hp_ → hp_1 = Array.push hp_ (.cells (zeros Tryd.prog 3) 3) → (∃ i z, Tryd.prog.info? 3 = some i ∧ i.zero = some z) ∧
  ∀ b_2 hp_2, b_2 = Array.size hp_1 → hp_2 = Array.push hp_1 (.cells (zeros Tryd.prog 25) 25) → (∃ i z, Tryd.prog.info? 25 = some i ∧ i.zero = some z) ∧
  CallsH Tryd.prog 85 #[(Value.bool (decide ((ByteArray.size s_ : Int) = (512 : Int)))), (Value.int .i64 (42 : Int))] hp_2 fun en_ hp_3 =>
  ((en_ = .returned (Value.tuple #[]) ∧
    0 ≤ (0 : Int) ∧ ∃ x16_ : UInt8, s_[Int.toNat (0 : Int)]? = some x16_ ∧
    0 ≤ (511 : Int) ∧ ∃ x18_ : UInt8, s_[Int.toNat (511 : Int)]? = some x18_ ∧
    CallsH Tryd.prog 85 #[(Value.bool (decide ((x16_.toNat : Int) = (x18_.toNat : Int)))), (Value.int .i64 (50 : Int))] hp_3 fun en_1 hp_4 =>
    ((en_1 = .returned (Value.tuple #[]) ∧
      ∃ l_ : Nat, (1 : Int) = (l_ : Int) ∧
      ∃ u_ : Nat, (507 : Int) = (u_ : Int) ∧
      l_ ≤ u_ ∧ u_ ≤ ByteArray.size s_ ∧ ∃ x22_, ByteArray.extract s_ l_ u_ = x22_ ∧
      SemH Tryd.prog (Instr.buildSlice 32 1 #[(0, (Value.string x22_))]) hp_4 fun v_ hp_5 =>
      ∃ (x23p_ : Option Addr) (x23n_ x23c_ : Nat), v_ = (Value.slice x23p_ x23n_ x23c_) ∧
      CallsH Tryd.prog 86 #[(Value.slice x23p_ x23n_ x23c_)] hp_5 fun en_2 hp_6 =>
      ∃ x24_ : Int, en_2 = .returned (Value.int .u32 x24_) ∧
      ∃ (Iv_ : List Value → Hp → Prop) (m_ : List Value → Hp → Nat), Iv_ [(Value.int .i64 (0 : Int))] hp_6 ∧
      (∀ (x25_ : Int) hp_7, Iv_ [(Value.int .i64 x25_)] hp_7 →
       (((decide (x25_ < (4 : Int))) = true →
         ∃ x30_, IntKind.i64.wrap ((507 : Int) + x25_) = x30_ ∧
         0 ≤ x30_ ∧ ∃ x31_ : UInt8, s_[Int.toNat x30_]? = some x31_ ∧
         ∃ x34_, IntKind.i64.wrap ((8 : Int) * x25_) = x34_ ∧
         0 ≤ x34_ ∧ ∃ x35_, shrI .u32 x24_ x34_ = x35_ ∧
         ∃ x36_, IntKind.u8.wrap x35_ = x36_ ∧
         CallsH Tryd.prog 85 #[(Value.bool (decide ((x31_.toNat : Int) = x36_))), (Value.int .i64 (51 : Int))] hp_7 fun en_3 hp_8 =>
         ((en_3 = .returned (Value.tuple #[]) ∧
           ∃ x39_, IntKind.i64.wrap (x25_ + (1 : Int)) = x39_ ∧
           (Iv_ [(Value.int .i64 x39_)] hp_8 ∧ m_ [(Value.int .i64 x39_)] hp_8 < m_ [(Value.int .i64 x25_)] hp_7)) ∨
          ∃ c_, en_3 = .panicked c_ ∧ DefH Tryd.prog 84 #[(Value.pointer (some ⟨b_, 0, none⟩)), (Value.pointer (some ⟨b_1, 0, none⟩)), (Value.pointer (some ⟨b_2, 0, none⟩))] (.panicking c_) hp_8 fun md_ hp_9 =>
          settle md_ = .returning ∧
          ∃ resf0_ : Int, ∃ resf1_ : Int, ∃ resf2_ : Int, ∃ resf3_ : ByteArray, cellsAt hp_9 b_ 0 [(Value.int .i64 resf0_), (Value.int .u64 resf1_), (Value.int .i64 resf2_), (Value.string resf3_)] ∧
          ∃ res_ : Int, cellsAt hp_9 b_1 0 [(Value.int .i64 res_)] ∧
          ∃ res_1 : Int, cellsAt hp_9 b_2 0 [(Value.int .i64 res_1)] ∧
          R (.returned (Value.tuple #[(Value.agg #[(Value.int .i64 resf0_), (Value.int .u64 resf1_), (Value.int .i64 resf2_), (Value.string resf3_)]), (Value.int .i64 res_), (Value.int .i64 res_1)])) hp_9)) ∧
        ((decide (x25_ < (4 : Int))) = false →
         ∃ l_1 : Nat, (10 : Int) = (l_1 : Int) ∧
         ∃ u_1 : Nat, (14 : Int) = (u_1 : Int) ∧
         l_1 ≤ u_1 ∧ u_1 ≤ ByteArray.size s_ ∧ ∃ x41_, ByteArray.extract s_ l_1 u_1 = x41_ ∧
         CallsH Tryd.prog 87 #[(Value.string x41_)] hp_7 fun en_4 hp_10 =>
         ∃ x42_ : Int, en_4 = .returned (Value.int .u64 x42_) ∧
         ∃ l_2 : Nat, (14 : Int) = (l_2 : Int) ∧
         ∃ u_2 : Nat, (16 : Int) = (u_2 : Int) ∧
         l_2 ≤ u_2 ∧ u_2 ≤ ByteArray.size s_ ∧ ∃ x44_, ByteArray.extract s_ l_2 u_2 = x44_ ∧
         CallsH Tryd.prog 87 #[(Value.string x44_)] hp_10 fun en_5 hp_11 =>
         ∃ x45_ : Int, en_5 = .returned (Value.int .u64 x45_) ∧
         ∃ x46_, IntKind.i64.wrap x45_ = x46_ ∧
         ∃ Jv_ : List Value → Hp → Prop,
         (0 ≤ (1 : Int) ∧ ∃ x48_ : UInt8, s_[Int.toNat (1 : Int)]? = some x48_ ∧
          (((decide ((x48_.toNat : Int) ≠ (0 : Int))) = true →
            (((decide (x42_ ≤ (2147483647 : Int))) = true →
              CallsH Tryd.prog 85 #[(Value.bool (decide (x46_ ≤ (491 : Int)))), (Value.int .i64 (52 : Int))] hp_11 fun en_6 hp_12 =>
              ((en_6 = .returned (Value.tuple #[]) ∧
                Jv_ [] hp_12) ∨
               ∃ c_1, en_6 = .panicked c_1 ∧ DefH Tryd.prog 84 #[(Value.pointer (some ⟨b_, 0, none⟩)), (Value.pointer (some ⟨b_1, 0, none⟩)), (Value.pointer (some ⟨b_2, 0, none⟩))] (.panicking c_1) hp_12 fun md_1 hp_13 =>
               settle md_1 = .returning ∧
               ∃ resf0_1 : Int, ∃ resf1_1 : Int, ∃ resf2_1 : Int, ∃ resf3_1 : ByteArray, cellsAt hp_13 b_ 0 [(Value.int .i64 resf0_1), (Value.int .u64 resf1_1), (Value.int .i64 resf2_1), (Value.string resf3_1)] ∧
               ∃ res_2 : Int, cellsAt hp_13 b_1 0 [(Value.int .i64 res_2)] ∧
               ∃ res_3 : Int, cellsAt hp_13 b_2 0 [(Value.int .i64 res_3)] ∧
               R (.returned (Value.tuple #[(Value.agg #[(Value.int .i64 resf0_1), (Value.int .u64 resf1_1), (Value.int .i64 resf2_1), (Value.string resf3_1)]), (Value.int .i64 res_2), (Value.int .i64 res_3)])) hp_13)) ∧
             ((decide (x42_ ≤ (2147483647 : Int))) = false →
              CallsH Tryd.prog 85 #[(Value.bool false), (Value.int .i64 (52 : Int))] hp_11 fun en_7 hp_14 =>
              ((en_7 = .returned (Value.tuple #[]) ∧
                Jv_ [] hp_14) ∨
               ∃ c_2, en_7 = .panicked c_2 ∧ DefH Tryd.prog 84 #[(Value.pointer (some ⟨b_, 0, none⟩)), (Value.pointer (some ⟨b_1, 0, none⟩)), (Value.pointer (some ⟨b_2, 0, none⟩))] (.panicking c_2) hp_14 fun md_2 hp_15 =>
               settle md_2 = .returning ∧
               ∃ resf0_2 : Int, ∃ resf1_2 : Int, ∃ resf2_2 : Int, ∃ resf3_2 : ByteArray, cellsAt hp_15 b_ 0 [(Value.int .i64 resf0_2), (Value.int .u64 resf1_2), (Value.int .i64 resf2_2), (Value.string resf3_2)] ∧
               ∃ res_4 : Int, cellsAt hp_15 b_1 0 [(Value.int .i64 res_4)] ∧
               ∃ res_5 : Int, cellsAt hp_15 b_2 0 [(Value.int .i64 res_5)] ∧
               R (.returned (Value.tuple #[(Value.agg #[(Value.int .i64 resf0_2), (Value.int .u64 resf1_2), (Value.int .i64 resf2_2), (Value.string resf3_2)]), (Value.int .i64 res_4), (Value.int .i64 res_5)])) hp_15)))) ∧
           ((decide ((x48_.toNat : Int) ≠ (0 : Int))) = false →
            CallsH Tryd.prog 85 #[(Value.bool false), (Value.int .i64 (52 : Int))] hp_11 fun en_8 hp_16 =>
            ((en_8 = .returned (Value.tuple #[]) ∧
              Jv_ [] hp_16) ∨
             ∃ c_3, en_8 = .panicked c_3 ∧ DefH Tryd.prog 84 #[(Value.pointer (some ⟨b_, 0, none⟩)), (Value.pointer (some ⟨b_1, 0, none⟩)), (Value.pointer (some ⟨b_2, 0, none⟩))] (.panicking c_3) hp_16 fun md_3 hp_17 =>
             settle md_3 = .returning ∧
             ∃ resf0_3 : Int, ∃ resf1_3 : Int, ∃ resf2_3 : Int, ∃ resf3_3 : ByteArray, cellsAt hp_17 b_ 0 [(Value.int .i64 resf0_3), (Value.int .u64 resf1_3), (Value.int .i64 resf2_3), (Value.string resf3_3)] ∧
             ∃ res_6 : Int, cellsAt hp_17 b_1 0 [(Value.int .i64 res_6)] ∧
             ∃ res_7 : Int, cellsAt hp_17 b_2 0 [(Value.int .i64 res_7)] ∧
             R (.returned (Value.tuple #[(Value.agg #[(Value.int .i64 resf0_3), (Value.int .u64 resf1_3), (Value.int .i64 resf2_3), (Value.string resf3_3)]), (Value.int .i64 res_6), (Value.int .i64 res_7)])) hp_17)))) ∧
         (∀  hp_18, Jv_ [] hp_18 →
          ∃ x60_, IntKind.i64.wrap ((16 : Int) + x46_) = x60_ ∧
          ∃ (Iv_1 : List Value → Hp → Prop) (m_1 : List Value → Hp → Nat), Iv_1 [(Value.int .i64 x60_)] hp_18 ∧
          (∀ (i_ : Int) hp_19, Iv_1 [(Value.int .i64 i_)] hp_19 →
           (((decide (i_ < (507 : Int))) = true →
             0 ≤ i_ ∧ ∃ x67_ : UInt8, s_[Int.toNat i_]? = some x67_ ∧
             CallsH Tryd.prog 85 #[(Value.bool (decide ((x67_.toNat : Int) = (0 : Int)))), (Value.int .i64 (52 : Int))] hp_19 fun en_9 hp_20 =>
             ((en_9 = .returned (Value.tuple #[]) ∧
               ∃ x64_, IntKind.i64.wrap (i_ + (1 : Int)) = x64_ ∧
               (Iv_1 [(Value.int .i64 x64_)] hp_20 ∧ m_1 [(Value.int .i64 x64_)] hp_20 < m_1 [(Value.int .i64 i_)] hp_19)) ∨
              ∃ c_4, en_9 = .panicked c_4 ∧ DefH Tryd.prog 84 #[(Value.pointer (some ⟨b_, 0, none⟩)), (Value.pointer (some ⟨b_1, 0, none⟩)), (Value.pointer (some ⟨b_2, 0, none⟩))] (.panicking c_4) hp_20 fun md_4 hp_21 =>
              settle md_4 = .returning ∧
              ∃ resf0_4 : Int, ∃ resf1_4 : Int, ∃ resf2_4 : Int, ∃ resf3_4 : ByteArray, cellsAt hp_21 b_ 0 [(Value.int .i64 resf0_4), (Value.int .u64 resf1_4), (Value.int .i64 resf2_4), (Value.string resf3_4)] ∧
              ∃ res_8 : Int, cellsAt hp_21 b_1 0 [(Value.int .i64 res_8)] ∧
              ∃ res_9 : Int, cellsAt hp_21 b_2 0 [(Value.int .i64 res_9)] ∧
              R (.returned (Value.tuple #[(Value.agg #[(Value.int .i64 resf0_4), (Value.int .u64 resf1_4), (Value.int .i64 resf2_4), (Value.string resf3_4)]), (Value.int .i64 res_8), (Value.int .i64 res_9)])) hp_21)) ∧
            ((decide (i_ < (507 : Int))) = false →
             0 ≤ (1 : Int) ∧ ∃ x71_ : UInt8, s_[Int.toNat (1 : Int)]? = some x71_ ∧
             ∃ x72_, IntKind.i64.wrap (x71_.toNat : Int) = x72_ ∧
             ∃ l_3 : Nat, (2 : Int) = (l_3 : Int) ∧
             ∃ u_3 : Nat, (10 : Int) = (u_3 : Int) ∧
             l_3 ≤ u_3 ∧ u_3 ≤ ByteArray.size s_ ∧ ∃ x74_, ByteArray.extract s_ l_3 u_3 = x74_ ∧
             CallsH Tryd.prog 87 #[(Value.string x74_)] hp_19 fun en_10 hp_22 =>
             ∃ x75_ : Int, en_10 = .returned (Value.int .u64 x75_) ∧
             ∃ x77_, IntKind.i64.wrap x42_ = x77_ ∧
             ∃ x80_, IntKind.i64.wrap ((16 : Int) + x46_) = x80_ ∧
             ∃ l_4 : Nat, (16 : Int) = (l_4 : Int) ∧
             ∃ u_4 : Nat, x80_ = (u_4 : Int) ∧
             l_4 ≤ u_4 ∧ u_4 ≤ ByteArray.size s_ ∧ ∃ x81_, ByteArray.extract s_ l_4 u_4 = x81_ ∧
             List.length [(Value.int .i64 x72_), (Value.int .u64 x75_), (Value.int .i64 x77_), (Value.string x81_)] = 4 ∧ (∀ c ∈ [(Value.int .i64 x72_), (Value.int .u64 x75_), (Value.int .i64 x77_), (Value.string x81_)], c.oneCell' = true) ∧ wrAt hp_22 b_ 0 4 ∧ ∀ hp_23, hp_23 = setsH hp_22 b_ 0 [(Value.int .i64 x72_), (Value.int .u64 x75_), (Value.int .i64 x77_), (Value.string x81_)] →
             ∃ x83f0_ : Int, ∃ x83f1_ : Int, ∃ x83f2_ : Int, ∃ x83f3_ : ByteArray, cellsAt hp_23 b_ 0 [(Value.int .i64 x83f0_), (Value.int .u64 x83f1_), (Value.int .i64 x83f2_), (Value.string x83f3_)] ∧
             0 ≤ (0 : Int) ∧ ∃ x85_ : UInt8, s_[Int.toNat (0 : Int)]? = some x85_ ∧
             ∃ x86_, IntKind.i64.wrap (x85_.toNat : Int) = x86_ ∧
             List.length [(Value.int .i64 x83f0_), (Value.int .u64 x83f1_), (Value.int .i64 x83f2_), (Value.string x83f3_)] = 4 ∧ (∀ c ∈ [(Value.int .i64 x83f0_), (Value.int .u64 x83f1_), (Value.int .i64 x83f2_), (Value.string x83f3_)], c.oneCell' = true) ∧ wrAt hp_23 b_ 0 4 ∧ ∀ hp_24, hp_24 = setsH hp_23 b_ 0 [(Value.int .i64 x83f0_), (Value.int .u64 x83f1_), (Value.int .i64 x83f2_), (Value.string x83f3_)] →
             Value.oneCell' (Value.int .i64 x86_) = true ∧ wrAt hp_24 b_1 0 1 ∧ ∀ hp_25, hp_25 = setsH hp_24 b_1 0 [(Value.int .i64 x86_)] →
             Value.oneCell' (Value.int .i64 (0 : Int)) = true ∧ wrAt hp_25 b_2 0 1 ∧ ∀ hp_26, hp_26 = setsH hp_25 b_2 0 [(Value.int .i64 (0 : Int))] →
             DefH Tryd.prog 84 #[(Value.pointer (some ⟨b_, 0, none⟩)), (Value.pointer (some ⟨b_1, 0, none⟩)), (Value.pointer (some ⟨b_2, 0, none⟩))] .returning hp_26 fun md_5 hp_27 =>
             settle md_5 = .returning ∧
             ∃ resf0_5 : Int, ∃ resf1_5 : Int, ∃ resf2_5 : Int, ∃ resf3_5 : ByteArray, cellsAt hp_27 b_ 0 [(Value.int .i64 resf0_5), (Value.int .u64 resf1_5), (Value.int .i64 resf2_5), (Value.string resf3_5)] ∧
             ∃ res_10 : Int, cellsAt hp_27 b_1 0 [(Value.int .i64 res_10)] ∧
             ∃ res_11 : Int, cellsAt hp_27 b_2 0 [(Value.int .i64 res_11)] ∧
             R (.returned (Value.tuple #[(Value.agg #[(Value.int .i64 resf0_5), (Value.int .u64 resf1_5), (Value.int .i64 resf2_5), (Value.string resf3_5)]), (Value.int .i64 res_10), (Value.int .i64 res_11)])) hp_27)))))))) ∨
     ∃ c_5, en_1 = .panicked c_5 ∧ DefH Tryd.prog 84 #[(Value.pointer (some ⟨b_, 0, none⟩)), (Value.pointer (some ⟨b_1, 0, none⟩)), (Value.pointer (some ⟨b_2, 0, none⟩))] (.panicking c_5) hp_4 fun md_6 hp_28 =>
     settle md_6 = .returning ∧
     ∃ resf0_6 : Int, ∃ resf1_6 : Int, ∃ resf2_6 : Int, ∃ resf3_6 : ByteArray, cellsAt hp_28 b_ 0 [(Value.int .i64 resf0_6), (Value.int .u64 resf1_6), (Value.int .i64 resf2_6), (Value.string resf3_6)] ∧
     ∃ res_12 : Int, cellsAt hp_28 b_1 0 [(Value.int .i64 res_12)] ∧
     ∃ res_13 : Int, cellsAt hp_28 b_2 0 [(Value.int .i64 res_13)] ∧
     R (.returned (Value.tuple #[(Value.agg #[(Value.int .i64 resf0_6), (Value.int .u64 resf1_6), (Value.int .i64 resf2_6), (Value.string resf3_6)]), (Value.int .i64 res_12), (Value.int .i64 res_13)])) hp_28)) ∨
   ∃ c_6, en_ = .panicked c_6 ∧ DefH Tryd.prog 84 #[(Value.pointer (some ⟨b_, 0, none⟩)), (Value.pointer (some ⟨b_1, 0, none⟩)), (Value.pointer (some ⟨b_2, 0, none⟩))] (.panicking c_6) hp_3 fun md_7 hp_29 =>
   settle md_7 = .returning ∧
   ∃ resf0_7 : Int, ∃ resf1_7 : Int, ∃ resf2_7 : Int, ∃ resf3_7 : ByteArray, cellsAt hp_29 b_ 0 [(Value.int .i64 resf0_7), (Value.int .u64 resf1_7), (Value.int .i64 resf2_7), (Value.string resf3_7)] ∧
   ∃ res_14 : Int, cellsAt hp_29 b_1 0 [(Value.int .i64 res_14)] ∧
   ∃ res_15 : Int, cellsAt hp_29 b_2 0 [(Value.int .i64 res_15)] ∧
   R (.returned (Value.tuple #[(Value.agg #[(Value.int .i64 resf0_7), (Value.int .u64 resf1_7), (Value.int .i64 resf2_7), (Value.string resf3_7)]), (Value.int .i64 res_14), (Value.int .i64 res_15)])) hp_29)) :
  CallsH Tryd.prog 70 #[(Value.string s_)] h R := calls_vcD fine true Tryd.func70 (a0 := A70h) (a2 := A70) (args := [(Value.string s_)]) (by kernel_rfl) (Eq.mpr (by kernel_rfl) H)
/-- turnout/wal.pieces -/
def A71 : Ann := (.seq .nil (.seq .nil .nil))
theorem V71 (body_ : ByteArray) (h : Hp) (R : Ending → Hp → Prop) (H :
  ∀ b_ hp_, b_ = Array.size h → hp_ = Array.push h (.cells #[(Value.string body_)] 9) →
  R (.returned (Value.func (.func 88) #[] #[(Value.pointer (some ⟨b_, 0, none⟩))])) hp_) :
  CallsH Tryd.prog 71 #[(Value.string body_)] h R := calls_vc fine false Tryd.func71 (ann := A71) (args := [(Value.string body_)]) (by kernel_rfl) (Eq.mpr (by kernel_rfl) H)
/-- (*turnout/wal.reading).take -/
def A72 : Ann := (.seq .nil (.cut (.seq (.join 27) (.cond (.seq .nil .nil) .nil)) [] (.cut .nil [] (.cut (.seq (.join 60) (.cond (.seq .nil .nil) .nil)) [] (.seq .nil (.seq (.seq .nil (.cond (.seq (.drawLast [4]) .nil) .nil)) (.seq .nil .nil)))))))
theorem V72 (r_ : Option Addr) (pf0_ : Int) (pf1_ : ByteArray) (pf2_ : Bool) (h : Hp) (R : Ending → Hp → Prop) (H :
  ∀ b_ hp_, b_ = Array.size h → hp_ = Array.push h (.cells #[(Value.int .u8 pf0_), (Value.string pf1_), (Value.bool pf2_)] 132) →
  ∃ Jv_ : List Value → Hp → Prop,
  (∃ B_ : Bool, (∃ x6_ : Int, cellsAt hp_ b_ (0 + 0) [(Value.int .u8 x6_)] ∧
    (((decide (x6_ < (1 : Int))) = true →
      hp_ = hp_ ∧ B_ = true) ∧
     ((decide (x6_ < (1 : Int))) = false →
      ∃ x10_ : Int, cellsAt hp_ b_ (0 + 0) [(Value.int .u8 x10_)] ∧
      (((decide ((4 : Int) < x10_)) = true →
        hp_ = hp_ ∧ B_ = true) ∧
       ((decide ((4 : Int) < x10_)) = false →
        ∃ b_1 o_, r_ = some ⟨b_1, o_, none⟩ ∧
        ∃ x17_ : Bool, cellsAt hp_ b_1 (o_ + 2) [(Value.bool x17_)] ∧
        ∃ x19_ : Int, cellsAt hp_ b_ (0 + 0) [(Value.int .u8 x19_)] ∧
        (((decide (x19_ = (3 : Int))) = true →
          ∃ x26_, EqV Tryd.prog 4 (Value.bool x17_) (Value.bool true) x26_ ∧
          hp_ = hp_ ∧ B_ = (!x26_)) ∧
         ((decide (x19_ = (3 : Int))) = false →
          ∃ x23_ : Int, cellsAt hp_ b_ (0 + 0) [(Value.int .u8 x23_)] ∧
          ∃ x26_1, EqV Tryd.prog 4 (Value.bool x17_) (Value.bool (decide (x23_ = (4 : Int)))) x26_1 ∧
          hp_ = hp_ ∧ B_ = (!x26_1)))))))) ∧
   ((B_ = true →
     ∃ x28_ : Value, cellsAt hp_ 1 0 [x28_] ∧
     R (.returned x28_) hp_) ∧
    (B_ = false →
     Jv_ [] hp_))) ∧
  (∀  hp_1, Jv_ [] hp_1 →
   ∃ Jv_1 : List Value → Hp → Prop,
   (∃ x31_ : Int, cellsAt hp_1 b_ (0 + 0) [(Value.int .u8 x31_)] ∧
    (((decide (x31_ = (2 : Int))) = true →
      ∃ b_2 o_1, r_ = some ⟨b_2, o_1, none⟩ ∧
      Value.oneCell' (Value.bool true) = true ∧ wrAt hp_1 b_2 (o_1 + 2) 1 ∧ ∀ hp_2, hp_2 = setsH hp_1 b_2 (o_1 + 2) [(Value.bool true)] →
      Jv_1 [] hp_2) ∧
     ((decide (x31_ = (2 : Int))) = false →
      ∃ x35_ : Int, cellsAt hp_1 b_ (0 + 0) [(Value.int .u8 x35_)] ∧
      ∃ b_3 o_2, r_ = some ⟨b_3, o_2, none⟩ ∧
      Value.oneCell' (Value.bool (decide (x35_ = (3 : Int)))) = true ∧ wrAt hp_1 b_3 (o_2 + 2) 1 ∧ ∀ hp_3, hp_3 = setsH hp_1 b_3 (o_2 + 2) [(Value.bool (decide (x35_ = (3 : Int))))] →
      Jv_1 [] hp_3))) ∧
   (∀  hp_4, Jv_1 [] hp_4 →
    ∃ Jv_2 : List Value → Hp → Prop,
    (∃ B_1 : Bool, (∃ b_4 o_3, r_ = some ⟨b_4, o_3, none⟩ ∧
      ∃ x43_ : Bool, cellsAt hp_4 b_4 (o_3 + 2) [(Value.bool x43_)] ∧
      ((x43_ = true →
        ∃ x46_ : Bool, cellsAt hp_4 b_ (0 + 2) [(Value.bool x46_)] ∧
        (((!x46_) = true →
          hp_4 = hp_4 ∧ B_1 = true) ∧
         ((!x46_) = false →
          ∃ b_5 o_4, r_ = some ⟨b_5, o_4, none⟩ ∧
          ∃ (x53p_ : Option Addr) (x53n_ x53c_ : Nat), cellsAt hp_4 b_5 (o_4 + 1) [(Value.slice x53p_ x53n_ x53c_)] ∧
          ∃ x56_ : ByteArray, cellsAt hp_4 b_ (0 + 1) [(Value.string x56_)] ∧
          ∃ x58_, IntKind.i64.wrap (((x53n_ : Nat) : Int) + (ByteArray.size x56_ : Int)) = x58_ ∧
          hp_4 = hp_4 ∧ B_1 = (decide ((65536 : Int) < x58_))))) ∧
       (x43_ = false →
        ∃ b_6 o_5, r_ = some ⟨b_6, o_5, none⟩ ∧
        ∃ (x53p_1 : Option Addr) (x53n_1 x53c_1 : Nat), cellsAt hp_4 b_6 (o_5 + 1) [(Value.slice x53p_1 x53n_1 x53c_1)] ∧
        ∃ x56_1 : ByteArray, cellsAt hp_4 b_ (0 + 1) [(Value.string x56_1)] ∧
        ∃ x58_1, IntKind.i64.wrap (((x53n_1 : Nat) : Int) + (ByteArray.size x56_1 : Int)) = x58_1 ∧
        hp_4 = hp_4 ∧ B_1 = (decide ((65536 : Int) < x58_1))))) ∧
     ((B_1 = true →
       ∃ x61_ : Value, cellsAt hp_4 1 0 [x61_] ∧
       R (.returned x61_) hp_4) ∧
      (B_1 = false →
       Jv_2 [] hp_4))) ∧
    (∀  hp_5, Jv_2 [] hp_5 →
     ∃ b_7 o_6, r_ = some ⟨b_7, o_6, none⟩ ∧
     ∃ (x66p_ : Option Addr) (x66n_ x66c_ : Nat), cellsAt hp_5 b_7 (o_6 + 1) [(Value.slice x66p_ x66n_ x66c_)] ∧
     ∃ x68_ : ByteArray, cellsAt hp_5 b_ (0 + 1) [(Value.string x68_)] ∧
     SemH Tryd.prog (Builtin.append_ #[71, 9] 71 #[(Value.slice x66p_ x66n_ x66c_), (Value.string x68_)]) hp_5 fun v_ hp_6 =>
     ∃ (x69p_ : Option Addr) (x69n_ x69c_ : Nat), v_ = (Value.slice x69p_ x69n_ x69c_) ∧
     ∃ b_8 o_7, r_ = some ⟨b_8, o_7, none⟩ ∧
     Value.oneCell' (Value.slice x69p_ x69n_ x69c_) = true ∧ wrAt hp_6 b_8 (o_7 + 1) 1 ∧ ∀ hp_7, hp_7 = setsH hp_6 b_8 (o_7 + 1) [(Value.slice x69p_ x69n_ x69c_)] →
     ∃ b_9 o_8, r_ = some ⟨b_9, o_8, none⟩ ∧
     ∃ x75_ : Bool, cellsAt hp_7 b_9 (o_8 + 2) [(Value.bool x75_)] ∧
     (((!x75_) = true →
       ∃ Cv_ : Hp → Prop, Cv_ hp_7 ∧
       ∃ b_10 o_9, r_ = some ⟨b_10, o_9, none⟩ ∧
       ∃ (x81p_ : Option Addr) (x81n_ x81c_ : Nat), (∀ h', Cv_ h' → cellsAt h' b_10 (o_9 + 0) [(Value.slice x81p_ x81n_ x81c_)]) ∧
       ∃ b_11 o_10, r_ = some ⟨b_11, o_10, none⟩ ∧
       ∃ (x85p_ : Option Addr) (x85n_ x85c_ : Nat), cellsAt hp_7 b_11 (o_10 + 1) [(Value.slice x85p_ x85n_ x85c_)] ∧
       SemH Tryd.prog (convert 71 9 (Value.slice x85p_ x85n_ x85c_)) hp_7 fun v_1 hp_8 =>
       ∃ x86_ : ByteArray, v_1 = (Value.string x86_) ∧
       Cv_ hp_8 ∧
       SemH Tryd.prog (Instr.buildSlice 32 1 #[(0, (Value.string x86_))]) hp_8 fun v_2 hp_9 =>
       ∃ (x87p_ : Option Addr) (x87n_ x87c_ : Nat), v_2 = (Value.slice x87p_ x87n_ x87c_) ∧
       Cv_ hp_9 ∧
       SemH Tryd.prog (Builtin.append_ #[32, 32] 32 #[(Value.slice x81p_ x81n_ x81c_), (Value.slice x87p_ x87n_ x87c_)]) hp_9 fun v_3 hp_10 =>
       ∃ (x88p_ : Option Addr) (x88n_ x88c_ : Nat), v_3 = (Value.slice x88p_ x88n_ x88c_) ∧
       Cv_ hp_10 ∧
       ∃ b_12 o_11, r_ = some ⟨b_12, o_11, none⟩ ∧
       Value.oneCell' (Value.slice x88p_ x88n_ x88c_) = true ∧ wrAt hp_10 b_12 (o_11 + 0) 1 ∧ ∀ hp_11, hp_11 = setsH hp_10 b_12 (o_11 + 0) [(Value.slice x88p_ x88n_ x88c_)] →
       ∃ b_13 o_12, r_ = some ⟨b_13, o_12, none⟩ ∧
       Value.oneCell' (Value.slice none 0 0) = true ∧ wrAt hp_11 b_13 (o_12 + 1) 1 ∧ ∀ hp_12, hp_12 = setsH hp_11 b_13 (o_12 + 1) [(Value.slice none 0 0)] →
       R (.returned Value.nilIface) hp_12) ∧
      ((!x75_) = false →
       R (.returned Value.nilIface) hp_7)))))) :
  CallsH Tryd.prog 72 #[(Value.pointer r_), (Value.agg #[(Value.int .u8 pf0_), (Value.string pf1_), (Value.bool pf2_)])] h R := calls_vc fine false Tryd.func72 (ann := A72) (args := [(Value.pointer r_), (Value.agg #[(Value.int .u8 pf0_), (Value.string pf1_), (Value.bool pf2_)])]) (by kernel_rfl) (Eq.mpr (by kernel_rfl) H)
/-- turnout/turnoutref19.region -/
def A73 : Ann := (.seq .nil (.seq .nil .nil))
theorem V73 (d_ : Option Addr) (first_ : Int) (count_ : Int) (h : Hp) (R : Ending → Hp → Prop) (H :
  ∃ x8_, EqV Tryd.prog 58 (Value.pointer d_) (Value.pointer none) x8_ ∧
  (((!x8_) = true →
    (((decide ((0 : Int) ≤ first_)) = true →
      (((decide ((1 : Int) ≤ count_)) = true →
        CallsH Tryd.prog 89 #[(Value.pointer d_)] h fun en_ hp_ =>
        ∃ x20_ : Int, en_ = .returned (Value.int .i64 x20_) ∧
        (((decide (first_ ≤ x20_)) = true →
          CallsH Tryd.prog 89 #[(Value.pointer d_)] hp_ fun en_1 hp_1 =>
          ∃ x26_ : Int, en_1 = .returned (Value.int .i64 x26_) ∧
          ∃ x28_, IntKind.i64.wrap (x26_ - first_) = x28_ ∧
          R (.returned (Value.bool (decide (count_ ≤ x28_)))) hp_1) ∧
         ((decide (first_ ≤ x20_)) = false →
          R (.returned (Value.bool false)) hp_))) ∧
       ((decide ((1 : Int) ≤ count_)) = false →
        R (.returned (Value.bool false)) h))) ∧
     ((decide ((0 : Int) ≤ first_)) = false →
      R (.returned (Value.bool false)) h))) ∧
   ((!x8_) = false →
    R (.returned (Value.bool false)) h))) :
  CallsH Tryd.prog 73 #[(Value.pointer d_), (Value.int .i64 first_), (Value.int .i64 count_)] h R := calls_vc fine false Tryd.func73 (ann := A73) (args := [(Value.pointer d_), (Value.int .i64 first_), (Value.int .i64 count_)]) (by kernel_rfl) (Eq.mpr (by kernel_rfl) H)
/-- turnout/turnoutref05.Get -/
def A74 : Ann := (.seq .nil (.seq .nil (.seq (.seq .nil (.cond (.seq .nil .nil) .nil)) (.seq .nil (.seq .nil .nil)))))
theorem V74 (d_ : Option Addr) (atv_ : Int) (h : Hp) (R : Ending → Hp → Prop) (H :
  ∀ b_ hp_, b_ = Array.size h → hp_ = Array.push h (.cells (zeros Tryd.prog 94) 94) → (∃ i z, Tryd.prog.info? 94 = some i ∧ i.zero = some z) ∧
  CallsH Tryd.prog 90 #[(Value.pointer d_), (Value.int .i64 atv_)] hp_ fun en_ hp_1 =>
  ∃ x13r0_ : ByteArray, ∃ x13r1_ : Int, en_ = .returned (Value.tuple #[(Value.string x13r0_), (Value.int .i64 x13r1_)]) ∧
  (((decide (x13r1_ ≠ (0 : Int))) = true →
    List.length [(Value.int .i64 (0 : Int)), (Value.int .u64 (0 : Int)), (Value.int .i64 (0 : Int)), (Value.string (⟨#[]⟩ : ByteArray))] = 4 ∧ (∀ c ∈ [(Value.int .i64 (0 : Int)), (Value.int .u64 (0 : Int)), (Value.int .i64 (0 : Int)), (Value.string (⟨#[]⟩ : ByteArray))], c.oneCell' = true) ∧ wrAt hp_1 b_ 0 4 ∧ ∀ hp_2, hp_2 = setsH hp_1 b_ 0 [(Value.int .i64 (0 : Int)), (Value.int .u64 (0 : Int)), (Value.int .i64 (0 : Int)), (Value.string (⟨#[]⟩ : ByteArray))] →
    ∃ resf0_ : Int, ∃ resf1_ : Int, ∃ resf2_ : Int, ∃ resf3_ : ByteArray, cellsAt hp_2 b_ 0 [(Value.int .i64 resf0_), (Value.int .u64 resf1_), (Value.int .i64 resf2_), (Value.string resf3_)] ∧
    R (.returned (Value.tuple #[(Value.agg #[(Value.int .i64 resf0_), (Value.int .u64 resf1_), (Value.int .i64 resf2_), (Value.string resf3_)]), (Value.int .i64 x13r1_)])) hp_2) ∧
   ((decide (x13r1_ ≠ (0 : Int))) = false →
    CallsH Tryd.prog 91 #[(Value.string x13r0_)] hp_1 fun en_1 hp_3 =>
    ∃ x22r0f0_ : Int, ∃ x22r0f1_ : Int, ∃ x22r0f2_ : Int, ∃ x22r0f3_ : ByteArray, ∃ x22r1_ : Int, ∃ x22r2_ : Int, en_1 = .returned (Value.tuple #[(Value.agg #[(Value.int .i64 x22r0f0_), (Value.int .u64 x22r0f1_), (Value.int .i64 x22r0f2_), (Value.string x22r0f3_)]), (Value.int .i64 x22r1_), (Value.int .i64 x22r2_)]) ∧
    ∀ b_1 hp_4, b_1 = Array.size hp_3 → hp_4 = Array.push hp_3 (.cells (zeros Tryd.prog 94) 94) → (∃ i z, Tryd.prog.info? 94 = some i ∧ i.zero = some z) ∧
    List.length [(Value.int .i64 x22r0f0_), (Value.int .u64 x22r0f1_), (Value.int .i64 x22r0f2_), (Value.string x22r0f3_)] = 4 ∧ (∀ c ∈ [(Value.int .i64 x22r0f0_), (Value.int .u64 x22r0f1_), (Value.int .i64 x22r0f2_), (Value.string x22r0f3_)], c.oneCell' = true) ∧ wrAt hp_4 b_1 0 4 ∧ ∀ hp_5, hp_5 = setsH hp_4 b_1 0 [(Value.int .i64 x22r0f0_), (Value.int .u64 x22r0f1_), (Value.int .i64 x22r0f2_), (Value.string x22r0f3_)] →
    ∃ x26f0_ : Int, ∃ x26f1_ : Int, ∃ x26f2_ : Int, ∃ x26f3_ : ByteArray, cellsAt hp_5 b_1 0 [(Value.int .i64 x26f0_), (Value.int .u64 x26f1_), (Value.int .i64 x26f2_), (Value.string x26f3_)] ∧
    List.length [(Value.int .i64 x26f0_), (Value.int .u64 x26f1_), (Value.int .i64 x26f2_), (Value.string x26f3_)] = 4 ∧ (∀ c ∈ [(Value.int .i64 x26f0_), (Value.int .u64 x26f1_), (Value.int .i64 x26f2_), (Value.string x26f3_)], c.oneCell' = true) ∧ wrAt hp_5 b_ 0 4 ∧ ∀ hp_6, hp_6 = setsH hp_5 b_ 0 [(Value.int .i64 x26f0_), (Value.int .u64 x26f1_), (Value.int .i64 x26f2_), (Value.string x26f3_)] →
    ∃ resf0_1 : Int, ∃ resf1_1 : Int, ∃ resf2_1 : Int, ∃ resf3_1 : ByteArray, cellsAt hp_6 b_ 0 [(Value.int .i64 resf0_1), (Value.int .u64 resf1_1), (Value.int .i64 resf2_1), (Value.string resf3_1)] ∧
    R (.returned (Value.tuple #[(Value.agg #[(Value.int .i64 resf0_1), (Value.int .u64 resf1_1), (Value.int .i64 resf2_1), (Value.string resf3_1)]), (Value.int .i64 x22r2_)])) hp_6))) :
  CallsH Tryd.prog 74 #[(Value.pointer d_), (Value.int .i64 atv_)] h R := calls_vc fine false Tryd.func74 (ann := A74) (args := [(Value.pointer d_), (Value.int .i64 atv_)]) (by kernel_rfl) (Eq.mpr (by kernel_rfl) H)
/-- (turnout/turnoutref19.Met).body -/
def A75 : Ann := (.seq .nil (.seq .nil (.seq .nil (.seq .nil (.seq .nil (.seq (.seq .nil (.cond (.seq .nil .nil) .nil)) (.seq (.block (.loop [(1, .str)] (.seq (.seq .nil (.cond .nil .nil)) (.block (.seq (.seq .nil (.cond (.seq .nil .nil) .nil)) (.seq .nil (.seq .nil (.cut (.seq (.join 63) (.cond (.seq .nil .nil) .nil)) [] (.seq .nil (.seq .nil (.seq (.join 10) (.cut (.seq (.join 90) (.cond (.seq .nil .nil) .nil)) [] (.seq .nil (.seq (.seq .nil (.cond (.seq .nil .nil) .nil)) (.seq .nil (.seq .nil (.cond (.seq .nil .nil) .nil))))))))))))))))) (.seq .nil .nil))))))))
theorem V75 (mf0p_ : Option Addr) (mf0n_ mf0c_ : Nat) (mf1_ : ByteArray) (mf2_ : Bool) (s_ : ByteArray) (h : Hp) (R : Ending → Hp → Prop) (H :
  ∀ b_ hp_, b_ = Array.size h → hp_ = Array.push h (.cells #[(Value.slice mf0p_ mf0n_ mf0c_), (Value.string mf1_), (Value.bool mf2_)] 136) →
  ∀ b_1 hp_1, b_1 = Array.size hp_ → hp_1 = Array.push hp_ (.cells (zeros Tryd.prog 136) 136) → (∃ i z, Tryd.prog.info? 136 = some i ∧ i.zero = some z) ∧
  ∀ b_2 hp_2, b_2 = Array.size hp_1 → hp_2 = Array.push hp_1 (.cells (zeros Tryd.prog 136) 136) → (∃ i z, Tryd.prog.info? 136 = some i ∧ i.zero = some z) ∧
  ∃ (x12p_ : Option Addr) (x12n_ x12c_ : Nat), cellsAt hp_2 b_2 (0 + 0) [(Value.slice x12p_ x12n_ x12c_)] ∧
  ∃ (x14p_ : Option Addr) (x14n_ x14c_ : Nat), cellsAt hp_2 b_ (0 + 0) [(Value.slice x14p_ x14n_ x14c_)] ∧
  SemH Tryd.prog (Builtin.append_ #[32, 32] 32 #[(Value.slice x12p_ x12n_ x12c_), (Value.slice x14p_ x14n_ x14c_)]) hp_2 fun v_ hp_3 =>
  ∃ (x15p_ : Option Addr) (x15n_ x15c_ : Nat), v_ = (Value.slice x15p_ x15n_ x15c_) ∧
  Value.oneCell' (Value.slice x15p_ x15n_ x15c_) = true ∧ wrAt hp_3 b_2 (0 + 0) 1 ∧ ∀ hp_4, hp_4 = setsH hp_3 b_2 (0 + 0) [(Value.slice x15p_ x15n_ x15c_)] →
  ∃ x18_ : ByteArray, cellsAt hp_4 b_ (0 + 1) [(Value.string x18_)] ∧
  Value.oneCell' (Value.string x18_) = true ∧ wrAt hp_4 b_2 (0 + 1) 1 ∧ ∀ hp_5, hp_5 = setsH hp_4 b_2 (0 + 1) [(Value.string x18_)] →
  ∃ x21_ : Bool, cellsAt hp_5 b_ (0 + 2) [(Value.bool x21_)] ∧
  Value.oneCell' (Value.bool x21_) = true ∧ wrAt hp_5 b_2 (0 + 2) 1 ∧ ∀ hp_6, hp_6 = setsH hp_5 b_2 (0 + 2) [(Value.bool x21_)] →
  (((decide (s_ = (⟨#[]⟩ : ByteArray))) = true →
    ∃ (x25f0p_ : Option Addr) (x25f0n_ x25f0c_ : Nat), ∃ x25f1_ : ByteArray, ∃ x25f2_ : Bool, cellsAt hp_6 b_ 0 [(Value.slice x25f0p_ x25f0n_ x25f0c_), (Value.string x25f1_), (Value.bool x25f2_)] ∧
    List.length [(Value.slice x25f0p_ x25f0n_ x25f0c_), (Value.string x25f1_), (Value.bool x25f2_)] = 3 ∧ (∀ c ∈ [(Value.slice x25f0p_ x25f0n_ x25f0c_), (Value.string x25f1_), (Value.bool x25f2_)], c.oneCell' = true) ∧ wrAt hp_6 b_1 0 3 ∧ ∀ hp_7, hp_7 = setsH hp_6 b_1 0 [(Value.slice x25f0p_ x25f0n_ x25f0c_), (Value.string x25f1_), (Value.bool x25f2_)] →
    ∃ (resf0p_ : Option Addr) (resf0n_ resf0c_ : Nat), ∃ resf1_ : ByteArray, ∃ resf2_ : Bool, cellsAt hp_7 b_1 0 [(Value.slice resf0p_ resf0n_ resf0c_), (Value.string resf1_), (Value.bool resf2_)] ∧
    R (.returned (Value.tuple #[(Value.agg #[(Value.slice resf0p_ resf0n_ resf0c_), (Value.string resf1_), (Value.bool resf2_)]), (Value.bool false)])) hp_7) ∧
   ((decide (s_ = (⟨#[]⟩ : ByteArray))) = false →
    ∃ (Iv_ : List Value → Hp → Prop) (m_ : List Value → Hp → Nat), Iv_ [(Value.string s_)] hp_6 ∧
    (∀ (s_1 : ByteArray) hp_8, Iv_ [(Value.string s_1)] hp_8 →
     (((decide (s_1 ≠ (⟨#[]⟩ : ByteArray))) = true →
       (((decide ((ByteArray.size s_1 : Int) < (4 : Int))) = true →
         ∃ (x31f0p_ : Option Addr) (x31f0n_ x31f0c_ : Nat), ∃ x31f1_ : ByteArray, ∃ x31f2_ : Bool, cellsAt hp_8 b_ 0 [(Value.slice x31f0p_ x31f0n_ x31f0c_), (Value.string x31f1_), (Value.bool x31f2_)] ∧
         List.length [(Value.slice x31f0p_ x31f0n_ x31f0c_), (Value.string x31f1_), (Value.bool x31f2_)] = 3 ∧ (∀ c ∈ [(Value.slice x31f0p_ x31f0n_ x31f0c_), (Value.string x31f1_), (Value.bool x31f2_)], c.oneCell' = true) ∧ wrAt hp_8 b_1 0 3 ∧ ∀ hp_9, hp_9 = setsH hp_8 b_1 0 [(Value.slice x31f0p_ x31f0n_ x31f0c_), (Value.string x31f1_), (Value.bool x31f2_)] →
         ∃ (resf0p_1 : Option Addr) (resf0n_1 resf0c_1 : Nat), ∃ resf1_1 : ByteArray, ∃ resf2_1 : Bool, cellsAt hp_9 b_1 0 [(Value.slice resf0p_1 resf0n_1 resf0c_1), (Value.string resf1_1), (Value.bool resf2_1)] ∧
         R (.returned (Value.tuple #[(Value.agg #[(Value.slice resf0p_1 resf0n_1 resf0c_1), (Value.string resf1_1), (Value.bool resf2_1)]), (Value.bool false)])) hp_9) ∧
        ((decide ((ByteArray.size s_1 : Int) < (4 : Int))) = false →
         0 ≤ (0 : Int) ∧ ∃ x33_ : UInt8, s_1[Int.toNat (0 : Int)]? = some x33_ ∧
         ∃ x34_, IntKind.i64.wrap (x33_.toNat : Int) = x34_ ∧
         0 ≤ (1 : Int) ∧ ∃ x36_ : UInt8, s_1[Int.toNat (1 : Int)]? = some x36_ ∧
         ∃ x37_, IntKind.i64.wrap (x36_.toNat : Int) = x37_ ∧
         ∃ x38_, IntKind.i64.wrap ((256 : Int) * x37_) = x38_ ∧
         0 ≤ (2 : Int) ∧ ∃ x40_ : UInt8, s_1[Int.toNat (2 : Int)]? = some x40_ ∧
         ∃ x41_, IntKind.i64.wrap (x40_.toNat : Int) = x41_ ∧
         ∃ x42_, IntKind.i64.wrap (x38_ + x41_) = x42_ ∧
         ∃ Jv_ : List Value → Hp → Prop,
         (∃ B_ : Bool, ((((decide (x34_ < (1 : Int))) = true →
             hp_8 = hp_8 ∧ B_ = true) ∧
            ((decide (x34_ < (1 : Int))) = false →
             (((decide ((4 : Int) < x34_)) = true →
               hp_8 = hp_8 ∧ B_ = true) ∧
              ((decide ((4 : Int) < x34_)) = false →
               (((decide (x42_ < (1 : Int))) = true →
                 hp_8 = hp_8 ∧ B_ = true) ∧
                ((decide (x42_ < (1 : Int))) = false →
                 ∃ x57_, IntKind.i64.wrap ((ByteArray.size s_1 : Int) - (3 : Int)) = x57_ ∧
                 (((decide (x57_ < x42_)) = true →
                   hp_8 = hp_8 ∧ B_ = true) ∧
                  ((decide (x57_ < x42_)) = false →
                   hp_8 = hp_8 ∧ B_ = (decide ((488 : Int) < x42_))))))))))) ∧
          ((B_ = true →
            ∃ (x64f0p_ : Option Addr) (x64f0n_ x64f0c_ : Nat), ∃ x64f1_ : ByteArray, ∃ x64f2_ : Bool, cellsAt hp_8 b_ 0 [(Value.slice x64f0p_ x64f0n_ x64f0c_), (Value.string x64f1_), (Value.bool x64f2_)] ∧
            List.length [(Value.slice x64f0p_ x64f0n_ x64f0c_), (Value.string x64f1_), (Value.bool x64f2_)] = 3 ∧ (∀ c ∈ [(Value.slice x64f0p_ x64f0n_ x64f0c_), (Value.string x64f1_), (Value.bool x64f2_)], c.oneCell' = true) ∧ wrAt hp_8 b_1 0 3 ∧ ∀ hp_10, hp_10 = setsH hp_8 b_1 0 [(Value.slice x64f0p_ x64f0n_ x64f0c_), (Value.string x64f1_), (Value.bool x64f2_)] →
            ∃ (resf0p_2 : Option Addr) (resf0n_2 resf0c_2 : Nat), ∃ resf1_2 : ByteArray, ∃ resf2_2 : Bool, cellsAt hp_10 b_1 0 [(Value.slice resf0p_2 resf0n_2 resf0c_2), (Value.string resf1_2), (Value.bool resf2_2)] ∧
            R (.returned (Value.tuple #[(Value.agg #[(Value.slice resf0p_2 resf0n_2 resf0c_2), (Value.string resf1_2), (Value.bool resf2_2)]), (Value.bool false)])) hp_10) ∧
           (B_ = false →
            Jv_ [] hp_8))) ∧
         (∀  hp_11, Jv_ [] hp_11 →
          ∃ x67_, IntKind.i64.wrap ((3 : Int) + x42_) = x67_ ∧
          ∃ l_ : Nat, (3 : Int) = (l_ : Int) ∧
          ∃ u_ : Nat, x67_ = (u_ : Int) ∧
          l_ ≤ u_ ∧ u_ ≤ ByteArray.size s_1 ∧ ∃ x68_, ByteArray.extract s_1 l_ u_ = x68_ ∧
          ∃ x71_, IntKind.i64.wrap ((3 : Int) + x42_) = x71_ ∧
          ∃ l_1 : Nat, x71_ = (l_1 : Int) ∧
          l_1 ≤ (ByteArray.size s_1) ∧ (ByteArray.size s_1) ≤ ByteArray.size s_1 ∧ ∃ x72_, ByteArray.extract s_1 l_1 (ByteArray.size s_1) = x72_ ∧
          ∃ B_1 : Bool, ((((decide (x34_ = (2 : Int))) = true →
             hp_11 = hp_11 ∧ B_1 = true) ∧
            ((decide (x34_ = (2 : Int))) = false →
             hp_11 = hp_11 ∧ B_1 = (decide (x34_ = (3 : Int)))))) ∧
          ∃ Jv_1 : List Value → Hp → Prop,
          (∃ B_2 : Bool, (∃ x80_ : Bool, cellsAt hp_11 b_2 (0 + 2) [(Value.bool x80_)] ∧
            ∃ x83_, EqV Tryd.prog 4 (Value.bool x80_) (Value.bool (decide ((2 : Int) < x34_))) x83_ ∧
            (((!x83_) = true →
              hp_11 = hp_11 ∧ B_2 = true) ∧
             ((!x83_) = false →
              ((B_1 = true →
                hp_11 = hp_11 ∧ B_2 = (decide (x72_ ≠ (⟨#[]⟩ : ByteArray)))) ∧
               (B_1 = false →
                hp_11 = hp_11 ∧ B_2 = false))))) ∧
           ((B_2 = true →
             ∃ (x91f0p_ : Option Addr) (x91f0n_ x91f0c_ : Nat), ∃ x91f1_ : ByteArray, ∃ x91f2_ : Bool, cellsAt hp_11 b_ 0 [(Value.slice x91f0p_ x91f0n_ x91f0c_), (Value.string x91f1_), (Value.bool x91f2_)] ∧
             List.length [(Value.slice x91f0p_ x91f0n_ x91f0c_), (Value.string x91f1_), (Value.bool x91f2_)] = 3 ∧ (∀ c ∈ [(Value.slice x91f0p_ x91f0n_ x91f0c_), (Value.string x91f1_), (Value.bool x91f2_)], c.oneCell' = true) ∧ wrAt hp_11 b_1 0 3 ∧ ∀ hp_12, hp_12 = setsH hp_11 b_1 0 [(Value.slice x91f0p_ x91f0n_ x91f0c_), (Value.string x91f1_), (Value.bool x91f2_)] →
             ∃ (resf0p_3 : Option Addr) (resf0n_3 resf0c_3 : Nat), ∃ resf1_3 : ByteArray, ∃ resf2_3 : Bool, cellsAt hp_12 b_1 0 [(Value.slice resf0p_3 resf0n_3 resf0c_3), (Value.string resf1_3), (Value.bool resf2_3)] ∧
             R (.returned (Value.tuple #[(Value.agg #[(Value.slice resf0p_3 resf0n_3 resf0c_3), (Value.string resf1_3), (Value.bool resf2_3)]), (Value.bool false)])) hp_12) ∧
            (B_2 = false →
             Jv_1 [] hp_11))) ∧
          (∀  hp_13, Jv_1 [] hp_13 →
           ∃ x93_ : ByteArray, cellsAt hp_13 b_2 (0 + 1) [(Value.string x93_)] ∧
           ByteArray.size x93_ + ByteArray.size x68_ ≤ 9223372036854775807 ∧ ∃ x95_, x93_ ++ x68_ = x95_ ∧
           Value.oneCell' (Value.string x95_) = true ∧ wrAt hp_13 b_2 (0 + 1) 1 ∧ ∀ hp_14, hp_14 = setsH hp_13 b_2 (0 + 1) [(Value.string x95_)] →
           ∃ x98_ : ByteArray, cellsAt hp_14 b_2 (0 + 1) [(Value.string x98_)] ∧
           (((decide ((65536 : Int) < (ByteArray.size x98_ : Int))) = true →
             ∃ (x101f0p_ : Option Addr) (x101f0n_ x101f0c_ : Nat), ∃ x101f1_ : ByteArray, ∃ x101f2_ : Bool, cellsAt hp_14 b_ 0 [(Value.slice x101f0p_ x101f0n_ x101f0c_), (Value.string x101f1_), (Value.bool x101f2_)] ∧
             List.length [(Value.slice x101f0p_ x101f0n_ x101f0c_), (Value.string x101f1_), (Value.bool x101f2_)] = 3 ∧ (∀ c ∈ [(Value.slice x101f0p_ x101f0n_ x101f0c_), (Value.string x101f1_), (Value.bool x101f2_)], c.oneCell' = true) ∧ wrAt hp_14 b_1 0 3 ∧ ∀ hp_15, hp_15 = setsH hp_14 b_1 0 [(Value.slice x101f0p_ x101f0n_ x101f0c_), (Value.string x101f1_), (Value.bool x101f2_)] →
             ∃ (resf0p_4 : Option Addr) (resf0n_4 resf0c_4 : Nat), ∃ resf1_4 : ByteArray, ∃ resf2_4 : Bool, cellsAt hp_15 b_1 0 [(Value.slice resf0p_4 resf0n_4 resf0c_4), (Value.string resf1_4), (Value.bool resf2_4)] ∧
             R (.returned (Value.tuple #[(Value.agg #[(Value.slice resf0p_4 resf0n_4 resf0c_4), (Value.string resf1_4), (Value.bool resf2_4)]), (Value.bool false)])) hp_15) ∧
            ((decide ((65536 : Int) < (ByteArray.size x98_ : Int))) = false →
             Value.oneCell' (Value.bool B_1) = true ∧ wrAt hp_14 b_2 (0 + 2) 1 ∧ ∀ hp_16, hp_16 = setsH hp_14 b_2 (0 + 2) [(Value.bool B_1)] →
             (((!B_1) = true →
               ∃ (x107p_ : Option Addr) (x107n_ x107c_ : Nat), cellsAt hp_16 b_2 (0 + 0) [(Value.slice x107p_ x107n_ x107c_)] ∧
               ∃ x109_ : ByteArray, cellsAt hp_16 b_2 (0 + 1) [(Value.string x109_)] ∧
               SemH Tryd.prog (Instr.buildSlice 32 1 #[(0, (Value.string x109_))]) hp_16 fun v_1 hp_17 =>
               ∃ (x110p_ : Option Addr) (x110n_ x110c_ : Nat), v_1 = (Value.slice x110p_ x110n_ x110c_) ∧
               SemH Tryd.prog (Builtin.append_ #[32, 32] 32 #[(Value.slice x107p_ x107n_ x107c_), (Value.slice x110p_ x110n_ x110c_)]) hp_17 fun v_2 hp_18 =>
               ∃ (x111p_ : Option Addr) (x111n_ x111c_ : Nat), v_2 = (Value.slice x111p_ x111n_ x111c_) ∧
               Value.oneCell' (Value.slice x111p_ x111n_ x111c_) = true ∧ wrAt hp_18 b_2 (0 + 0) 1 ∧ ∀ hp_19, hp_19 = setsH hp_18 b_2 (0 + 0) [(Value.slice x111p_ x111n_ x111c_)] →
               Value.oneCell' (Value.string (⟨#[]⟩ : ByteArray)) = true ∧ wrAt hp_19 b_2 (0 + 1) 1 ∧ ∀ hp_20, hp_20 = setsH hp_19 b_2 (0 + 1) [(Value.string (⟨#[]⟩ : ByteArray))] →
               (Iv_ [(Value.string x72_)] hp_20 ∧ m_ [(Value.string x72_)] hp_20 < m_ [(Value.string s_1)] hp_8)) ∧
              ((!B_1) = false →
               (Iv_ [(Value.string x72_)] hp_16 ∧ m_ [(Value.string x72_)] hp_16 < m_ [(Value.string s_1)] hp_8)))))))))) ∧
      ((decide (s_1 ≠ (⟨#[]⟩ : ByteArray))) = false →
       ∃ (x114f0p_ : Option Addr) (x114f0n_ x114f0c_ : Nat), ∃ x114f1_ : ByteArray, ∃ x114f2_ : Bool, cellsAt hp_8 b_2 0 [(Value.slice x114f0p_ x114f0n_ x114f0c_), (Value.string x114f1_), (Value.bool x114f2_)] ∧
       List.length [(Value.slice x114f0p_ x114f0n_ x114f0c_), (Value.string x114f1_), (Value.bool x114f2_)] = 3 ∧ (∀ c ∈ [(Value.slice x114f0p_ x114f0n_ x114f0c_), (Value.string x114f1_), (Value.bool x114f2_)], c.oneCell' = true) ∧ wrAt hp_8 b_1 0 3 ∧ ∀ hp_21, hp_21 = setsH hp_8 b_1 0 [(Value.slice x114f0p_ x114f0n_ x114f0c_), (Value.string x114f1_), (Value.bool x114f2_)] →
       ∃ (resf0p_5 : Option Addr) (resf0n_5 resf0c_5 : Nat), ∃ resf1_5 : ByteArray, ∃ resf2_5 : Bool, cellsAt hp_21 b_1 0 [(Value.slice resf0p_5 resf0n_5 resf0c_5), (Value.string resf1_5), (Value.bool resf2_5)] ∧
       R (.returned (Value.tuple #[(Value.agg #[(Value.slice resf0p_5 resf0n_5 resf0c_5), (Value.string resf1_5), (Value.bool resf2_5)]), (Value.bool true)])) hp_21)))))) :
  CallsH Tryd.prog 75 #[(Value.agg #[(Value.slice mf0p_ mf0n_ mf0c_), (Value.string mf1_), (Value.bool mf2_)]), (Value.string s_)] h R := calls_vc fine false Tryd.func75 (ann := A75) (args := [(Value.agg #[(Value.slice mf0p_ mf0n_ mf0c_), (Value.string mf1_), (Value.bool mf2_)]), (Value.string s_)]) (by kernel_rfl) (Eq.mpr (by kernel_rfl) H)
/-- (*turnout/turnoutref19.Log).Append -/
def A76 : Ann := (.seq .nil (.seq (.block (.seq .nil (.cond (.seq .nil .nil) (.seq .nil (.cond (.seq .nil .nil) (.seq .nil (.cond (.seq .nil .nil) (.seq .nil (.cond (.seq .nil .nil) .nil))))))))) (.seq .nil (.seq (.block (.loop [(5, (.int .i64))] (.seq (.seq .nil (.cond .nil .nil)) (.block (.seq .nil (.seq .nil (.cut (.block (.seq (.join 39) (.cond .nil (.seq .nil (.cond .nil (.seq .nil (.cond .nil .nil))))))) [(7, (.int .i64))] (.seq (.drawLast [4]) (.seq .nil (.seq .nil (.cond (.seq .nil (.seq .nil (.cond (.seq .nil .nil) .nil))) .nil))))))))))) (.seq .nil .nil)))))
theorem V76 (l_ : Option Addr) (r_ : ByteArray) (h : Hp) (R : Ending → Hp → Prop) (H :
  ∃ b_ o_, l_ = some ⟨b_, o_, none⟩ ∧
  ∃ x13_ : Bool, cellsAt h b_ (o_ + 6) [(Value.bool x13_)] ∧
  ((x13_ = true →
    R (.returned (Value.int .i64 (191 : Int))) h) ∧
   (x13_ = false →
    (((decide (r_ = (⟨#[]⟩ : ByteArray))) = true →
      R (.returned (Value.int .i64 (1 : Int))) h) ∧
     ((decide (r_ = (⟨#[]⟩ : ByteArray))) = false →
      (((decide ((65536 : Int) < (ByteArray.size r_ : Int))) = true →
        R (.returned (Value.int .i64 (2 : Int))) h) ∧
       ((decide ((65536 : Int) < (ByteArray.size r_ : Int))) = false →
        CallsH Tryd.prog 52 #[(Value.pointer l_)] h fun en_ hp_ =>
        ∃ x25_ : Int, en_ = .returned (Value.int .i64 x25_) ∧
        (((decide (x25_ < (ByteArray.size r_ : Int))) = true →
          R (.returned (Value.int .i64 (190 : Int))) hp_) ∧
         ((decide (x25_ < (ByteArray.size r_ : Int))) = false →
          ∃ (Iv_ : List Value → Hp → Prop) (m_ : List Value → Hp → Nat), Iv_ [(Value.int .i64 (0 : Int))] hp_ ∧
          (∀ (atv_ : Int) hp_1, Iv_ [(Value.int .i64 atv_)] hp_1 →
           (((decide (atv_ < (ByteArray.size r_ : Int))) = true →
             ∃ x34_, IntKind.i64.wrap ((ByteArray.size r_ : Int) - atv_) = x34_ ∧
             CallsH Tryd.prog 77 #[(Value.pointer l_)] hp_1 fun en_1 hp_2 =>
             ∃ x36_ : Int, en_1 = .returned (Value.int .i64 x36_) ∧
             ∃ x37_, IntKind.i64.wrap (x36_ - (3 : Int)) = x37_ ∧
             ∃ Jv_ : List Value → Hp → Prop,
             (∃ B_ : Bool, ((((decide (atv_ = (0 : Int))) = true →
                 hp_2 = hp_2 ∧ B_ = (decide ((min x34_ x37_) = (ByteArray.size r_ : Int)))) ∧
                ((decide (atv_ = (0 : Int))) = false →
                 hp_2 = hp_2 ∧ B_ = false))) ∧
              ((B_ = true →
                Jv_ [(Value.int .i64 (1 : Int))] hp_2) ∧
               (B_ = false →
                (((decide (atv_ = (0 : Int))) = true →
                  Jv_ [(Value.int .i64 (2 : Int))] hp_2) ∧
                 ((decide (atv_ = (0 : Int))) = false →
                  ∃ x54_, IntKind.i64.wrap (atv_ + (min x34_ x37_)) = x54_ ∧
                  (((decide (x54_ = (ByteArray.size r_ : Int))) = true →
                    Jv_ [(Value.int .i64 (4 : Int))] hp_2) ∧
                   ((decide (x54_ = (ByteArray.size r_ : Int))) = false →
                    Jv_ [(Value.int .i64 (3 : Int))] hp_2))))))) ∧
             (∀ (which_ : Int) hp_3, Jv_ [(Value.int .i64 which_)] hp_3 →
              ∃ Cv_ : Hp → Prop, Cv_ hp_3 ∧
              ∃ b_1 o_1, l_ = some ⟨b_1, o_1, none⟩ ∧
              ∃ x62_ : ByteArray, (∀ h', Cv_ h' → cellsAt h' b_1 (o_1 + 5) [(Value.string x62_)]) ∧
              ∃ x68_, IntKind.i64.wrap (atv_ + (min x34_ x37_)) = x68_ ∧
              ∃ l_1 : Nat, atv_ = (l_1 : Int) ∧
              ∃ u_ : Nat, x68_ = (u_ : Int) ∧
              l_1 ≤ u_ ∧ u_ ≤ ByteArray.size r_ ∧ ∃ x69_, ByteArray.extract r_ l_1 u_ = x69_ ∧
              CallsH Tryd.prog 92 #[(Value.int .i64 which_), (Value.string x69_)] hp_3 fun en_2 hp_4 =>
              ∃ x70_ : ByteArray, en_2 = .returned (Value.string x70_) ∧
              Cv_ hp_4 ∧
              ByteArray.size x62_ + ByteArray.size x70_ ≤ 9223372036854775807 ∧ ∃ x71_, x62_ ++ x70_ = x71_ ∧
              ∃ b_2 o_2, l_ = some ⟨b_2, o_2, none⟩ ∧
              Value.oneCell' (Value.string x71_) = true ∧ wrAt hp_4 b_2 (o_2 + 5) 1 ∧ ∀ hp_5, hp_5 = setsH hp_4 b_2 (o_2 + 5) [(Value.string x71_)] →
              ∃ x76_, IntKind.i64.wrap (atv_ + (min x34_ x37_)) = x76_ ∧
              CallsH Tryd.prog 77 #[(Value.pointer l_)] hp_5 fun en_3 hp_6 =>
              ∃ x78_ : Int, en_3 = .returned (Value.int .i64 x78_) ∧
              (((decide (x78_ < (4 : Int))) = true →
                CallsH Tryd.prog 78 #[(Value.pointer l_)] hp_6 fun en_4 hp_7 =>
                ∃ x81_ : Int, en_4 = .returned (Value.int .i64 x81_) ∧
                (((decide (x81_ ≠ (0 : Int))) = true →
                  R (.returned (Value.int .i64 x81_)) hp_7) ∧
                 ((decide (x81_ ≠ (0 : Int))) = false →
                  (Iv_ [(Value.int .i64 x76_)] hp_7 ∧ m_ [(Value.int .i64 x76_)] hp_7 < m_ [(Value.int .i64 atv_)] hp_1)))) ∧
               ((decide (x78_ < (4 : Int))) = false →
                (Iv_ [(Value.int .i64 x76_)] hp_6 ∧ m_ [(Value.int .i64 x76_)] hp_6 < m_ [(Value.int .i64 atv_)] hp_1))))) ∧
            ((decide (atv_ < (ByteArray.size r_ : Int))) = false →
             R (.returned (Value.int .i64 (0 : Int))) hp_1)))))))))))) :
  CallsH Tryd.prog 76 #[(Value.pointer l_), (Value.string r_)] h R := calls_vc fine false Tryd.func76 (ann := A76) (args := [(Value.pointer l_), (Value.string r_)]) (by kernel_rfl) (Eq.mpr (by kernel_rfl) H)
/-- (*turnout/turnoutref19.Log).room -/
def A77 : Ann := (.seq .nil (.seq (.seq .nil (.cond (.seq .nil .nil) .nil)) (.seq .nil .nil)))
theorem V77 (l_ : Option Addr) (h : Hp) (R : Ending → Hp → Prop) (H :
  ∃ b_ o_, l_ = some ⟨b_, o_, none⟩ ∧
  ∃ x6_ : Int, cellsAt h b_ (o_ + 4) [(Value.int .i64 x6_)] ∧
  ∃ b_1 o_1, l_ = some ⟨b_1, o_1, none⟩ ∧
  ∃ x10_ : Int, cellsAt h b_1 (o_1 + 2) [(Value.int .i64 x10_)] ∧
  (((decide (x6_ = x10_)) = true →
    R (.returned (Value.int .i64 (0 : Int))) h) ∧
   ((decide (x6_ = x10_)) = false →
    ∃ b_2 o_2, l_ = some ⟨b_2, o_2, none⟩ ∧
    ∃ x15_ : ByteArray, cellsAt h b_2 (o_2 + 5) [(Value.string x15_)] ∧
    ∃ x17_, IntKind.i64.wrap ((491 : Int) - (ByteArray.size x15_ : Int)) = x17_ ∧
    R (.returned (Value.int .i64 x17_)) h))) :
  CallsH Tryd.prog 77 #[(Value.pointer l_)] h R := calls_vc fine false Tryd.func77 (ann := A77) (args := [(Value.pointer l_)]) (by kernel_rfl) (Eq.mpr (by kernel_rfl) H)
/-- (*turnout/turnoutref19.Log).write -/
def A78 : Ann := (.seq .nil (.seq .nil (.seq (.seq .nil (.cond (.seq .nil (.seq .nil .nil)) .nil)) (.seq .nil (.seq .nil (.seq .nil .nil))))))
theorem V78 (l_ : Option Addr) (h : Hp) (R : Ending → Hp → Prop) (H :
  ∃ b_ o_, l_ = some ⟨b_, o_, none⟩ ∧
  ∃ x7_ : Option Addr, cellsAt h b_ (o_ + 0) [(Value.pointer x7_)] ∧
  ∃ b_1 o_1, l_ = some ⟨b_1, o_1, none⟩ ∧
  ∃ x11_ : Int, cellsAt h b_1 (o_1 + 1) [(Value.int .i64 x11_)] ∧
  ∃ b_2 o_2, l_ = some ⟨b_2, o_2, none⟩ ∧
  ∃ x15_ : Int, cellsAt h b_2 (o_2 + 4) [(Value.int .i64 x15_)] ∧
  ∃ x16_, IntKind.i64.wrap (x11_ + x15_) = x16_ ∧
  ∃ b_3 o_3, l_ = some ⟨b_3, o_3, none⟩ ∧
  ∃ x20_ : Int, cellsAt h b_3 (o_3 + 3) [(Value.int .u64 x20_)] ∧
  ∃ b_4 o_4, l_ = some ⟨b_4, o_4, none⟩ ∧
  ∃ x24_ : Int, cellsAt h b_4 (o_4 + 4) [(Value.int .i64 x24_)] ∧
  ∃ b_5 o_5, l_ = some ⟨b_5, o_5, none⟩ ∧
  ∃ x28_ : ByteArray, cellsAt h b_5 (o_5 + 5) [(Value.string x28_)] ∧
  CallsH Tryd.prog 93 #[(Value.pointer x7_), (Value.int .i64 x16_), (Value.agg #[(Value.int .i64 (3 : Int)), (Value.int .u64 x20_), (Value.int .i64 x24_), (Value.string x28_)])] h fun en_ hp_ =>
  ∃ x30_ : Int, en_ = .returned (Value.int .i64 x30_) ∧
  (((decide (x30_ ≠ (0 : Int))) = true →
    ∃ b_6 o_6, l_ = some ⟨b_6, o_6, none⟩ ∧
    Value.oneCell' (Value.bool true) = true ∧ wrAt hp_ b_6 (o_6 + 6) 1 ∧ ∀ hp_1, hp_1 = setsH hp_ b_6 (o_6 + 6) [(Value.bool true)] →
    R (.returned (Value.int .i64 x30_)) hp_1) ∧
   ((decide (x30_ ≠ (0 : Int))) = false →
    ∃ b_7 o_7, l_ = some ⟨b_7, o_7, none⟩ ∧
    ∃ x40_ : Int, cellsAt hp_ b_7 (o_7 + 4) [(Value.int .i64 x40_)] ∧
    ∃ x41_, IntKind.i64.wrap (x40_ + (1 : Int)) = x41_ ∧
    ∃ b_8 o_8, l_ = some ⟨b_8, o_8, none⟩ ∧
    Value.oneCell' (Value.int .i64 x41_) = true ∧ wrAt hp_ b_8 (o_8 + 4) 1 ∧ ∀ hp_2, hp_2 = setsH hp_ b_8 (o_8 + 4) [(Value.int .i64 x41_)] →
    ∃ b_9 o_9, l_ = some ⟨b_9, o_9, none⟩ ∧
    Value.oneCell' (Value.string (⟨#[]⟩ : ByteArray)) = true ∧ wrAt hp_2 b_9 (o_9 + 5) 1 ∧ ∀ hp_3, hp_3 = setsH hp_2 b_9 (o_9 + 5) [(Value.string (⟨#[]⟩ : ByteArray))] →
    R (.returned (Value.int .i64 (0 : Int))) hp_3))) :
  CallsH Tryd.prog 78 #[(Value.pointer l_)] h R := calls_vc fine false Tryd.func78 (ann := A78) (args := [(Value.pointer l_)]) (by kernel_rfl) (Eq.mpr (by kernel_rfl) H)
/-- (*turnout/turnoutref04.Disk).Flush -/
def A79 : Ann := (.seq .nil (.seq (.seq .nil (.cond (.seq .nil .nil) .nil)) (.seq .nil (.seq (.seq .nil (.cond (.seq .nil .nil) .nil)) (.seq (.seq .nil (.block (.loop [(4, (.int .i64))] (.seq (.seq .nil (.cond .nil .nil)) (.seq (.block .nil) .nil))))) (.seq .nil (.seq .nil (.seq .nil .nil))))))))
theorem V79 (d_ : Option Addr) (h : Hp) (R : Ending → Hp → Prop) (H :
  ∃ b_ o_, d_ = some ⟨b_, o_, none⟩ ∧
  ∃ x8_ : Bool, cellsAt h b_ (o_ + 2) [(Value.bool x8_)] ∧
  ((x8_ = true →
    R (.returned (Value.int .i64 (40 : Int))) h) ∧
   (x8_ = false →
    CallsH Tryd.prog 81 #[(Value.pointer d_)] h fun en_ hp_ =>
    ∃ x10_ : Bool, en_ = .returned (Value.bool x10_) ∧
    ((x10_ = true →
      R (.returned (Value.int .i64 (40 : Int))) hp_) ∧
     (x10_ = false →
      ∃ (Iv_ : List Value → Hp → Prop) (m_ : List Value → Hp → Nat), Iv_ [(Value.int .i64 (0 : Int))] hp_ ∧
      (∀ (i_ : Int) hp_1, Iv_ [(Value.int .i64 i_)] hp_1 →
       ∃ b_1 o_1, d_ = some ⟨b_1, o_1, none⟩ ∧
       ∃ (x16p_ : Option Addr) (x16n_ x16c_ : Nat), cellsAt hp_1 b_1 (o_1 + 1) [(Value.slice x16p_ x16n_ x16c_)] ∧
       (((decide (i_ < ((x16n_ : Nat) : Int))) = true →
         ∃ b_2 o_2, d_ = some ⟨b_2, o_2, none⟩ ∧
         ∃ (x24p_ : Option Addr) (x24n_ x24c_ : Nat), cellsAt hp_1 b_2 (o_2 + 0) [(Value.slice x24p_ x24n_ x24c_)] ∧
         ∃ b_3 o_3, d_ = some ⟨b_3, o_3, none⟩ ∧
         ∃ (x28p_ : Option Addr) (x28n_ x28c_ : Nat), cellsAt hp_1 b_3 (o_3 + 1) [(Value.slice x28p_ x28n_ x28c_)] ∧
         ∃ b_4 o_4, x28p_ = some ⟨b_4, o_4, none⟩ ∧ 0 ≤ i_ ∧ i_ < (x28n_ : Int) ∧
         ∃ x32_ : Int, cellsAt hp_1 b_4 ((o_4 + Int.toNat i_ * 2) + 0) [(Value.int .i64 x32_)] ∧
         ∃ b_5 o_5, d_ = some ⟨b_5, o_5, none⟩ ∧
         ∃ (x36p_ : Option Addr) (x36n_ x36c_ : Nat), cellsAt hp_1 b_5 (o_5 + 1) [(Value.slice x36p_ x36n_ x36c_)] ∧
         ∃ b_6 o_6, x36p_ = some ⟨b_6, o_6, none⟩ ∧ 0 ≤ i_ ∧ i_ < (x36n_ : Int) ∧
         ∃ x40_ : ByteArray, cellsAt hp_1 b_6 ((o_6 + Int.toNat i_ * 2) + 1) [(Value.string x40_)] ∧
         ∃ b_7 o_7, x24p_ = some ⟨b_7, o_7, none⟩ ∧ 0 ≤ x32_ ∧ x32_ < (x24n_ : Int) ∧
         Value.oneCell' (Value.string x40_) = true ∧ wrAt hp_1 b_7 (o_7 + Int.toNat x32_ * 1) 1 ∧ ∀ hp_2, hp_2 = setsH hp_1 b_7 (o_7 + Int.toNat x32_ * 1) [(Value.string x40_)] →
         ∃ x20_, IntKind.i64.wrap (i_ + (1 : Int)) = x20_ ∧
         (Iv_ [(Value.int .i64 x20_)] hp_2 ∧ m_ [(Value.int .i64 x20_)] hp_2 < m_ [(Value.int .i64 i_)] hp_1)) ∧
        ((decide (i_ < ((x16n_ : Nat) : Int))) = false →
         ∃ b_8 o_8, d_ = some ⟨b_8, o_8, none⟩ ∧
         Value.oneCell' (Value.slice none 0 0) = true ∧ wrAt hp_1 b_8 (o_8 + 1) 1 ∧ ∀ hp_3, hp_3 = setsH hp_1 b_8 (o_8 + 1) [(Value.slice none 0 0)] →
         ∃ b_9 o_9, d_ = some ⟨b_9, o_9, none⟩ ∧
         ∃ x49_ : Int, cellsAt hp_3 b_9 ((o_9 + 4) + 2) [(Value.int .i64 x49_)] ∧
         ∃ x50_, IntKind.i64.wrap (x49_ + (1 : Int)) = x50_ ∧
         ∃ b_10 o_10, d_ = some ⟨b_10, o_10, none⟩ ∧
         Value.oneCell' (Value.int .i64 x50_) = true ∧ wrAt hp_3 b_10 ((o_10 + 4) + 2) 1 ∧ ∀ hp_4, hp_4 = setsH hp_3 b_10 ((o_10 + 4) + 2) [(Value.int .i64 x50_)] →
         R (.returned (Value.int .i64 (0 : Int))) hp_4)))))))) :
  CallsH Tryd.prog 79 #[(Value.pointer d_)] h R := calls_vc fine false Tryd.func79 (ann := A79) (args := [(Value.pointer d_)]) (by kernel_rfl) (Eq.mpr (by kernel_rfl) H)
/-- (*turnout/disk.Disk).Write$1 -/
def A80 : Ann := .nil
theorem V80 (safep_ : Option Addr) (safen_ safec_ : Nat) (keep_ : Int) (a2_ : Option Addr) (a3_ : Option Addr) (h : Hp) (R : Ending → Hp → Prop) (H :
  ∃ b_ o_, a3_ = some ⟨b_, o_, none⟩ ∧
  ∃ x7_ : Int, cellsAt h b_ o_ [(Value.int .i64 x7_)] ∧
  ∃ b_1 o_1, a2_ = some ⟨b_1, o_1, none⟩ ∧
  ∃ x8_ : ByteArray, cellsAt h b_1 o_1 [(Value.string x8_)] ∧
  ∃ u_ : Nat, keep_ = (u_ : Int) ∧
  0 ≤ u_ ∧ u_ ≤ ByteArray.size x8_ ∧ ∃ x10_, ByteArray.extract x8_ 0 u_ = x10_ ∧
  ∃ b_2 o_2, a3_ = some ⟨b_2, o_2, none⟩ ∧
  ∃ x12_ : Int, cellsAt h b_2 o_2 [(Value.int .i64 x12_)] ∧
  ∃ b_3 o_3, safep_ = some ⟨b_3, o_3, none⟩ ∧ 0 ≤ x12_ ∧ x12_ < (safen_ : Int) ∧
  ∃ x14_ : ByteArray, cellsAt h b_3 (o_3 + Int.toNat x12_ * 1) [(Value.string x14_)] ∧
  ∃ l_ : Nat, keep_ = (l_ : Int) ∧
  l_ ≤ (ByteArray.size x14_) ∧ (ByteArray.size x14_) ≤ ByteArray.size x14_ ∧ ∃ x16_, ByteArray.extract x14_ l_ (ByteArray.size x14_) = x16_ ∧
  ByteArray.size x10_ + ByteArray.size x16_ ≤ 9223372036854775807 ∧ ∃ x17_, x10_ ++ x16_ = x17_ ∧
  ∃ b_4 o_4, safep_ = some ⟨b_4, o_4, none⟩ ∧ 0 ≤ x7_ ∧ x7_ < (safen_ : Int) ∧
  Value.oneCell' (Value.string x17_) = true ∧ wrAt h b_4 (o_4 + Int.toNat x7_ * 1) 1 ∧ ∀ hp_, hp_ = setsH h b_4 (o_4 + Int.toNat x7_ * 1) [(Value.string x17_)] →
  R (.returned (Value.tuple #[])) hp_) :
  CallsH Tryd.prog 80 #[(Value.slice safep_ safen_ safec_), (Value.int .i64 keep_), (Value.pointer a2_), (Value.pointer a3_)] h R := calls_vc fine false Tryd.func80 (ann := A80) (args := [(Value.slice safep_ safen_ safec_), (Value.int .i64 keep_), (Value.pointer a2_), (Value.pointer a3_)]) (by kernel_rfl) (Eq.mpr (by kernel_rfl) H)
/-- (*turnout/turnoutref04.Disk).step -/
def A81 : Ann := (.seq .nil (.seq (.seq .nil (.cond (.seq .nil .nil) .nil)) (.seq .nil .nil)))
theorem V81 (d_ : Option Addr) (h : Hp) (R : Ending → Hp → Prop) (H :
  ∃ b_ o_, d_ = some ⟨b_, o_, none⟩ ∧
  ∃ x6_ : Int, cellsAt h b_ (o_ + 3) [(Value.int .i64 x6_)] ∧
  (((decide ((0 : Int) < x6_)) = true →
    ∃ b_1 o_1, d_ = some ⟨b_1, o_1, none⟩ ∧
    ∃ x11_ : Int, cellsAt h b_1 (o_1 + 3) [(Value.int .i64 x11_)] ∧
    ∃ x12_, IntKind.i64.wrap (x11_ - (1 : Int)) = x12_ ∧
    ∃ b_2 o_2, d_ = some ⟨b_2, o_2, none⟩ ∧
    Value.oneCell' (Value.int .i64 x12_) = true ∧ wrAt h b_2 (o_2 + 3) 1 ∧ ∀ hp_, hp_ = setsH h b_2 (o_2 + 3) [(Value.int .i64 x12_)] →
    ∃ b_3 o_3, d_ = some ⟨b_3, o_3, none⟩ ∧
    ∃ x19_ : Int, cellsAt hp_ b_3 (o_3 + 3) [(Value.int .i64 x19_)] ∧
    ∃ b_4 o_4, d_ = some ⟨b_4, o_4, none⟩ ∧
    Value.oneCell' (Value.bool (decide (x19_ = (0 : Int)))) = true ∧ wrAt hp_ b_4 (o_4 + 2) 1 ∧ ∀ hp_1, hp_1 = setsH hp_ b_4 (o_4 + 2) [(Value.bool (decide (x19_ = (0 : Int))))] →
    ∃ b_5 o_5, d_ = some ⟨b_5, o_5, none⟩ ∧
    ∃ x26_ : Bool, cellsAt hp_1 b_5 (o_5 + 2) [(Value.bool x26_)] ∧
    R (.returned (Value.bool x26_)) hp_1) ∧
   ((decide ((0 : Int) < x6_)) = false →
    ∃ b_6 o_6, d_ = some ⟨b_6, o_6, none⟩ ∧
    ∃ x26_1 : Bool, cellsAt h b_6 (o_6 + 2) [(Value.bool x26_1)] ∧
    R (.returned (Value.bool x26_1)) h))) :
  CallsH Tryd.prog 81 #[(Value.pointer d_)] h R := calls_vc fine false Tryd.func81 (ann := A81) (args := [(Value.pointer d_)]) (by kernel_rfl) (Eq.mpr (by kernel_rfl) H)
/-- turnout/frame.refused -/
def A82 : Ann := (.seq .nil (.seq (.seq (.join 20) (.cond (.seq .nil .nil) .nil)) (.seq (.seq .nil (.cond (.seq .nil .nil) .nil)) (.seq .nil .nil))))
theorem V82 (ff0_ : Int) (ff1_ : Int) (ff2_ : Int) (ff3_ : ByteArray) (h : Hp) (R : Ending → Hp → Prop) (H :
  ∀ b_ hp_, b_ = Array.size h → hp_ = Array.push h (.cells #[(Value.int .i64 ff0_), (Value.int .u64 ff1_), (Value.int .i64 ff2_), (Value.string ff3_)] 94) →
  ∃ B_ : Bool, (∃ x4_ : Int, cellsAt hp_ b_ (0 + 0) [(Value.int .i64 x4_)] ∧
   (((decide (x4_ < (1 : Int))) = true →
     hp_ = hp_ ∧ B_ = true) ∧
    ((decide (x4_ < (1 : Int))) = false →
     ∃ x8_ : Int, cellsAt hp_ b_ (0 + 0) [(Value.int .i64 x8_)] ∧
     (((decide ((255 : Int) < x8_)) = true →
       hp_ = hp_ ∧ B_ = true) ∧
      ((decide ((255 : Int) < x8_)) = false →
       ∃ x13_ : Int, cellsAt hp_ b_ (0 + 2) [(Value.int .i64 x13_)] ∧
       (((decide (x13_ < (0 : Int))) = true →
         hp_ = hp_ ∧ B_ = true) ∧
        ((decide (x13_ < (0 : Int))) = false →
         ∃ x18_ : Int, cellsAt hp_ b_ (0 + 2) [(Value.int .i64 x18_)] ∧
         hp_ = hp_ ∧ B_ = (decide ((2147483647 : Int) < x18_))))))))) ∧
  ((B_ = true →
    R (.returned (Value.int .i64 (1 : Int))) hp_) ∧
   (B_ = false →
    ∃ x22_ : ByteArray, cellsAt hp_ b_ (0 + 3) [(Value.string x22_)] ∧
    (((decide ((491 : Int) < (ByteArray.size x22_ : Int))) = true →
      R (.returned (Value.int .i64 (2 : Int))) hp_) ∧
     ((decide ((491 : Int) < (ByteArray.size x22_ : Int))) = false →
      R (.returned (Value.int .i64 (0 : Int))) hp_))))) :
  CallsH Tryd.prog 82 #[(Value.agg #[(Value.int .i64 ff0_), (Value.int .u64 ff1_), (Value.int .i64 ff2_), (Value.string ff3_)])] h R := calls_vc fine true Tryd.func82 (ann := A82) (args := [(Value.agg #[(Value.int .i64 ff0_), (Value.int .u64 ff1_), (Value.int .i64 ff2_), (Value.string ff3_)])]) (by kernel_rfl) (Eq.mpr (by kernel_rfl) H)
/-- turnout/frame.Seal -/
def A83 : Ann := (.seq .nil (.cut (.seq (.join 15) (.cond (.seq .nil .nil) .nil)) [] (.seq (.seq .nil (.seq .nil (.cond (.seq .nil .nil) .nil))) (.seq .nil (.seq .nil (.seq .nil (.seq .nil (.seq .nil (.seq .nil (.seq .nil (.seq .nil (.seq (.seq .nil (.block (.loop [(51, (.int .i64))] (.seq .nil (.seq (.cond .nil .nil) (.seq (.block (.seq .nil .nil)) .nil)))))) (.seq .nil (.seq .nil .nil))))))))))))))
theorem V83 (ff0_ : Int) (ff1_ : Int) (ff2_ : Int) (ff3_ : ByteArray) (mark_ : Int) (h : Hp) (R : Ending → Hp → Prop) (H :
  ∀ b_ hp_, b_ = Array.size h → hp_ = Array.push h (.cells #[(Value.int .i64 ff0_), (Value.int .u64 ff1_), (Value.int .i64 ff2_), (Value.string ff3_)] 94) →
  ∃ Jv_ : List Value → Hp → Prop,
  (∃ B_ : Bool, ((((decide (mark_ < (0 : Int))) = true →
      hp_ = hp_ ∧ B_ = true) ∧
     ((decide (mark_ < (0 : Int))) = false →
      hp_ = hp_ ∧ B_ = (decide ((255 : Int) < mark_))))) ∧
   ((B_ = true →
     R (.returned (Value.tuple #[(Value.string (⟨#[]⟩ : ByteArray)), (Value.int .i64 (1 : Int))])) hp_) ∧
    (B_ = false →
     Jv_ [] hp_))) ∧
  (∀  hp_1, Jv_ [] hp_1 →
   ∃ x16f0_ : Int, ∃ x16f1_ : Int, ∃ x16f2_ : Int, ∃ x16f3_ : ByteArray, cellsAt hp_1 b_ 0 [(Value.int .i64 x16f0_), (Value.int .u64 x16f1_), (Value.int .i64 x16f2_), (Value.string x16f3_)] ∧
   CallsH Tryd.prog 82 #[(Value.agg #[(Value.int .i64 x16f0_), (Value.int .u64 x16f1_), (Value.int .i64 x16f2_), (Value.string x16f3_)])] hp_1 fun en_ hp_2 =>
   ∃ x17_ : Int, en_ = .returned (Value.int .i64 x17_) ∧
   (((decide (x17_ ≠ (0 : Int))) = true →
     R (.returned (Value.tuple #[(Value.string (⟨#[]⟩ : ByteArray)), (Value.int .i64 x17_)])) hp_2) ∧
    ((decide (x17_ ≠ (0 : Int))) = false →
     ∀ b_1 hp_3, b_1 = Array.size hp_2 → hp_3 = Array.push hp_2 (.cells (zeros Tryd.prog 154) 154) → (∃ i z, Tryd.prog.info? 154 = some i ∧ i.zero = some z) ∧
     ∃ x22_, IntKind.u8.wrap mark_ = x22_ ∧
     0 ≤ (0 : Int) ∧ (0 : Int) < ((512 : Nat) : Int) ∧
     Value.oneCell' (Value.int .u8 x22_) = true ∧ wrAt hp_3 b_1 (0 + Int.toNat (0 : Int) * 1) 1 ∧ ∀ hp_4, hp_4 = setsH hp_3 b_1 (0 + Int.toNat (0 : Int) * 1) [(Value.int .u8 x22_)] →
     ∃ x25_ : Int, cellsAt hp_4 b_ (0 + 0) [(Value.int .i64 x25_)] ∧
     ∃ x26_, IntKind.u8.wrap x25_ = x26_ ∧
     0 ≤ (1 : Int) ∧ (1 : Int) < ((512 : Nat) : Int) ∧
     Value.oneCell' (Value.int .u8 x26_) = true ∧ wrAt hp_4 b_1 (0 + Int.toNat (1 : Int) * 1) 1 ∧ ∀ hp_5, hp_5 = setsH hp_4 b_1 (0 + Int.toNat (1 : Int) * 1) [(Value.int .u8 x26_)] →
     ∃ l_ : Nat, (2 : Int) = (l_ : Int) ∧
     ∃ u_ : Nat, (10 : Int) = (u_ : Int) ∧
     l_ ≤ u_ ∧ u_ ≤ 512 ∧ ∃ x28p_, cutP (some ⟨b_1, 0, none⟩) 512 l_ 1 = x28p_ ∧
     ∃ x30_ : Int, cellsAt hp_5 b_ (0 + 1) [(Value.int .u64 x30_)] ∧
     CallsH Tryd.prog 94 #[(Value.slice x28p_ (u_ - l_) (512 - l_)), (Value.int .u64 x30_)] hp_5 fun en_1 hp_6 =>
     en_1 = .returned (Value.tuple #[]) ∧
     ∃ l_1 : Nat, (10 : Int) = (l_1 : Int) ∧
     ∃ u_1 : Nat, (14 : Int) = (u_1 : Int) ∧
     l_1 ≤ u_1 ∧ u_1 ≤ 512 ∧ ∃ x32p_, cutP (some ⟨b_1, 0, none⟩) 512 l_1 1 = x32p_ ∧
     ∃ x34_ : Int, cellsAt hp_6 b_ (0 + 2) [(Value.int .i64 x34_)] ∧
     ∃ x35_, IntKind.u64.wrap x34_ = x35_ ∧
     CallsH Tryd.prog 94 #[(Value.slice x32p_ (u_1 - l_1) (512 - l_1)), (Value.int .u64 x35_)] hp_6 fun en_2 hp_7 =>
     en_2 = .returned (Value.tuple #[]) ∧
     ∃ l_2 : Nat, (14 : Int) = (l_2 : Int) ∧
     ∃ u_2 : Nat, (16 : Int) = (u_2 : Int) ∧
     l_2 ≤ u_2 ∧ u_2 ≤ 512 ∧ ∃ x37p_, cutP (some ⟨b_1, 0, none⟩) 512 l_2 1 = x37p_ ∧
     ∃ x39_ : ByteArray, cellsAt hp_7 b_ (0 + 3) [(Value.string x39_)] ∧
     ∃ x41_, IntKind.u64.wrap (ByteArray.size x39_ : Int) = x41_ ∧
     CallsH Tryd.prog 94 #[(Value.slice x37p_ (u_2 - l_2) (512 - l_2)), (Value.int .u64 x41_)] hp_7 fun en_3 hp_8 =>
     en_3 = .returned (Value.tuple #[]) ∧
     ∃ l_3 : Nat, (16 : Int) = (l_3 : Int) ∧
     l_3 ≤ 512 ∧ 512 ≤ 512 ∧ ∃ x43p_, cutP (some ⟨b_1, 0, none⟩) 512 l_3 1 = x43p_ ∧
     ∃ x45_ : ByteArray, cellsAt hp_8 b_ (0 + 3) [(Value.string x45_)] ∧
     SemH Tryd.prog (Builtin.copy_ #[71, 9] 3 #[(Value.slice x43p_ (512 - l_3) (512 - l_3)), (Value.string x45_)]) hp_8 fun v_ hp_9 =>
     ∃ x46_ : Int, v_ = (Value.int .i64 x46_) ∧
     ∃ l_4 : Nat, (1 : Int) = (l_4 : Int) ∧
     ∃ u_3 : Nat, (507 : Int) = (u_3 : Int) ∧
     l_4 ≤ u_3 ∧ u_3 ≤ 512 ∧ ∃ x47p_, cutP (some ⟨b_1, 0, none⟩) 512 l_4 1 = x47p_ ∧
     SemH Tryd.prog (convert 71 9 (Value.slice x47p_ (u_3 - l_4) (512 - l_4))) hp_9 fun v_1 hp_10 =>
     ∃ x48_ : ByteArray, v_1 = (Value.string x48_) ∧
     SemH Tryd.prog (Instr.buildSlice 32 1 #[(0, (Value.string x48_))]) hp_10 fun v_2 hp_11 =>
     ∃ (x49p_ : Option Addr) (x49n_ x49c_ : Nat), v_2 = (Value.slice x49p_ x49n_ x49c_) ∧
     CallsH Tryd.prog 86 #[(Value.slice x49p_ x49n_ x49c_)] hp_11 fun en_4 hp_12 =>
     ∃ x50_ : Int, en_4 = .returned (Value.int .u32 x50_) ∧
     ∃ (Iv_ : List Value → Hp → Prop) (m_ : List Value → Hp → Nat), Iv_ [(Value.int .i64 (0 : Int))] hp_12 ∧
     (∀ (x51_ : Int) hp_13, Iv_ [(Value.int .i64 x51_)] hp_13 →
      (((decide (x51_ < (4 : Int))) = true →
        ∃ x55_, IntKind.i64.wrap ((507 : Int) + x51_) = x55_ ∧
        ∃ x58_, IntKind.i64.wrap ((8 : Int) * x51_) = x58_ ∧
        0 ≤ x58_ ∧ ∃ x59_, shrI .u32 x50_ x58_ = x59_ ∧
        ∃ x60_, IntKind.u8.wrap x59_ = x60_ ∧
        0 ≤ x55_ ∧ x55_ < ((512 : Nat) : Int) ∧
        Value.oneCell' (Value.int .u8 x60_) = true ∧ wrAt hp_13 b_1 (0 + Int.toNat x55_ * 1) 1 ∧ ∀ hp_14, hp_14 = setsH hp_13 b_1 (0 + Int.toNat x55_ * 1) [(Value.int .u8 x60_)] →
        ∃ x62_, IntKind.i64.wrap (x51_ + (1 : Int)) = x62_ ∧
        (Iv_ [(Value.int .i64 x62_)] hp_14 ∧ m_ [(Value.int .i64 x62_)] hp_14 < m_ [(Value.int .i64 x51_)] hp_13)) ∧
       ((decide (x51_ < (4 : Int))) = false →
        ∃ x64_, IntKind.u8.wrap mark_ = x64_ ∧
        0 ≤ (511 : Int) ∧ (511 : Int) < ((512 : Nat) : Int) ∧
        Value.oneCell' (Value.int .u8 x64_) = true ∧ wrAt hp_13 b_1 (0 + Int.toNat (511 : Int) * 1) 1 ∧ ∀ hp_15, hp_15 = setsH hp_13 b_1 (0 + Int.toNat (511 : Int) * 1) [(Value.int .u8 x64_)] →
        0 ≤ 512 ∧ 512 ≤ 512 ∧ ∃ x66p_, cutP (some ⟨b_1, 0, none⟩) 512 0 1 = x66p_ ∧
        SemH Tryd.prog (convert 71 9 (Value.slice x66p_ (512 - 0) (512 - 0))) hp_15 fun v_3 hp_16 =>
        ∃ x67_ : ByteArray, v_3 = (Value.string x67_) ∧
        R (.returned (Value.tuple #[(Value.string x67_), (Value.int .i64 (0 : Int))])) hp_16))))))) :
  CallsH Tryd.prog 83 #[(Value.agg #[(Value.int .i64 ff0_), (Value.int .u64 ff1_), (Value.int .i64 ff2_), (Value.string ff3_)]), (Value.int .i64 mark_)] h R := calls_vc fine false Tryd.func83 (ann := A83) (args := [(Value.agg #[(Value.int .i64 ff0_), (Value.int .u64 ff1_), (Value.int .i64 ff2_), (Value.string ff3_)]), (Value.int .i64 mark_)]) (by kernel_rfl) (Eq.mpr (by kernel_rfl) H)
/-- turnout/frame.Open$1 -/
def A84n : Ann := (.seq .nil (.cond .nil .nil))
theorem V84n (a0_ : Option Addr) (a1_ : Option Addr) (a2_ : Option Addr) (u u' : FrameMode) (hx : recU u = (Value.nilIface, u')) (h : Hp) (K : FrameMode → Hp → Prop) (H :
  K u' h) :
  DefH Tryd.prog 84 #[(Value.pointer a0_), (Value.pointer a1_), (Value.pointer a2_)] u h K := calls_vcR fine Tryd.func84 (ann := A84n) (args := [(Value.pointer a0_), (Value.pointer a1_), (Value.pointer a2_)]) hx (by kernel_rfl) (Eq.mpr (by kernel_rfl) H)
def A84p : Ann := (.seq .nil (.cond .nil .nil))
theorem V84p (a0_ : Option Addr) (a1_ : Option Addr) (a2_ : Option Addr) (code_ : Int) (u u' : FrameMode) (hx : recU u = ((Value.iface 146 (Value.agg #[(Value.int .i64 code_)])), u')) (h : Hp) (K : FrameMode → Hp → Prop) (H :
  ∃ b_ o_, a0_ = some ⟨b_, o_, none⟩ ∧
  List.length [(Value.int .i64 (0 : Int)), (Value.int .u64 (0 : Int)), (Value.int .i64 (0 : Int)), (Value.string (⟨#[]⟩ : ByteArray))] = 4 ∧ (∀ c ∈ [(Value.int .i64 (0 : Int)), (Value.int .u64 (0 : Int)), (Value.int .i64 (0 : Int)), (Value.string (⟨#[]⟩ : ByteArray))], c.oneCell' = true) ∧ wrAt h b_ o_ 4 ∧ ∀ hp_, hp_ = setsH h b_ o_ [(Value.int .i64 (0 : Int)), (Value.int .u64 (0 : Int)), (Value.int .i64 (0 : Int)), (Value.string (⟨#[]⟩ : ByteArray))] →
  ∃ b_1 o_1, a1_ = some ⟨b_1, o_1, none⟩ ∧
  Value.oneCell' (Value.int .i64 (0 : Int)) = true ∧ wrAt hp_ b_1 o_1 1 ∧ ∀ hp_1, hp_1 = setsH hp_ b_1 o_1 [(Value.int .i64 (0 : Int))] →
  ∃ b_2 o_2, a2_ = some ⟨b_2, o_2, none⟩ ∧
  Value.oneCell' (Value.int .i64 code_) = true ∧ wrAt hp_1 b_2 o_2 1 ∧ ∀ hp_2, hp_2 = setsH hp_1 b_2 o_2 [(Value.int .i64 code_)] →
  K u' hp_2) :
  DefH Tryd.prog 84 #[(Value.pointer a0_), (Value.pointer a1_), (Value.pointer a2_)] u h K := calls_vcR fine Tryd.func84 (ann := A84p) (args := [(Value.pointer a0_), (Value.pointer a1_), (Value.pointer a2_)]) hx (by kernel_rfl) (Eq.mpr (by kernel_rfl) H)
/-- turnout/frame.want -/
def A85 : Ann := (.seq .nil (.cond .nil .nil))
theorem V85 (ok_ : Bool) (code_ : Int) (h : Hp) (R : Ending → Hp → Prop) (H :
  (((!ok_) = true →
    R (.panicked [{ v := (Value.iface 146 (Value.agg #[(Value.int .i64 code_)])), recovered := false }]) h) ∧
   ((!ok_) = false →
    R (.returned (Value.tuple #[])) h))) :
  CallsH Tryd.prog 85 #[(Value.bool ok_), (Value.int .i64 code_)] h R := calls_vc fine true Tryd.func85 (ann := A85) (args := [(Value.bool ok_), (Value.int .i64 code_)]) (by kernel_rfl) (Eq.mpr (by kernel_rfl) H)
/-- turnout/sums.Sum -/
def A86 : Ann := (.seq .nil (.seq .nil (.seq (.seq .nil (.block (.loop [(3, (.int .u32)), (8, (.int .i64))] (.seq .nil (.seq (.cond .nil .nil) (.seq (.block (.seq .nil .nil)) .nil)))))) (.seq .nil .nil))))
theorem V86 (partsp_ : Option Addr) (partsn_ partsc_ : Nat) (h : Hp) (R : Ending → Hp → Prop) (H :
  ∃ (Iv_ : List Value → Hp → Prop) (m_ : List Value → Hp → Nat), Iv_ [(Value.int .u32 (4294967295 : Int)), (Value.int .i64 (0 : Int))] h ∧
  (∀ (r_ : Int) (x8_ : Int) hp_, Iv_ [(Value.int .u32 r_), (Value.int .i64 x8_)] hp_ →
   (((decide (x8_ < ((partsn_ : Nat) : Int))) = true →
     ∃ b_ o_, partsp_ = some ⟨b_, o_, none⟩ ∧ 0 ≤ x8_ ∧ x8_ < (partsn_ : Int) ∧
     ∃ x11_ : ByteArray, cellsAt hp_ b_ (o_ + Int.toNat x8_ * 1) [(Value.string x11_)] ∧
     CallsH Tryd.prog 95 #[(Value.int .u32 r_), (Value.string x11_)] hp_ fun en_ hp_1 =>
     ∃ x14_ : Int, en_ = .returned (Value.int .u32 x14_) ∧
     ∃ x15_, IntKind.i64.wrap (x8_ + (1 : Int)) = x15_ ∧
     (Iv_ [(Value.int .u32 x14_), (Value.int .i64 x15_)] hp_1 ∧ m_ [(Value.int .u32 x14_), (Value.int .i64 x15_)] hp_1 < m_ [(Value.int .u32 r_), (Value.int .i64 x8_)] hp_)) ∧
    ((decide (x8_ < ((partsn_ : Nat) : Int))) = false →
     ∃ x17_, notI .u32 r_ = x17_ ∧
     R (.returned (Value.int .u32 x17_)) hp_)))) :
  CallsH Tryd.prog 86 #[(Value.slice partsp_ partsn_ partsc_)] h R := calls_vc fine false Tryd.func86 (ann := A86) (args := [(Value.slice partsp_ partsn_ partsc_)]) (by kernel_rfl) (Eq.mpr (by kernel_rfl) H)
/-- turnout/frame.said -/
def A87 : Ann := (.seq .nil (.seq .nil (.seq (.seq .nil (.block (.loop [(3, (.int .u64)), (7, (.int .i64))] (.seq .nil (.seq (.cond .nil .nil) (.seq (.block (.seq .nil .nil)) .nil)))))) (.seq .nil .nil))))
theorem V87 (s_ : ByteArray) (h : Hp) (R : Ending → Hp → Prop) (H :
  ∃ (Iv_ : List Value → Hp → Prop) (m_ : List Value → Hp → Nat), Iv_ [(Value.int .u64 (0 : Int)), (Value.int .i64 (0 : Int))] h ∧
  (∀ (n_ : Int) (x7_ : Int) hp_, Iv_ [(Value.int .u64 n_), (Value.int .i64 x7_)] hp_ →
   (((decide (x7_ < (ByteArray.size s_ : Int))) = true →
     0 ≤ (8 : Int) ∧ ∃ x11_, shlI .u64 n_ (8 : Int) = x11_ ∧
     0 ≤ x7_ ∧ ∃ x14_ : UInt8, s_[Int.toNat x7_]? = some x14_ ∧
     ∃ x15_, IntKind.u64.wrap (x14_.toNat : Int) = x15_ ∧
     ∃ x16_, orI .u64 x11_ x15_ = x16_ ∧
     ∃ x17_, IntKind.i64.wrap (x7_ + (1 : Int)) = x17_ ∧
     (Iv_ [(Value.int .u64 x16_), (Value.int .i64 x17_)] hp_ ∧ m_ [(Value.int .u64 x16_), (Value.int .i64 x17_)] hp_ < m_ [(Value.int .u64 n_), (Value.int .i64 x7_)] hp_)) ∧
    ((decide (x7_ < (ByteArray.size s_ : Int))) = false →
     R (.returned (Value.int .u64 n_)) hp_)))) :
  CallsH Tryd.prog 87 #[(Value.string s_)] h R := calls_vc fine false Tryd.func87 (ann := A87) (args := [(Value.string s_)]) (by kernel_rfl) (Eq.mpr (by kernel_rfl) H)
/-- turnout/wal.pieces$1 -/
def A88 : Ann := (.seq (.seq .nil (.cond (.seq .yld .nil) .nil)) (.block (.loop [] (.seq (.seq .nil (.cond .nil .nil)) (.block (.seq (.seq .nil (.cond (.seq .yld .nil) .nil)) (.seq .nil (.cut (.seq (.join 40) (.cond (.seq .yld .nil) .nil)) [] (.seq (.drawLast [0, 2]) (.seq .nil (.seq .nil (.seq .yld (.cond .nil .nil)))))))))))))
theorem V88 (l_ : Nat) (a1_ : Option Addr) (h : Hp) (R : Ending → Hp → Prop) (H :
  ∃ b_ o_, a1_ = some ⟨b_, o_, none⟩ ∧
  ∃ x5_ : ByteArray, cellsAt h b_ o_ [(Value.string x5_)] ∧
  (((decide (x5_ = (⟨#[]⟩ : ByteArray))) = true →
    ∃ x9_ : Value, cellsAt h 0 0 [x9_] ∧
    (Value.func (.yield l_) #[] #[]) = Value.func (.yield l_) #[] #[] ∧
    YieldH Tryd.prog l_ [(Value.agg #[(Value.int .u8 (0 : Int)), (Value.string (⟨#[]⟩ : ByteArray)), (Value.bool false)]), x9_] h fun en_ hp_ =>
    ∃ go_ : Bool, en_ = .returned (Value.bool go_) ∧
    R (.returned (Value.tuple #[])) hp_) ∧
   ((decide (x5_ = (⟨#[]⟩ : ByteArray))) = false →
    ∃ (Iv_ : List Value → Hp → Prop) (m_ : List Value → Hp → Nat), Iv_ [] h ∧
    (∀  hp_1, Iv_ [] hp_1 →
     ∃ b_1 o_1, a1_ = some ⟨b_1, o_1, none⟩ ∧
     ∃ x11_ : ByteArray, cellsAt hp_1 b_1 o_1 [(Value.string x11_)] ∧
     (((decide (x11_ ≠ (⟨#[]⟩ : ByteArray))) = true →
       ∃ b_2 o_2, a1_ = some ⟨b_2, o_2, none⟩ ∧
       ∃ x13_ : ByteArray, cellsAt hp_1 b_2 o_2 [(Value.string x13_)] ∧
       (((decide ((ByteArray.size x13_ : Int) ≤ (3 : Int))) = true →
         ∃ x18_ : Value, cellsAt hp_1 0 0 [x18_] ∧
         (Value.func (.yield l_) #[] #[]) = Value.func (.yield l_) #[] #[] ∧
         YieldH Tryd.prog l_ [(Value.agg #[(Value.int .u8 (0 : Int)), (Value.string (⟨#[]⟩ : ByteArray)), (Value.bool false)]), x18_] hp_1 fun en_1 hp_2 =>
         ∃ go_1 : Bool, en_1 = .returned (Value.bool go_1) ∧
         R (.returned (Value.tuple #[])) hp_2) ∧
        ((decide ((ByteArray.size x13_ : Int) ≤ (3 : Int))) = false →
         ∃ b_3 o_3, a1_ = some ⟨b_3, o_3, none⟩ ∧
         ∃ x20_ : ByteArray, cellsAt hp_1 b_3 o_3 [(Value.string x20_)] ∧
         0 ≤ (1 : Int) ∧ ∃ x21_ : UInt8, x20_[Int.toNat (1 : Int)]? = some x21_ ∧
         ∃ x22_, IntKind.i64.wrap (x21_.toNat : Int) = x22_ ∧
         0 ≤ (8 : Int) ∧ ∃ x23_, shlI .i64 x22_ (8 : Int) = x23_ ∧
         ∃ b_4 o_4, a1_ = some ⟨b_4, o_4, none⟩ ∧
         ∃ x24_ : ByteArray, cellsAt hp_1 b_4 o_4 [(Value.string x24_)] ∧
         0 ≤ (2 : Int) ∧ ∃ x25_ : UInt8, x24_[Int.toNat (2 : Int)]? = some x25_ ∧
         ∃ x26_, IntKind.i64.wrap (x25_.toNat : Int) = x26_ ∧
         ∃ x27_, orI .i64 x23_ x26_ = x27_ ∧
         ∃ Jv_ : List Value → Hp → Prop,
         (∃ B_ : Bool, ((((decide (x27_ = (0 : Int))) = true →
             hp_1 = hp_1 ∧ B_ = true) ∧
            ((decide (x27_ = (0 : Int))) = false →
             (((decide ((488 : Int) < x27_)) = true →
               hp_1 = hp_1 ∧ B_ = true) ∧
              ((decide ((488 : Int) < x27_)) = false →
               ∃ b_5 o_5, a1_ = some ⟨b_5, o_5, none⟩ ∧
               ∃ x36_ : ByteArray, cellsAt hp_1 b_5 o_5 [(Value.string x36_)] ∧
               ∃ x38_, IntKind.i64.wrap ((ByteArray.size x36_ : Int) - (3 : Int)) = x38_ ∧
               hp_1 = hp_1 ∧ B_ = (decide (x38_ < x27_))))))) ∧
          ((B_ = true →
            ∃ x43_ : Value, cellsAt hp_1 0 0 [x43_] ∧
            (Value.func (.yield l_) #[] #[]) = Value.func (.yield l_) #[] #[] ∧
            YieldH Tryd.prog l_ [(Value.agg #[(Value.int .u8 (0 : Int)), (Value.string (⟨#[]⟩ : ByteArray)), (Value.bool false)]), x43_] hp_1 fun en_2 hp_3 =>
            ∃ go_2 : Bool, en_2 = .returned (Value.bool go_2) ∧
            R (.returned (Value.tuple #[])) hp_3) ∧
           (B_ = false →
            Jv_ [] hp_1))) ∧
         (∀  hp_4, Jv_ [] hp_4 →
          ∃ Cv_ : Hp → Prop, Cv_ hp_4 ∧
          ∃ b_6 o_6, a1_ = some ⟨b_6, o_6, none⟩ ∧
          ∃ x45_ : ByteArray, (∀ h', Cv_ h' → cellsAt h' b_6 o_6 [(Value.string x45_)]) ∧
          0 ≤ (0 : Int) ∧ ∃ x46_ : UInt8, x45_[Int.toNat (0 : Int)]? = some x46_ ∧
          ∃ b_7 o_7, a1_ = some ⟨b_7, o_7, none⟩ ∧
          ∃ x47_ : ByteArray, (∀ h', Cv_ h' → cellsAt h' b_7 o_7 [(Value.string x47_)]) ∧
          ∃ x49_, IntKind.i64.wrap ((3 : Int) + x27_) = x49_ ∧
          ∃ l_1 : Nat, (3 : Int) = (l_1 : Int) ∧
          ∃ u_ : Nat, x49_ = (u_ : Int) ∧
          l_1 ≤ u_ ∧ u_ ≤ ByteArray.size x47_ ∧ ∃ x50_, ByteArray.extract x47_ l_1 u_ = x50_ ∧
          ∀ b_8 hp_5, b_8 = Array.size hp_4 → hp_5 = Array.push hp_4 (.cells (zeros Tryd.prog 132) 132) → (∃ i z, Tryd.prog.info? 132 = some i ∧ i.zero = some z) ∧
          Cv_ hp_5 ∧
          List.length [(Value.int .u8 (x46_.toNat : Int)), (Value.string x50_), (Value.bool false)] = 3 ∧ (∀ c ∈ [(Value.int .u8 (x46_.toNat : Int)), (Value.string x50_), (Value.bool false)], c.oneCell' = true) ∧ wrAt hp_5 b_8 0 3 ∧ ∀ hp_6, hp_6 = setsH hp_5 b_8 0 [(Value.int .u8 (x46_.toNat : Int)), (Value.string x50_), (Value.bool false)] →
          ∃ b_9 o_8, a1_ = some ⟨b_9, o_8, none⟩ ∧
          ∃ x52_ : ByteArray, cellsAt hp_6 b_9 o_8 [(Value.string x52_)] ∧
          ∃ x54_, IntKind.i64.wrap ((3 : Int) + x27_) = x54_ ∧
          ∃ l_2 : Nat, x54_ = (l_2 : Int) ∧
          l_2 ≤ (ByteArray.size x52_) ∧ (ByteArray.size x52_) ≤ ByteArray.size x52_ ∧ ∃ x55_, ByteArray.extract x52_ l_2 (ByteArray.size x52_) = x55_ ∧
          ∃ b_10 o_9, a1_ = some ⟨b_10, o_9, none⟩ ∧
          Value.oneCell' (Value.string x55_) = true ∧ wrAt hp_6 b_10 o_9 1 ∧ ∀ hp_7, hp_7 = setsH hp_6 b_10 o_9 [(Value.string x55_)] →
          ∃ b_11 o_10, a1_ = some ⟨b_11, o_10, none⟩ ∧
          ∃ x56_ : ByteArray, cellsAt hp_7 b_11 o_10 [(Value.string x56_)] ∧
          Value.oneCell' (Value.bool (decide (x56_ = (⟨#[]⟩ : ByteArray)))) = true ∧ wrAt hp_7 b_8 (0 + 2) 1 ∧ ∀ hp_8, hp_8 = setsH hp_7 b_8 (0 + 2) [(Value.bool (decide (x56_ = (⟨#[]⟩ : ByteArray))))] →
          ∃ x60f0_ : Int, ∃ x60f1_ : ByteArray, ∃ x60f2_ : Bool, cellsAt hp_8 b_8 0 [(Value.int .u8 x60f0_), (Value.string x60f1_), (Value.bool x60f2_)] ∧
          (Value.func (.yield l_) #[] #[]) = Value.func (.yield l_) #[] #[] ∧
          YieldH Tryd.prog l_ [(Value.agg #[(Value.int .u8 x60f0_), (Value.string x60f1_), (Value.bool x60f2_)]), Value.nilIface] hp_8 fun en_3 hp_9 =>
          ∃ go_3 : Bool, en_3 = .returned (Value.bool go_3) ∧
          (((!go_3) = true →
            R (.returned (Value.tuple #[])) hp_9) ∧
           ((!go_3) = false →
            (Iv_ [] hp_9 ∧ m_ [] hp_9 < m_ [] hp_1))))))) ∧
      ((decide (x11_ ≠ (⟨#[]⟩ : ByteArray))) = false →
       R (.returned (Value.tuple #[])) hp_1)))))) :
  CallsH Tryd.prog 88 #[(Value.func (.yield l_) #[] #[]), (Value.pointer a1_)] h R := calls_vcI fine false Tryd.func88 (ann := A88) (args := [(Value.func (.yield l_) #[] #[]), (Value.pointer a1_)]) (by kernel_rfl) (Eq.mpr (by kernel_rfl) H)
/-- (*turnout/turnoutref04.Disk).Size -/
def A89 : Ann := (.seq .nil (.seq .nil .nil))
theorem V89 (d_ : Option Addr) (h : Hp) (R : Ending → Hp → Prop) (H :
  ∃ b_ o_, d_ = some ⟨b_, o_, none⟩ ∧
  ∃ (x6p_ : Option Addr) (x6n_ x6c_ : Nat), cellsAt h b_ (o_ + 0) [(Value.slice x6p_ x6n_ x6c_)] ∧
  R (.returned (Value.int .i64 ((x6n_ : Nat) : Int))) h) :
  CallsH Tryd.prog 89 #[(Value.pointer d_)] h R := calls_vc fine false Tryd.func89 (ann := A89) (args := [(Value.pointer d_)]) (by kernel_rfl) (Eq.mpr (by kernel_rfl) H)
/-- (*turnout/turnoutref04.Disk).Read -/
def A90 : Ann := (.seq .nil (.seq (.seq .nil (.cond (.seq .nil .nil) .nil)) (.cut (.seq (.join 20) (.cond (.seq .nil .nil) .nil)) [] (.seq .nil (.seq .nil .nil)))))
theorem V90 (d_ : Option Addr) (n_ : Int) (h : Hp) (R : Ending → Hp → Prop) (H :
  ∃ b_ o_, d_ = some ⟨b_, o_, none⟩ ∧
  ∃ x9_ : Bool, cellsAt h b_ (o_ + 2) [(Value.bool x9_)] ∧
  ((x9_ = true →
    R (.returned (Value.tuple #[(Value.string (⟨#[]⟩ : ByteArray)), (Value.int .i64 (40 : Int))])) h) ∧
   (x9_ = false →
    ∃ Jv_ : List Value → Hp → Prop,
    (∃ B_ : Bool, ((((decide (n_ < (0 : Int))) = true →
        h = h ∧ B_ = true) ∧
       ((decide (n_ < (0 : Int))) = false →
        ∃ b_1 o_1, d_ = some ⟨b_1, o_1, none⟩ ∧
        ∃ (x17p_ : Option Addr) (x17n_ x17c_ : Nat), cellsAt h b_1 (o_1 + 0) [(Value.slice x17p_ x17n_ x17c_)] ∧
        h = h ∧ B_ = (decide (((x17n_ : Nat) : Int) ≤ n_))))) ∧
     ((B_ = true →
       R (.returned (Value.tuple #[(Value.string (⟨#[]⟩ : ByteArray)), (Value.int .i64 (41 : Int))])) h) ∧
      (B_ = false →
       Jv_ [] h))) ∧
    (∀  hp_, Jv_ [] hp_ →
     ∃ b_2 o_2, d_ = some ⟨b_2, o_2, none⟩ ∧
     ∃ x25_ : Int, cellsAt hp_ b_2 ((o_2 + 4) + 0) [(Value.int .i64 x25_)] ∧
     ∃ x26_, IntKind.i64.wrap (x25_ + (1 : Int)) = x26_ ∧
     ∃ b_3 o_3, d_ = some ⟨b_3, o_3, none⟩ ∧
     Value.oneCell' (Value.int .i64 x26_) = true ∧ wrAt hp_ b_3 ((o_3 + 4) + 0) 1 ∧ ∀ hp_1, hp_1 = setsH hp_ b_3 ((o_3 + 4) + 0) [(Value.int .i64 x26_)] →
     CallsH Tryd.prog 96 #[(Value.pointer d_), (Value.int .i64 n_)] hp_1 fun en_ hp_2 =>
     ∃ x32_ : ByteArray, en_ = .returned (Value.string x32_) ∧
     R (.returned (Value.tuple #[(Value.string x32_), (Value.int .i64 (0 : Int))])) hp_2)))) :
  CallsH Tryd.prog 90 #[(Value.pointer d_), (Value.int .i64 n_)] h R := calls_vc fine false Tryd.func90 (ann := A90) (args := [(Value.pointer d_), (Value.int .i64 n_)]) (by kernel_rfl) (Eq.mpr (by kernel_rfl) H)
/-- turnout/turnoutref05.Open -/
def A91 : Ann := (.seq .nil (.seq (.seq .nil (.cond (.seq .nil .nil) .nil)) (.seq (.seq .nil (.cond (.seq .nil .nil) .nil)) (.seq (.seq .nil (.cond (.seq .nil .nil) .nil)) (.seq .nil (.cut (.seq .nil (.cond (.seq .nil .nil) .nil)) [] (.seq (.seq .nil (.block (.loop [(6, (.int .i64))] (.seq (.seq .nil (.cond .nil .nil)) (.seq (.block (.seq .nil (.cond (.seq .nil .nil) .nil))) .nil))))) (.seq .nil .nil))))))))
theorem V91 (s_ : ByteArray) (h : Hp) (R : Ending → Hp → Prop) (H :
  ∀ b_ hp_, b_ = Array.size h → hp_ = Array.push h (.cells (zeros Tryd.prog 94) 94) → (∃ i z, Tryd.prog.info? 94 = some i ∧ i.zero = some z) ∧
  (((decide ((ByteArray.size s_ : Int) ≠ (512 : Int))) = true →
    List.length [(Value.int .i64 (0 : Int)), (Value.int .u64 (0 : Int)), (Value.int .i64 (0 : Int)), (Value.string (⟨#[]⟩ : ByteArray))] = 4 ∧ (∀ c ∈ [(Value.int .i64 (0 : Int)), (Value.int .u64 (0 : Int)), (Value.int .i64 (0 : Int)), (Value.string (⟨#[]⟩ : ByteArray))], c.oneCell' = true) ∧ wrAt hp_ b_ 0 4 ∧ ∀ hp_1, hp_1 = setsH hp_ b_ 0 [(Value.int .i64 (0 : Int)), (Value.int .u64 (0 : Int)), (Value.int .i64 (0 : Int)), (Value.string (⟨#[]⟩ : ByteArray))] →
    ∃ resf0_ : Int, ∃ resf1_ : Int, ∃ resf2_ : Int, ∃ resf3_ : ByteArray, cellsAt hp_1 b_ 0 [(Value.int .i64 resf0_), (Value.int .u64 resf1_), (Value.int .i64 resf2_), (Value.string resf3_)] ∧
    R (.returned (Value.tuple #[(Value.agg #[(Value.int .i64 resf0_), (Value.int .u64 resf1_), (Value.int .i64 resf2_), (Value.string resf3_)]), (Value.int .i64 (0 : Int)), (Value.int .i64 (42 : Int))])) hp_1) ∧
   ((decide ((ByteArray.size s_ : Int) ≠ (512 : Int))) = false →
    0 ≤ (0 : Int) ∧ ∃ x12_ : UInt8, s_[Int.toNat (0 : Int)]? = some x12_ ∧
    0 ≤ (511 : Int) ∧ ∃ x14_ : UInt8, s_[Int.toNat (511 : Int)]? = some x14_ ∧
    (((decide ((x12_.toNat : Int) ≠ (x14_.toNat : Int))) = true →
      List.length [(Value.int .i64 (0 : Int)), (Value.int .u64 (0 : Int)), (Value.int .i64 (0 : Int)), (Value.string (⟨#[]⟩ : ByteArray))] = 4 ∧ (∀ c ∈ [(Value.int .i64 (0 : Int)), (Value.int .u64 (0 : Int)), (Value.int .i64 (0 : Int)), (Value.string (⟨#[]⟩ : ByteArray))], c.oneCell' = true) ∧ wrAt hp_ b_ 0 4 ∧ ∀ hp_2, hp_2 = setsH hp_ b_ 0 [(Value.int .i64 (0 : Int)), (Value.int .u64 (0 : Int)), (Value.int .i64 (0 : Int)), (Value.string (⟨#[]⟩ : ByteArray))] →
      ∃ resf0_1 : Int, ∃ resf1_1 : Int, ∃ resf2_1 : Int, ∃ resf3_1 : ByteArray, cellsAt hp_2 b_ 0 [(Value.int .i64 resf0_1), (Value.int .u64 resf1_1), (Value.int .i64 resf2_1), (Value.string resf3_1)] ∧
      R (.returned (Value.tuple #[(Value.agg #[(Value.int .i64 resf0_1), (Value.int .u64 resf1_1), (Value.int .i64 resf2_1), (Value.string resf3_1)]), (Value.int .i64 (0 : Int)), (Value.int .i64 (50 : Int))])) hp_2) ∧
     ((decide ((x12_.toNat : Int) ≠ (x14_.toNat : Int))) = false →
      ∃ l_ : Nat, (507 : Int) = (l_ : Int) ∧
      ∃ u_ : Nat, (511 : Int) = (u_ : Int) ∧
      l_ ≤ u_ ∧ u_ ≤ ByteArray.size s_ ∧ ∃ x18_, ByteArray.extract s_ l_ u_ = x18_ ∧
      ∃ l_1 : Nat, (1 : Int) = (l_1 : Int) ∧
      ∃ u_1 : Nat, (507 : Int) = (u_1 : Int) ∧
      l_1 ≤ u_1 ∧ u_1 ≤ ByteArray.size s_ ∧ ∃ x20_, ByteArray.extract s_ l_1 u_1 = x20_ ∧
      CallsH Tryd.prog 97 #[(Value.string x20_)] hp_ fun en_ hp_3 =>
      ∃ x21_ : ByteArray, en_ = .returned (Value.string x21_) ∧
      (((decide (x18_ ≠ x21_)) = true →
        List.length [(Value.int .i64 (0 : Int)), (Value.int .u64 (0 : Int)), (Value.int .i64 (0 : Int)), (Value.string (⟨#[]⟩ : ByteArray))] = 4 ∧ (∀ c ∈ [(Value.int .i64 (0 : Int)), (Value.int .u64 (0 : Int)), (Value.int .i64 (0 : Int)), (Value.string (⟨#[]⟩ : ByteArray))], c.oneCell' = true) ∧ wrAt hp_3 b_ 0 4 ∧ ∀ hp_4, hp_4 = setsH hp_3 b_ 0 [(Value.int .i64 (0 : Int)), (Value.int .u64 (0 : Int)), (Value.int .i64 (0 : Int)), (Value.string (⟨#[]⟩ : ByteArray))] →
        ∃ resf0_2 : Int, ∃ resf1_2 : Int, ∃ resf2_2 : Int, ∃ resf3_2 : ByteArray, cellsAt hp_4 b_ 0 [(Value.int .i64 resf0_2), (Value.int .u64 resf1_2), (Value.int .i64 resf2_2), (Value.string resf3_2)] ∧
        R (.returned (Value.tuple #[(Value.agg #[(Value.int .i64 resf0_2), (Value.int .u64 resf1_2), (Value.int .i64 resf2_2), (Value.string resf3_2)]), (Value.int .i64 (0 : Int)), (Value.int .i64 (51 : Int))])) hp_4) ∧
       ((decide (x18_ ≠ x21_)) = false →
        ∃ l_2 : Nat, (14 : Int) = (l_2 : Int) ∧
        ∃ u_2 : Nat, (16 : Int) = (u_2 : Int) ∧
        l_2 ≤ u_2 ∧ u_2 ≤ ByteArray.size s_ ∧ ∃ x25_, ByteArray.extract s_ l_2 u_2 = x25_ ∧
        CallsH Tryd.prog 98 #[(Value.string x25_)] hp_3 fun en_1 hp_5 =>
        ∃ x26_ : Int, en_1 = .returned (Value.int .u64 x26_) ∧
        ∃ x27_, IntKind.i64.wrap x26_ = x27_ ∧
        ∃ Jv_ : List Value → Hp → Prop,
        (0 ≤ (1 : Int) ∧ ∃ x29_ : UInt8, s_[Int.toNat (1 : Int)]? = some x29_ ∧
         (((decide ((x29_.toNat : Int) = (0 : Int))) = true →
           List.length [(Value.int .i64 (0 : Int)), (Value.int .u64 (0 : Int)), (Value.int .i64 (0 : Int)), (Value.string (⟨#[]⟩ : ByteArray))] = 4 ∧ (∀ c ∈ [(Value.int .i64 (0 : Int)), (Value.int .u64 (0 : Int)), (Value.int .i64 (0 : Int)), (Value.string (⟨#[]⟩ : ByteArray))], c.oneCell' = true) ∧ wrAt hp_5 b_ 0 4 ∧ ∀ hp_6, hp_6 = setsH hp_5 b_ 0 [(Value.int .i64 (0 : Int)), (Value.int .u64 (0 : Int)), (Value.int .i64 (0 : Int)), (Value.string (⟨#[]⟩ : ByteArray))] →
           ∃ resf0_3 : Int, ∃ resf1_3 : Int, ∃ resf2_3 : Int, ∃ resf3_3 : ByteArray, cellsAt hp_6 b_ 0 [(Value.int .i64 resf0_3), (Value.int .u64 resf1_3), (Value.int .i64 resf2_3), (Value.string resf3_3)] ∧
           R (.returned (Value.tuple #[(Value.agg #[(Value.int .i64 resf0_3), (Value.int .u64 resf1_3), (Value.int .i64 resf2_3), (Value.string resf3_3)]), (Value.int .i64 (0 : Int)), (Value.int .i64 (52 : Int))])) hp_6) ∧
          ((decide ((x29_.toNat : Int) = (0 : Int))) = false →
           ∃ l_3 : Nat, (10 : Int) = (l_3 : Int) ∧
           ∃ u_3 : Nat, (14 : Int) = (u_3 : Int) ∧
           l_3 ≤ u_3 ∧ u_3 ≤ ByteArray.size s_ ∧ ∃ x33_, ByteArray.extract s_ l_3 u_3 = x33_ ∧
           CallsH Tryd.prog 98 #[(Value.string x33_)] hp_5 fun en_2 hp_7 =>
           ∃ x34_ : Int, en_2 = .returned (Value.int .u64 x34_) ∧
           (((decide ((2147483647 : Int) < x34_)) = true →
             List.length [(Value.int .i64 (0 : Int)), (Value.int .u64 (0 : Int)), (Value.int .i64 (0 : Int)), (Value.string (⟨#[]⟩ : ByteArray))] = 4 ∧ (∀ c ∈ [(Value.int .i64 (0 : Int)), (Value.int .u64 (0 : Int)), (Value.int .i64 (0 : Int)), (Value.string (⟨#[]⟩ : ByteArray))], c.oneCell' = true) ∧ wrAt hp_7 b_ 0 4 ∧ ∀ hp_8, hp_8 = setsH hp_7 b_ 0 [(Value.int .i64 (0 : Int)), (Value.int .u64 (0 : Int)), (Value.int .i64 (0 : Int)), (Value.string (⟨#[]⟩ : ByteArray))] →
             ∃ resf0_4 : Int, ∃ resf1_4 : Int, ∃ resf2_4 : Int, ∃ resf3_4 : ByteArray, cellsAt hp_8 b_ 0 [(Value.int .i64 resf0_4), (Value.int .u64 resf1_4), (Value.int .i64 resf2_4), (Value.string resf3_4)] ∧
             R (.returned (Value.tuple #[(Value.agg #[(Value.int .i64 resf0_4), (Value.int .u64 resf1_4), (Value.int .i64 resf2_4), (Value.string resf3_4)]), (Value.int .i64 (0 : Int)), (Value.int .i64 (52 : Int))])) hp_8) ∧
            ((decide ((2147483647 : Int) < x34_)) = false →
             (((decide ((491 : Int) < x27_)) = true →
               List.length [(Value.int .i64 (0 : Int)), (Value.int .u64 (0 : Int)), (Value.int .i64 (0 : Int)), (Value.string (⟨#[]⟩ : ByteArray))] = 4 ∧ (∀ c ∈ [(Value.int .i64 (0 : Int)), (Value.int .u64 (0 : Int)), (Value.int .i64 (0 : Int)), (Value.string (⟨#[]⟩ : ByteArray))], c.oneCell' = true) ∧ wrAt hp_7 b_ 0 4 ∧ ∀ hp_9, hp_9 = setsH hp_7 b_ 0 [(Value.int .i64 (0 : Int)), (Value.int .u64 (0 : Int)), (Value.int .i64 (0 : Int)), (Value.string (⟨#[]⟩ : ByteArray))] →
               ∃ resf0_5 : Int, ∃ resf1_5 : Int, ∃ resf2_5 : Int, ∃ resf3_5 : ByteArray, cellsAt hp_9 b_ 0 [(Value.int .i64 resf0_5), (Value.int .u64 resf1_5), (Value.int .i64 resf2_5), (Value.string resf3_5)] ∧
               R (.returned (Value.tuple #[(Value.agg #[(Value.int .i64 resf0_5), (Value.int .u64 resf1_5), (Value.int .i64 resf2_5), (Value.string resf3_5)]), (Value.int .i64 (0 : Int)), (Value.int .i64 (52 : Int))])) hp_9) ∧
              ((decide ((491 : Int) < x27_)) = false →
               Jv_ [] hp_7))))))) ∧
        (∀  hp_10, Jv_ [] hp_10 →
         ∃ x43_, IntKind.i64.wrap ((16 : Int) + x27_) = x43_ ∧
         ∃ (Iv_ : List Value → Hp → Prop) (m_ : List Value → Hp → Nat), Iv_ [(Value.int .i64 x43_)] hp_10 ∧
         (∀ (i_ : Int) hp_11, Iv_ [(Value.int .i64 i_)] hp_11 →
          (((decide (i_ < (507 : Int))) = true →
            0 ≤ i_ ∧ ∃ x50_ : UInt8, s_[Int.toNat i_]? = some x50_ ∧
            (((decide ((x50_.toNat : Int) ≠ (0 : Int))) = true →
              List.length [(Value.int .i64 (0 : Int)), (Value.int .u64 (0 : Int)), (Value.int .i64 (0 : Int)), (Value.string (⟨#[]⟩ : ByteArray))] = 4 ∧ (∀ c ∈ [(Value.int .i64 (0 : Int)), (Value.int .u64 (0 : Int)), (Value.int .i64 (0 : Int)), (Value.string (⟨#[]⟩ : ByteArray))], c.oneCell' = true) ∧ wrAt hp_11 b_ 0 4 ∧ ∀ hp_12, hp_12 = setsH hp_11 b_ 0 [(Value.int .i64 (0 : Int)), (Value.int .u64 (0 : Int)), (Value.int .i64 (0 : Int)), (Value.string (⟨#[]⟩ : ByteArray))] →
              ∃ resf0_6 : Int, ∃ resf1_6 : Int, ∃ resf2_6 : Int, ∃ resf3_6 : ByteArray, cellsAt hp_12 b_ 0 [(Value.int .i64 resf0_6), (Value.int .u64 resf1_6), (Value.int .i64 resf2_6), (Value.string resf3_6)] ∧
              R (.returned (Value.tuple #[(Value.agg #[(Value.int .i64 resf0_6), (Value.int .u64 resf1_6), (Value.int .i64 resf2_6), (Value.string resf3_6)]), (Value.int .i64 (0 : Int)), (Value.int .i64 (52 : Int))])) hp_12) ∧
             ((decide ((x50_.toNat : Int) ≠ (0 : Int))) = false →
              ∃ x47_, IntKind.i64.wrap (i_ + (1 : Int)) = x47_ ∧
              (Iv_ [(Value.int .i64 x47_)] hp_11 ∧ m_ [(Value.int .i64 x47_)] hp_11 < m_ [(Value.int .i64 i_)] hp_11)))) ∧
           ((decide (i_ < (507 : Int))) = false →
            0 ≤ (1 : Int) ∧ ∃ x54_ : UInt8, s_[Int.toNat (1 : Int)]? = some x54_ ∧
            ∃ x55_, IntKind.i64.wrap (x54_.toNat : Int) = x55_ ∧
            ∃ l_4 : Nat, (2 : Int) = (l_4 : Int) ∧
            ∃ u_4 : Nat, (10 : Int) = (u_4 : Int) ∧
            l_4 ≤ u_4 ∧ u_4 ≤ ByteArray.size s_ ∧ ∃ x57_, ByteArray.extract s_ l_4 u_4 = x57_ ∧
            CallsH Tryd.prog 98 #[(Value.string x57_)] hp_11 fun en_3 hp_13 =>
            ∃ x58_ : Int, en_3 = .returned (Value.int .u64 x58_) ∧
            ∃ l_5 : Nat, (10 : Int) = (l_5 : Int) ∧
            ∃ u_5 : Nat, (14 : Int) = (u_5 : Int) ∧
            l_5 ≤ u_5 ∧ u_5 ≤ ByteArray.size s_ ∧ ∃ x60_, ByteArray.extract s_ l_5 u_5 = x60_ ∧
            CallsH Tryd.prog 98 #[(Value.string x60_)] hp_13 fun en_4 hp_14 =>
            ∃ x61_ : Int, en_4 = .returned (Value.int .u64 x61_) ∧
            ∃ x62_, IntKind.i64.wrap x61_ = x62_ ∧
            ∃ x65_, IntKind.i64.wrap ((16 : Int) + x27_) = x65_ ∧
            ∃ l_6 : Nat, (16 : Int) = (l_6 : Int) ∧
            ∃ u_6 : Nat, x65_ = (u_6 : Int) ∧
            l_6 ≤ u_6 ∧ u_6 ≤ ByteArray.size s_ ∧ ∃ x66_, ByteArray.extract s_ l_6 u_6 = x66_ ∧
            0 ≤ (0 : Int) ∧ ∃ x69_ : UInt8, s_[Int.toNat (0 : Int)]? = some x69_ ∧
            ∃ x70_, IntKind.i64.wrap (x69_.toNat : Int) = x70_ ∧
            List.length [(Value.int .i64 x55_), (Value.int .u64 x58_), (Value.int .i64 x62_), (Value.string x66_)] = 4 ∧ (∀ c ∈ [(Value.int .i64 x55_), (Value.int .u64 x58_), (Value.int .i64 x62_), (Value.string x66_)], c.oneCell' = true) ∧ wrAt hp_14 b_ 0 4 ∧ ∀ hp_15, hp_15 = setsH hp_14 b_ 0 [(Value.int .i64 x55_), (Value.int .u64 x58_), (Value.int .i64 x62_), (Value.string x66_)] →
            ∃ resf0_7 : Int, ∃ resf1_7 : Int, ∃ resf2_7 : Int, ∃ resf3_7 : ByteArray, cellsAt hp_15 b_ 0 [(Value.int .i64 resf0_7), (Value.int .u64 resf1_7), (Value.int .i64 resf2_7), (Value.string resf3_7)] ∧
            R (.returned (Value.tuple #[(Value.agg #[(Value.int .i64 resf0_7), (Value.int .u64 resf1_7), (Value.int .i64 resf2_7), (Value.string resf3_7)]), (Value.int .i64 x70_), (Value.int .i64 (0 : Int))])) hp_15))))))))))) :
  CallsH Tryd.prog 91 #[(Value.string s_)] h R := calls_vc fine false Tryd.func91 (ann := A91) (args := [(Value.string s_)]) (by kernel_rfl) (Eq.mpr (by kernel_rfl) H)
/-- turnout/turnoutref19.Piece -/
def A92 : Ann := (.seq .nil (.seq .nil .nil))
theorem V92 (which_ : Int) (s_ : ByteArray) (h : Hp) (R : Ending → Hp → Prop) (H :
  ∃ x6_, IntKind.u8.wrap which_ = x6_ ∧
  (256 : Int) ≠ 0 ∧ ∃ x9_, IntKind.i64.wrap (Int.tdiv (ByteArray.size s_ : Int) (256 : Int)) = x9_ ∧
  ∃ x10_, IntKind.u8.wrap x9_ = x10_ ∧
  (256 : Int) ≠ 0 ∧ ∃ x13_, Int.tmod (ByteArray.size s_ : Int) (256 : Int) = x13_ ∧
  ∃ x14_, IntKind.u8.wrap x13_ = x14_ ∧
  SemH Tryd.prog (Instr.buildSlice 71 3 #[(0, (Value.int .u8 x6_)), (1, (Value.int .u8 x10_)), (2, (Value.int .u8 x14_))]) h fun v_ hp_ =>
  ∃ (x15p_ : Option Addr) (x15n_ x15c_ : Nat), v_ = (Value.slice x15p_ x15n_ x15c_) ∧
  SemH Tryd.prog (convert 71 9 (Value.slice x15p_ x15n_ x15c_)) hp_ fun v_1 hp_1 =>
  ∃ x16_ : ByteArray, v_1 = (Value.string x16_) ∧
  ByteArray.size x16_ + ByteArray.size s_ ≤ 9223372036854775807 ∧ ∃ x18_, x16_ ++ s_ = x18_ ∧
  R (.returned (Value.string x18_)) hp_1) :
  CallsH Tryd.prog 92 #[(Value.int .i64 which_), (Value.string s_)] h R := calls_vc fine false Tryd.func92 (ann := A92) (args := [(Value.int .i64 which_), (Value.string s_)]) (by kernel_rfl) (Eq.mpr (by kernel_rfl) H)
/-- turnout/turnoutref05.Put -/
def A93 : Ann := (.seq .nil (.seq .nil (.seq (.seq .nil (.cond (.seq .nil .nil) .nil)) (.seq .nil (.seq (.seq .nil (.cond (.seq .nil .nil) .nil)) (.seq .nil (.seq .nil .nil)))))))
theorem V93 (d_ : Option Addr) (atv_ : Int) (ff0_ : Int) (ff1_ : Int) (ff2_ : Int) (ff3_ : ByteArray) (h : Hp) (R : Ending → Hp → Prop) (H :
  ∀ b_ hp_, b_ = Array.size h → hp_ = Array.push h (.cells #[(Value.int .i64 ff0_), (Value.int .u64 ff1_), (Value.int .i64 ff2_), (Value.string ff3_)] 94) →
  ∃ x11f0_ : Int, ∃ x11f1_ : Int, ∃ x11f2_ : Int, ∃ x11f3_ : ByteArray, cellsAt hp_ b_ 0 [(Value.int .i64 x11f0_), (Value.int .u64 x11f1_), (Value.int .i64 x11f2_), (Value.string x11f3_)] ∧
  CallsH Tryd.prog 99 #[(Value.agg #[(Value.int .i64 x11f0_), (Value.int .u64 x11f1_), (Value.int .i64 x11f2_), (Value.string x11f3_)])] hp_ fun en_ hp_1 =>
  ∃ x12_ : Int, en_ = .returned (Value.int .i64 x12_) ∧
  (((decide (x12_ ≠ (0 : Int))) = true →
    R (.returned (Value.int .i64 x12_)) hp_1) ∧
   ((decide (x12_ ≠ (0 : Int))) = false →
    CallsH Tryd.prog 90 #[(Value.pointer d_), (Value.int .i64 atv_)] hp_1 fun en_1 hp_2 =>
    ∃ x19r0_ : ByteArray, ∃ x19r1_ : Int, en_1 = .returned (Value.tuple #[(Value.string x19r0_), (Value.int .i64 x19r1_)]) ∧
    (((decide (x19r1_ ≠ (0 : Int))) = true →
      R (.returned (Value.int .i64 x19r1_)) hp_2) ∧
     ((decide (x19r1_ ≠ (0 : Int))) = false →
      ∃ x26f0_ : Int, ∃ x26f1_ : Int, ∃ x26f2_ : Int, ∃ x26f3_ : ByteArray, cellsAt hp_2 b_ 0 [(Value.int .i64 x26f0_), (Value.int .u64 x26f1_), (Value.int .i64 x26f2_), (Value.string x26f3_)] ∧
      0 ≤ (511 : Int) ∧ ∃ x28_ : UInt8, x19r0_[Int.toNat (511 : Int)]? = some x28_ ∧
      ∃ x29_, IntKind.i64.wrap (x28_.toNat : Int) = x29_ ∧
      ∃ x30_, IntKind.i64.wrap (x29_ + (1 : Int)) = x30_ ∧
      (256 : Int) ≠ 0 ∧ ∃ x31_, Int.tmod x30_ (256 : Int) = x31_ ∧
      CallsH Tryd.prog 100 #[(Value.agg #[(Value.int .i64 x26f0_), (Value.int .u64 x26f1_), (Value.int .i64 x26f2_), (Value.string x26f3_)]), (Value.int .i64 x31_)] hp_2 fun en_2 hp_3 =>
      ∃ x32r0_ : ByteArray, ∃ x32r1_ : Int, en_2 = .returned (Value.tuple #[(Value.string x32r0_), (Value.int .i64 x32r1_)]) ∧
      CallsH Tryd.prog 57 #[(Value.pointer d_), (Value.int .i64 atv_), (Value.string x32r0_)] hp_3 fun en_3 hp_4 =>
      ∃ x38_ : Int, en_3 = .returned (Value.int .i64 x38_) ∧
      R (.returned (Value.int .i64 x38_)) hp_4))))) :
  CallsH Tryd.prog 93 #[(Value.pointer d_), (Value.int .i64 atv_), (Value.agg #[(Value.int .i64 ff0_), (Value.int .u64 ff1_), (Value.int .i64 ff2_), (Value.string ff3_)])] h R := calls_vc fine false Tryd.func93 (ann := A93) (args := [(Value.pointer d_), (Value.int .i64 atv_), (Value.agg #[(Value.int .i64 ff0_), (Value.int .u64 ff1_), (Value.int .i64 ff2_), (Value.string ff3_)])]) (by kernel_rfl) (Eq.mpr (by kernel_rfl) H)
/-- turnout/frame.lay -/
def A94 : Ann := (.seq .nil (.block (.loop [(1, (.int .u64)), (4, (.int .i64))] (.seq (.seq .nil (.cond .nil .nil)) (.seq (.block (.seq .nil .nil)) .nil)))))
theorem V94 (bp_ : Option Addr) (bn_ bc_ : Nat) (n_ : Int) (h : Hp) (R : Ending → Hp → Prop) (H :
  ∃ x7_, IntKind.i64.wrap (((bn_ : Nat) : Int) - (1 : Int)) = x7_ ∧
  ∃ (Iv_ : List Value → Hp → Prop) (m_ : List Value → Hp → Nat), Iv_ [(Value.int .u64 n_), (Value.int .i64 x7_)] h ∧
  (∀ (n_1 : Int) (i_ : Int) hp_, Iv_ [(Value.int .u64 n_1), (Value.int .i64 i_)] hp_ →
   (((decide ((0 : Int) ≤ i_)) = true →
     ∃ x15_, IntKind.u8.wrap n_1 = x15_ ∧
     ∃ b_ o_, bp_ = some ⟨b_, o_, none⟩ ∧ 0 ≤ i_ ∧ i_ < (bn_ : Int) ∧
     Value.oneCell' (Value.int .u8 x15_) = true ∧ wrAt hp_ b_ (o_ + Int.toNat i_ * 1) 1 ∧ ∀ hp_1, hp_1 = setsH hp_ b_ (o_ + Int.toNat i_ * 1) [(Value.int .u8 x15_)] →
     0 ≤ (8 : Int) ∧ ∃ x18_, shrI .u64 n_1 (8 : Int) = x18_ ∧
     ∃ x11_, IntKind.i64.wrap (i_ - (1 : Int)) = x11_ ∧
     (Iv_ [(Value.int .u64 x18_), (Value.int .i64 x11_)] hp_1 ∧ m_ [(Value.int .u64 x18_), (Value.int .i64 x11_)] hp_1 < m_ [(Value.int .u64 n_1), (Value.int .i64 i_)] hp_)) ∧
    ((decide ((0 : Int) ≤ i_)) = false →
     R (.returned (Value.tuple #[])) hp_)))) :
  CallsH Tryd.prog 94 #[(Value.slice bp_ bn_ bc_), (Value.int .u64 n_)] h R := calls_vc fine false Tryd.func94 (ann := A94) (args := [(Value.slice bp_ bn_ bc_), (Value.int .u64 n_)]) (by kernel_rfl) (Eq.mpr (by kernel_rfl) H)
/-- turnout/sums.takes -/
def A95 : Ann := (.seq .nil (.seq (.seq .nil (.block (.loop [(0, (.int .u32)), (8, (.int .i64))] (.seq .nil (.seq (.cond .nil .nil) (.seq (.block (.seq .nil (.seq .nil (.seq .nil .nil)))) .nil)))))) (.seq .nil .nil)))
theorem V95 (r_ : Int) (b_ : ByteArray) (h : Hp) (R : Ending → Hp → Prop) (H :
  ∃ (Iv_ : List Value → Hp → Prop) (m_ : List Value → Hp → Nat), Iv_ [(Value.int .u32 r_), (Value.int .i64 (0 : Int))] h ∧
  (∀ (r_1 : Int) (x8_ : Int) hp_, Iv_ [(Value.int .u32 r_1), (Value.int .i64 x8_)] hp_ →
   (((decide (x8_ < (ByteArray.size b_ : Int))) = true →
     0 ≤ x8_ ∧ ∃ x14_ : UInt8, b_[Int.toNat x8_]? = some x14_ ∧
     ∃ x15_, IntKind.u32.wrap (x14_.toNat : Int) = x15_ ∧
     ∃ x16_, xorI .u32 r_1 x15_ = x16_ ∧
     0 ≤ (4 : Int) ∧ ∃ x18_, shrI .u32 x16_ (4 : Int) = x18_ ∧
     ∃ x20_, andI .u32 x16_ (15 : Int) = x20_ ∧
     0 ≤ x20_ ∧ x20_ < ((16 : Nat) : Int) ∧
     ∃ x22_ : Int, cellsAt hp_ 2 (0 + Int.toNat x20_ * 1) [(Value.int .u32 x22_)] ∧
     ∃ x23_, xorI .u32 x18_ x22_ = x23_ ∧
     0 ≤ (4 : Int) ∧ ∃ x25_, shrI .u32 x23_ (4 : Int) = x25_ ∧
     ∃ x27_, andI .u32 x23_ (15 : Int) = x27_ ∧
     0 ≤ x27_ ∧ x27_ < ((16 : Nat) : Int) ∧
     ∃ x29_ : Int, cellsAt hp_ 2 (0 + Int.toNat x27_ * 1) [(Value.int .u32 x29_)] ∧
     ∃ x30_, xorI .u32 x25_ x29_ = x30_ ∧
     ∃ x31_, IntKind.i64.wrap (x8_ + (1 : Int)) = x31_ ∧
     (Iv_ [(Value.int .u32 x30_), (Value.int .i64 x31_)] hp_ ∧ m_ [(Value.int .u32 x30_), (Value.int .i64 x31_)] hp_ < m_ [(Value.int .u32 r_1), (Value.int .i64 x8_)] hp_)) ∧
    ((decide (x8_ < (ByteArray.size b_ : Int))) = false →
     R (.returned (Value.int .u32 r_1)) hp_)))) :
  CallsH Tryd.prog 95 #[(Value.int .u32 r_), (Value.string b_)] h R := calls_vc fine false Tryd.func95 (ann := A95) (args := [(Value.int .u32 r_), (Value.string b_)]) (by kernel_rfl) (Eq.mpr (by kernel_rfl) H)
/-- (*turnout/turnoutref04.Disk).Look -/
def A96 : Ann := (.seq .nil (.seq (.seq .nil (.block (.loop [(5, (.int .i64))] (.seq (.seq .nil (.cond .nil .nil)) (.seq (.block (.seq .nil (.cond (.seq .nil .nil) .nil))) .nil))))) (.seq .nil .nil)))
theorem V96 (d_ : Option Addr) (n_ : Int) (h : Hp) (R : Ending → Hp → Prop) (H :
  ∃ b_ o_, d_ = some ⟨b_, o_, none⟩ ∧
  ∃ (x9p_ : Option Addr) (x9n_ x9c_ : Nat), cellsAt h b_ (o_ + 1) [(Value.slice x9p_ x9n_ x9c_)] ∧
  ∃ x11_, IntKind.i64.wrap (((x9n_ : Nat) : Int) - (1 : Int)) = x11_ ∧
  ∃ (Iv_ : List Value → Hp → Prop) (m_ : List Value → Hp → Nat), Iv_ [(Value.int .i64 x11_)] h ∧
  (∀ (i_ : Int) hp_, Iv_ [(Value.int .i64 i_)] hp_ →
   (((decide ((0 : Int) ≤ i_)) = true →
     ∃ b_1 o_1, d_ = some ⟨b_1, o_1, none⟩ ∧
     ∃ (x19p_ : Option Addr) (x19n_ x19c_ : Nat), cellsAt hp_ b_1 (o_1 + 1) [(Value.slice x19p_ x19n_ x19c_)] ∧
     ∃ b_2 o_2, x19p_ = some ⟨b_2, o_2, none⟩ ∧ 0 ≤ i_ ∧ i_ < (x19n_ : Int) ∧
     ∃ x23_ : Int, cellsAt hp_ b_2 ((o_2 + Int.toNat i_ * 2) + 0) [(Value.int .i64 x23_)] ∧
     (((decide (x23_ = n_)) = true →
       ∃ b_3 o_3, d_ = some ⟨b_3, o_3, none⟩ ∧
       ∃ (x29p_ : Option Addr) (x29n_ x29c_ : Nat), cellsAt hp_ b_3 (o_3 + 1) [(Value.slice x29p_ x29n_ x29c_)] ∧
       ∃ b_4 o_4, x29p_ = some ⟨b_4, o_4, none⟩ ∧ 0 ≤ i_ ∧ i_ < (x29n_ : Int) ∧
       ∃ x33_ : ByteArray, cellsAt hp_ b_4 ((o_4 + Int.toNat i_ * 2) + 1) [(Value.string x33_)] ∧
       R (.returned (Value.string x33_)) hp_) ∧
      ((decide (x23_ = n_)) = false →
       ∃ x15_, IntKind.i64.wrap (i_ - (1 : Int)) = x15_ ∧
       (Iv_ [(Value.int .i64 x15_)] hp_ ∧ m_ [(Value.int .i64 x15_)] hp_ < m_ [(Value.int .i64 i_)] hp_)))) ∧
    ((decide ((0 : Int) ≤ i_)) = false →
     ∃ b_5 o_5, d_ = some ⟨b_5, o_5, none⟩ ∧
     ∃ (x37p_ : Option Addr) (x37n_ x37c_ : Nat), cellsAt hp_ b_5 (o_5 + 0) [(Value.slice x37p_ x37n_ x37c_)] ∧
     ∃ b_6 o_6, x37p_ = some ⟨b_6, o_6, none⟩ ∧ 0 ≤ n_ ∧ n_ < (x37n_ : Int) ∧
     ∃ x40_ : ByteArray, cellsAt hp_ b_6 (o_6 + Int.toNat n_ * 1) [(Value.string x40_)] ∧
     R (.returned (Value.string x40_)) hp_)))) :
  CallsH Tryd.prog 96 #[(Value.pointer d_), (Value.int .i64 n_)] h R := calls_vc fine false Tryd.func96 (ann := A96) (args := [(Value.pointer d_), (Value.int .i64 n_)]) (by kernel_rfl) (Eq.mpr (by kernel_rfl) H)
/-- turnout/turnoutref05.Sum -/
def A97 : Ann := (.seq .nil (.seq .nil (.seq .nil .nil)))
theorem V97 (s_ : ByteArray) (h : Hp) (R : Ending → Hp → Prop) (H :
  CallsH Tryd.prog 102 #[(Value.int .u32 (0 : Int)), (Value.string s_)] h fun en_ hp_ =>
  ∃ x5_ : Int, en_ = .returned (Value.int .u32 x5_) ∧
  ∃ x6_, IntKind.u64.wrap x5_ = x6_ ∧
  CallsH Tryd.prog 101 #[(Value.int .u64 x6_), (Value.int .i64 (4 : Int))] hp_ fun en_1 hp_1 =>
  ∃ x7_ : ByteArray, en_1 = .returned (Value.string x7_) ∧
  ∃ l_ : Nat, (3 : Int) = (l_ : Int) ∧
  l_ ≤ (ByteArray.size x7_) ∧ (ByteArray.size x7_) ≤ ByteArray.size x7_ ∧ ∃ x9_, ByteArray.extract x7_ l_ (ByteArray.size x7_) = x9_ ∧
  ∃ l_1 : Nat, (2 : Int) = (l_1 : Int) ∧
  ∃ u_ : Nat, (3 : Int) = (u_ : Int) ∧
  l_1 ≤ u_ ∧ u_ ≤ ByteArray.size x7_ ∧ ∃ x11_, ByteArray.extract x7_ l_1 u_ = x11_ ∧
  ByteArray.size x9_ + ByteArray.size x11_ ≤ 9223372036854775807 ∧ ∃ x12_, x9_ ++ x11_ = x12_ ∧
  ∃ l_2 : Nat, (1 : Int) = (l_2 : Int) ∧
  ∃ u_1 : Nat, (2 : Int) = (u_1 : Int) ∧
  l_2 ≤ u_1 ∧ u_1 ≤ ByteArray.size x7_ ∧ ∃ x14_, ByteArray.extract x7_ l_2 u_1 = x14_ ∧
  ByteArray.size x12_ + ByteArray.size x14_ ≤ 9223372036854775807 ∧ ∃ x15_, x12_ ++ x14_ = x15_ ∧
  ∃ u_2 : Nat, (1 : Int) = (u_2 : Int) ∧
  0 ≤ u_2 ∧ u_2 ≤ ByteArray.size x7_ ∧ ∃ x17_, ByteArray.extract x7_ 0 u_2 = x17_ ∧
  ByteArray.size x15_ + ByteArray.size x17_ ≤ 9223372036854775807 ∧ ∃ x18_, x15_ ++ x17_ = x18_ ∧
  R (.returned (Value.string x18_)) hp_1) :
  CallsH Tryd.prog 97 #[(Value.string s_)] h R := calls_vc fine false Tryd.func97 (ann := A97) (args := [(Value.string s_)]) (by kernel_rfl) (Eq.mpr (by kernel_rfl) H)
/-- turnout/turnoutref05.number -/
def A98 : Ann := (.seq .nil (.seq .nil (.seq (.seq .nil (.block (.loop [(3, (.int .u64)), (4, (.int .i64))] (.seq (.seq .nil (.cond .nil .nil)) (.seq (.block .nil) .nil))))) (.seq .nil .nil))))
theorem V98 (s_ : ByteArray) (h : Hp) (R : Ending → Hp → Prop) (H :
  ∃ (Iv_ : List Value → Hp → Prop) (m_ : List Value → Hp → Nat), Iv_ [(Value.int .u64 (0 : Int)), (Value.int .i64 (0 : Int))] h ∧
  (∀ (n_ : Int) (i_ : Int) hp_, Iv_ [(Value.int .u64 n_), (Value.int .i64 i_)] hp_ →
   (((decide (i_ < (ByteArray.size s_ : Int))) = true →
     ∃ x12_, IntKind.u64.wrap ((256 : Int) * n_) = x12_ ∧
     0 ≤ i_ ∧ ∃ x15_ : UInt8, s_[Int.toNat i_]? = some x15_ ∧
     ∃ x16_, IntKind.u64.wrap (x15_.toNat : Int) = x16_ ∧
     ∃ x17_, IntKind.u64.wrap (x12_ + x16_) = x17_ ∧
     ∃ x10_, IntKind.i64.wrap (i_ + (1 : Int)) = x10_ ∧
     (Iv_ [(Value.int .u64 x17_), (Value.int .i64 x10_)] hp_ ∧ m_ [(Value.int .u64 x17_), (Value.int .i64 x10_)] hp_ < m_ [(Value.int .u64 n_), (Value.int .i64 i_)] hp_)) ∧
    ((decide (i_ < (ByteArray.size s_ : Int))) = false →
     R (.returned (Value.int .u64 n_)) hp_)))) :
  CallsH Tryd.prog 98 #[(Value.string s_)] h R := calls_vc fine false Tryd.func98 (ann := A98) (args := [(Value.string s_)]) (by kernel_rfl) (Eq.mpr (by kernel_rfl) H)
/-- turnout/turnoutref05.Wrong -/
def A99 : Ann := (.seq .nil (.seq (.seq (.join 20) (.cond (.seq .nil .nil) .nil)) (.seq (.seq .nil (.cond (.seq .nil .nil) .nil)) (.seq .nil .nil))))
theorem V99 (ff0_ : Int) (ff1_ : Int) (ff2_ : Int) (ff3_ : ByteArray) (h : Hp) (R : Ending → Hp → Prop) (H :
  ∀ b_ hp_, b_ = Array.size h → hp_ = Array.push h (.cells #[(Value.int .i64 ff0_), (Value.int .u64 ff1_), (Value.int .i64 ff2_), (Value.string ff3_)] 94) →
  ∃ B_ : Bool, (∃ x4_ : Int, cellsAt hp_ b_ (0 + 0) [(Value.int .i64 x4_)] ∧
   (((decide (x4_ < (1 : Int))) = true →
     hp_ = hp_ ∧ B_ = true) ∧
    ((decide (x4_ < (1 : Int))) = false →
     ∃ x8_ : Int, cellsAt hp_ b_ (0 + 0) [(Value.int .i64 x8_)] ∧
     (((decide ((255 : Int) < x8_)) = true →
       hp_ = hp_ ∧ B_ = true) ∧
      ((decide ((255 : Int) < x8_)) = false →
       ∃ x13_ : Int, cellsAt hp_ b_ (0 + 2) [(Value.int .i64 x13_)] ∧
       (((decide (x13_ < (0 : Int))) = true →
         hp_ = hp_ ∧ B_ = true) ∧
        ((decide (x13_ < (0 : Int))) = false →
         ∃ x18_ : Int, cellsAt hp_ b_ (0 + 2) [(Value.int .i64 x18_)] ∧
         hp_ = hp_ ∧ B_ = (decide ((2147483647 : Int) < x18_))))))))) ∧
  ((B_ = true →
    R (.returned (Value.int .i64 (1 : Int))) hp_) ∧
   (B_ = false →
    ∃ x22_ : ByteArray, cellsAt hp_ b_ (0 + 3) [(Value.string x22_)] ∧
    (((decide ((491 : Int) < (ByteArray.size x22_ : Int))) = true →
      R (.returned (Value.int .i64 (2 : Int))) hp_) ∧
     ((decide ((491 : Int) < (ByteArray.size x22_ : Int))) = false →
      R (.returned (Value.int .i64 (0 : Int))) hp_))))) :
  CallsH Tryd.prog 99 #[(Value.agg #[(Value.int .i64 ff0_), (Value.int .u64 ff1_), (Value.int .i64 ff2_), (Value.string ff3_)])] h R := calls_vc fine false Tryd.func99 (ann := A99) (args := [(Value.agg #[(Value.int .i64 ff0_), (Value.int .u64 ff1_), (Value.int .i64 ff2_), (Value.string ff3_)])]) (by kernel_rfl) (Eq.mpr (by kernel_rfl) H)
/-- turnout/turnoutref05.Seal -/
def A100 : Ann := (.seq .nil (.cut (.seq (.join 14) (.cond (.seq .nil .nil) .nil)) [] (.seq .nil (.seq (.seq .nil (.cond (.seq .nil .nil) .nil)) (.seq (.drawLast [5, 9, 14, 20]) (.seq .nil (.seq .nil (.seq .nil .nil))))))))
theorem V100 (ff0_ : Int) (ff1_ : Int) (ff2_ : Int) (ff3_ : ByteArray) (mark_ : Int) (h : Hp) (R : Ending → Hp → Prop) (H :
  ∀ b_ hp_, b_ = Array.size h → hp_ = Array.push h (.cells #[(Value.int .i64 ff0_), (Value.int .u64 ff1_), (Value.int .i64 ff2_), (Value.string ff3_)] 94) →
  ∃ Jv_ : List Value → Hp → Prop,
  (∃ B_ : Bool, ((((decide (mark_ < (0 : Int))) = true →
      hp_ = hp_ ∧ B_ = true) ∧
     ((decide (mark_ < (0 : Int))) = false →
      hp_ = hp_ ∧ B_ = (decide ((255 : Int) < mark_))))) ∧
   ((B_ = true →
     R (.returned (Value.tuple #[(Value.string (⟨#[]⟩ : ByteArray)), (Value.int .i64 (1 : Int))])) hp_) ∧
    (B_ = false →
     Jv_ [] hp_))) ∧
  (∀  hp_1, Jv_ [] hp_1 →
   ∃ x15f0_ : Int, ∃ x15f1_ : Int, ∃ x15f2_ : Int, ∃ x15f3_ : ByteArray, cellsAt hp_1 b_ 0 [(Value.int .i64 x15f0_), (Value.int .u64 x15f1_), (Value.int .i64 x15f2_), (Value.string x15f3_)] ∧
   CallsH Tryd.prog 99 #[(Value.agg #[(Value.int .i64 x15f0_), (Value.int .u64 x15f1_), (Value.int .i64 x15f2_), (Value.string x15f3_)])] hp_1 fun en_ hp_2 =>
   ∃ x16_ : Int, en_ = .returned (Value.int .i64 x16_) ∧
   (((decide (x16_ ≠ (0 : Int))) = true →
     R (.returned (Value.tuple #[(Value.string (⟨#[]⟩ : ByteArray)), (Value.int .i64 x16_)])) hp_2) ∧
    ((decide (x16_ ≠ (0 : Int))) = false →
     ∃ Cv_ : Hp → Prop, Cv_ hp_2 ∧
     ∃ x21_ : Int, cellsAt hp_2 b_ (0 + 0) [(Value.int .i64 x21_)] ∧
     ∃ x22_, IntKind.u64.wrap x21_ = x22_ ∧
     CallsH Tryd.prog 101 #[(Value.int .u64 x22_), (Value.int .i64 (1 : Int))] hp_2 fun en_1 hp_3 =>
     ∃ x23_ : ByteArray, en_1 = .returned (Value.string x23_) ∧
     Cv_ hp_3 ∧
     ∃ x25_ : Int, (∀ h', Cv_ h' → cellsAt h' b_ (0 + 1) [(Value.int .u64 x25_)]) ∧
     CallsH Tryd.prog 101 #[(Value.int .u64 x25_), (Value.int .i64 (8 : Int))] hp_3 fun en_2 hp_4 =>
     ∃ x26_ : ByteArray, en_2 = .returned (Value.string x26_) ∧
     Cv_ hp_4 ∧
     ByteArray.size x23_ + ByteArray.size x26_ ≤ 9223372036854775807 ∧ ∃ x27_, x23_ ++ x26_ = x27_ ∧
     ∃ x29_ : Int, (∀ h', Cv_ h' → cellsAt h' b_ (0 + 2) [(Value.int .i64 x29_)]) ∧
     ∃ x30_, IntKind.u64.wrap x29_ = x30_ ∧
     CallsH Tryd.prog 101 #[(Value.int .u64 x30_), (Value.int .i64 (4 : Int))] hp_4 fun en_3 hp_5 =>
     ∃ x31_ : ByteArray, en_3 = .returned (Value.string x31_) ∧
     Cv_ hp_5 ∧
     ByteArray.size x27_ + ByteArray.size x31_ ≤ 9223372036854775807 ∧ ∃ x32_, x27_ ++ x31_ = x32_ ∧
     ∃ x34_ : ByteArray, (∀ h', Cv_ h' → cellsAt h' b_ (0 + 3) [(Value.string x34_)]) ∧
     ∃ x36_, IntKind.u64.wrap (ByteArray.size x34_ : Int) = x36_ ∧
     CallsH Tryd.prog 101 #[(Value.int .u64 x36_), (Value.int .i64 (2 : Int))] hp_5 fun en_4 hp_6 =>
     ∃ x37_ : ByteArray, en_4 = .returned (Value.string x37_) ∧
     Cv_ hp_6 ∧
     ByteArray.size x32_ + ByteArray.size x37_ ≤ 9223372036854775807 ∧ ∃ x38_, x32_ ++ x37_ = x38_ ∧
     ∃ x40_ : ByteArray, (∀ h', Cv_ h' → cellsAt h' b_ (0 + 3) [(Value.string x40_)]) ∧
     ByteArray.size x38_ + ByteArray.size x40_ ≤ 9223372036854775807 ∧ ∃ x41_, x38_ ++ x40_ = x41_ ∧
     ∃ x44_ : ByteArray, cellsAt hp_6 b_ (0 + 3) [(Value.string x44_)] ∧
     ∃ x46_, IntKind.i64.wrap ((491 : Int) - (ByteArray.size x44_ : Int)) = x46_ ∧
     SemH Tryd.prog (Instr.makeSlice 71 (Value.int .i64 x46_) (Value.int .i64 x46_)) hp_6 fun v_ hp_7 =>
     ∃ (x47p_ : Option Addr) (x47n_ x47c_ : Nat), v_ = (Value.slice x47p_ x47n_ x47c_) ∧
     SemH Tryd.prog (convert 71 9 (Value.slice x47p_ x47n_ x47c_)) hp_7 fun v_1 hp_8 =>
     ∃ x48_ : ByteArray, v_1 = (Value.string x48_) ∧
     ByteArray.size x41_ + ByteArray.size x48_ ≤ 9223372036854775807 ∧ ∃ x49_, x41_ ++ x48_ = x49_ ∧
     ∃ x51_, IntKind.u64.wrap mark_ = x51_ ∧
     CallsH Tryd.prog 101 #[(Value.int .u64 x51_), (Value.int .i64 (1 : Int))] hp_8 fun en_5 hp_9 =>
     ∃ x52_ : ByteArray, en_5 = .returned (Value.string x52_) ∧
     ByteArray.size x52_ + ByteArray.size x49_ ≤ 9223372036854775807 ∧ ∃ x55_, x52_ ++ x49_ = x55_ ∧
     CallsH Tryd.prog 97 #[(Value.string x49_)] hp_9 fun en_6 hp_10 =>
     ∃ x57_ : ByteArray, en_6 = .returned (Value.string x57_) ∧
     ByteArray.size x55_ + ByteArray.size x57_ ≤ 9223372036854775807 ∧ ∃ x58_, x55_ ++ x57_ = x58_ ∧
     ByteArray.size x58_ + ByteArray.size x52_ ≤ 9223372036854775807 ∧ ∃ x60_, x58_ ++ x52_ = x60_ ∧
     R (.returned (Value.tuple #[(Value.string x60_), (Value.int .i64 (0 : Int))])) hp_10)))) :
  CallsH Tryd.prog 100 #[(Value.agg #[(Value.int .i64 ff0_), (Value.int .u64 ff1_), (Value.int .i64 ff2_), (Value.string ff3_)]), (Value.int .i64 mark_)] h R := calls_vc fine false Tryd.func100 (ann := A100) (args := [(Value.agg #[(Value.int .i64 ff0_), (Value.int .u64 ff1_), (Value.int .i64 ff2_), (Value.string ff3_)]), (Value.int .i64 mark_)]) (by kernel_rfl) (Eq.mpr (by kernel_rfl) H)
/-- turnout/turnoutref05.bytes -/
def A101 : Ann := (.seq .nil (.seq .nil (.seq (.seq .nil (.block (.loop [(0, (.int .u64)), (5, .str), (6, (.int .i64))] (.seq (.seq .nil (.cond .nil .nil)) (.seq (.block (.seq .nil .nil)) .nil))))) (.seq .nil .nil))))
theorem V101 (n_ : Int) (many_ : Int) (h : Hp) (R : Ending → Hp → Prop) (H :
  ∃ (Iv_ : List Value → Hp → Prop) (m_ : List Value → Hp → Nat), Iv_ [(Value.int .u64 n_), (Value.string (⟨#[]⟩ : ByteArray)), (Value.int .i64 (0 : Int))] h ∧
  (∀ (n_1 : Int) (s_ : ByteArray) (i_ : Int) hp_, Iv_ [(Value.int .u64 n_1), (Value.string s_), (Value.int .i64 i_)] hp_ →
   (((decide (i_ < many_)) = true →
     (256 : Int) ≠ 0 ∧ ∃ x13_, Int.tmod n_1 (256 : Int) = x13_ ∧
     ∃ x14_, IntKind.u8.wrap x13_ = x14_ ∧
     SemH Tryd.prog (Instr.buildSlice 71 1 #[(0, (Value.int .u8 x14_))]) hp_ fun v_ hp_1 =>
     ∃ (x15p_ : Option Addr) (x15n_ x15c_ : Nat), v_ = (Value.slice x15p_ x15n_ x15c_) ∧
     SemH Tryd.prog (convert 71 9 (Value.slice x15p_ x15n_ x15c_)) hp_1 fun v_1 hp_2 =>
     ∃ x16_ : ByteArray, v_1 = (Value.string x16_) ∧
     ByteArray.size x16_ + ByteArray.size s_ ≤ 9223372036854775807 ∧ ∃ x18_, x16_ ++ s_ = x18_ ∧
     (256 : Int) ≠ 0 ∧ ∃ x20_, IntKind.u64.wrap (Int.tdiv n_1 (256 : Int)) = x20_ ∧
     ∃ x11_, IntKind.i64.wrap (i_ + (1 : Int)) = x11_ ∧
     (Iv_ [(Value.int .u64 x20_), (Value.string x18_), (Value.int .i64 x11_)] hp_2 ∧ m_ [(Value.int .u64 x20_), (Value.string x18_), (Value.int .i64 x11_)] hp_2 < m_ [(Value.int .u64 n_1), (Value.string s_), (Value.int .i64 i_)] hp_)) ∧
    ((decide (i_ < many_)) = false →
     R (.returned (Value.string s_)) hp_)))) :
  CallsH Tryd.prog 101 #[(Value.int .u64 n_), (Value.int .i64 many_)] h R := calls_vc fine false Tryd.func101 (ann := A101) (args := [(Value.int .u64 n_), (Value.int .i64 many_)]) (by kernel_rfl) (Eq.mpr (by kernel_rfl) H)
/-- turnout/turnoutref02.More -/
def A102 : Ann := (.seq .nil (.seq .nil (.seq .nil .nil)))
theorem V102 (sum_ : Int) (b_ : ByteArray) (h : Hp) (R : Ending → Hp → Prop) (H :
  CallsH Tryd.prog 104 #[(Value.int .u32 sum_)] h fun en_ hp_ =>
  ∃ x7_ : Int, en_ = .returned (Value.int .u32 x7_) ∧
  CallsH Tryd.prog 103 #[(Value.int .u32 x7_), (Value.string b_)] hp_ fun en_1 hp_1 =>
  ∃ x9_ : Int, en_1 = .returned (Value.int .u32 x9_) ∧
  CallsH Tryd.prog 104 #[(Value.int .u32 x9_)] hp_1 fun en_2 hp_2 =>
  ∃ x11_ : Int, en_2 = .returned (Value.int .u32 x11_) ∧
  R (.returned (Value.int .u32 x11_)) hp_2) :
  CallsH Tryd.prog 102 #[(Value.int .u32 sum_), (Value.string b_)] h R := calls_vc fine false Tryd.func102 (ann := A102) (args := [(Value.int .u32 sum_), (Value.string b_)]) (by kernel_rfl) (Eq.mpr (by kernel_rfl) H)
/-- turnout/turnoutref02.takes -/
def A103 : Ann := (.seq .nil (.seq (.seq .nil (.block (.loop [(0, (.int .u32)), (5, (.int .i64))] (.seq (.seq .nil (.cond .nil .nil)) (.seq (.block (.seq .nil (.seq .nil (.block (.loop [(0, (.int .u32)), (6, (.int .i64))] (.seq (.seq .nil (.cond .nil .nil)) (.seq (.block .nil) .nil))))))) .nil))))) (.seq .nil .nil)))
theorem V103 (r_ : Int) (b_ : ByteArray) (h : Hp) (R : Ending → Hp → Prop) (H :
  ∃ (Iv_ : List Value → Hp → Prop) (m_ : List Value → Hp → Nat), Iv_ [(Value.int .u32 r_), (Value.int .i64 (0 : Int))] h ∧
  (∀ (r_1 : Int) (i_ : Int) hp_, Iv_ [(Value.int .u32 r_1), (Value.int .i64 i_)] hp_ →
   (((decide (i_ < (ByteArray.size b_ : Int))) = true →
     0 ≤ i_ ∧ ∃ x16_ : UInt8, b_[Int.toNat i_]? = some x16_ ∧
     ∃ x17_, IntKind.u32.wrap (x16_.toNat : Int) = x17_ ∧
     ∃ x18_, xorI .u32 r_1 x17_ = x18_ ∧
     ∃ (Iv_1 : List Value → Hp → Prop) (m_1 : List Value → Hp → Nat), Iv_1 [(Value.int .u32 x18_), (Value.int .i64 (0 : Int))] hp_ ∧
     (∀ (r_2 : Int) (k_ : Int) hp_1, Iv_1 [(Value.int .u32 r_2), (Value.int .i64 k_)] hp_1 →
      (((decide (k_ < (8 : Int))) = true →
        CallsH Tryd.prog 105 #[(Value.int .u32 r_2)] hp_1 fun en_ hp_2 =>
        ∃ x24_ : Int, en_ = .returned (Value.int .u32 x24_) ∧
        ∃ x22_, IntKind.i64.wrap (k_ + (1 : Int)) = x22_ ∧
        (Iv_1 [(Value.int .u32 x24_), (Value.int .i64 x22_)] hp_2 ∧ m_1 [(Value.int .u32 x24_), (Value.int .i64 x22_)] hp_2 < m_1 [(Value.int .u32 r_2), (Value.int .i64 k_)] hp_1)) ∧
       ((decide (k_ < (8 : Int))) = false →
        ∃ x12_, IntKind.i64.wrap (i_ + (1 : Int)) = x12_ ∧
        (Iv_ [(Value.int .u32 r_2), (Value.int .i64 x12_)] hp_1 ∧ m_ [(Value.int .u32 r_2), (Value.int .i64 x12_)] hp_1 < m_ [(Value.int .u32 r_1), (Value.int .i64 i_)] hp_))))) ∧
    ((decide (i_ < (ByteArray.size b_ : Int))) = false →
     R (.returned (Value.int .u32 r_1)) hp_)))) :
  CallsH Tryd.prog 103 #[(Value.int .u32 r_), (Value.string b_)] h R := calls_vc fine false Tryd.func103 (ann := A103) (args := [(Value.int .u32 r_), (Value.string b_)]) (by kernel_rfl) (Eq.mpr (by kernel_rfl) H)
/-- turnout/turnoutref02.over -/
def A104 : Ann := (.seq .nil (.seq .nil .nil))
theorem V104 (r_ : Int) (h : Hp) (R : Ending → Hp → Prop) (H :
  ∃ x4_, IntKind.u32.wrap ((4294967295 : Int) - r_) = x4_ ∧
  R (.returned (Value.int .u32 x4_)) h) :
  CallsH Tryd.prog 104 #[(Value.int .u32 r_)] h R := calls_vc fine false Tryd.func104 (ann := A104) (args := [(Value.int .u32 r_)]) (by kernel_rfl) (Eq.mpr (by kernel_rfl) H)
/-- turnout/turnoutref02.turn -/
def A105 : Ann := (.seq .nil (.seq (.seq .nil (.cond (.seq .nil .nil) .nil)) (.seq .nil .nil)))
theorem V105 (r_ : Int) (h : Hp) (R : Ending → Hp → Prop) (H :
  (2 : Int) ≠ 0 ∧ ∃ x4_, Int.tmod r_ (2 : Int) = x4_ ∧
  (((decide (x4_ = (1 : Int))) = true →
    (2 : Int) ≠ 0 ∧ ∃ x7_, IntKind.u32.wrap (Int.tdiv r_ (2 : Int)) = x7_ ∧
    ∃ x8_, xorI .u32 x7_ (3988292384 : Int) = x8_ ∧
    R (.returned (Value.int .u32 x8_)) h) ∧
   ((decide (x4_ = (1 : Int))) = false →
    (2 : Int) ≠ 0 ∧ ∃ x10_, IntKind.u32.wrap (Int.tdiv r_ (2 : Int)) = x10_ ∧
    R (.returned (Value.int .u32 x10_)) h))) :
  CallsH Tryd.prog 105 #[(Value.int .u32 r_)] h R := calls_vc fine false Tryd.func105 (ann := A105) (args := [(Value.int .u32 r_)]) (by kernel_rfl) (Eq.mpr (by kernel_rfl) H)
end Go.Vc
