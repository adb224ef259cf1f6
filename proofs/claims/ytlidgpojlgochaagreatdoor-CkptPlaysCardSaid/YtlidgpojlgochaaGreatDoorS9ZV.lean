import Derived.Test.YtlidgpojlgochaaGreatDoorS9ZVa
import Derived.Test.YtlidgpojlgochaaGreatDoorProg
set_option maxRecDepth 10000
namespace Go.Vc
open Go Go.Proofs
set_option maxRecDepth 100000
/-- turnout/sums.Sum -/
def A49 : Ann := (.seq .nil (.seq .nil (.seq (.seq .nil (.block (.loop [(3, (.int .u32)), (8, (.int .i64))] (.seq .nil (.seq (.cond .nil .nil) (.seq (.block (.seq .nil .nil)) .nil)))))) (.seq .nil .nil))))
theorem V49 (partsp_ : Option Addr) (partsn_ partsc_ : Nat) (h : Hp) (R : Ending → Hp → Prop) (H :
  ∃ (Iv_ : List Value → Hp → Prop) (m_ : List Value → Hp → Nat), Iv_ [(Value.int .u32 (4294967295 : Int)), (Value.int .i64 (0 : Int))] h ∧
  (∀ (r_ : Int) (x8_ : Int) hp_, Iv_ [(Value.int .u32 r_), (Value.int .i64 x8_)] hp_ →
   (((decide (x8_ < ((partsn_ : Nat) : Int))) = true →
     ∃ b_ o_, partsp_ = some ⟨b_, o_, none⟩ ∧ 0 ≤ x8_ ∧ x8_ < (partsn_ : Int) ∧
     ∃ x11_ : ByteArray, cellsAt hp_ b_ (o_ + Int.toNat x8_ * 1) [(Value.string x11_)] ∧
     CallsH Tryz.prog 72 #[(Value.int .u32 r_), (Value.string x11_)] hp_ fun en_ hp_1 =>
     ∃ x14_ : Int, en_ = .returned (Value.int .u32 x14_) ∧
     ∃ x15_, IntKind.i64.wrap (x8_ + (1 : Int)) = x15_ ∧
     (Iv_ [(Value.int .u32 x14_), (Value.int .i64 x15_)] hp_1 ∧ m_ [(Value.int .u32 x14_), (Value.int .i64 x15_)] hp_1 < m_ [(Value.int .u32 r_), (Value.int .i64 x8_)] hp_)) ∧
    ((decide (x8_ < ((partsn_ : Nat) : Int))) = false →
     ∃ x17_, notI .u32 r_ = x17_ ∧
     R (.returned (Value.int .u32 x17_)) hp_)))) :
  CallsH Tryz.prog 49 #[(Value.slice partsp_ partsn_ partsc_)] h R := calls_vc fine false Tryz.func49 (ann := A49) (args := [(Value.slice partsp_ partsn_ partsc_)]) (by kernel_rfl) (Eq.mpr (by kernel_rfl) H)
/-- turnout/turnoutref20.Write -/
def A50 : Ann := (.seq .nil (.seq (.seq .nil (.cond (.seq .nil .nil) .nil)) (.seq .nil (.cut (.seq (.join 24) (.cond (.seq .nil .nil) .nil)) [] (.seq .nil (.seq (.seq .nil (.cond (.seq .nil .nil) .nil)) (.seq .nil (.seq (.seq .nil (.block (.loop [(10, (.int .i64))] (.seq (.seq .nil (.cond .nil .nil)) (.seq (.block (.seq .nil (.seq .nil (.cond (.seq .nil .nil) .nil)))) .nil))))) (.seq .nil (.seq (.seq .nil (.cond (.seq .nil .nil) .nil)) (.seq (.drawLast [5]) (.seq .nil (.seq (.seq .nil (.cond (.seq .nil .nil) .nil)) (.seq .nil .nil))))))))))))))
theorem V50 (d_ : Option Addr) (hf0_ : Int) (hf1_ : Int) (hf2_ : Int) (hf3_ : Int) (hf4_ : Int) (s_ : ByteArray) (h : Hp) (R : Ending → Hp → Prop) (H :
  ∀ b_ hp_, b_ = Array.size h → hp_ = Array.push h (.cells #[(Value.int .i64 hf0_), (Value.int .u64 hf1_), (Value.int .u64 hf2_), (Value.int .i64 hf3_), (Value.int .i64 hf4_)] 39) →
  ∃ x15_, EqV Tryz.prog 30 (Value.pointer d_) (Value.pointer none) x15_ ∧
  ((x15_ = true →
    R (.returned (Value.int .i64 (1 : Int))) hp_) ∧
   (x15_ = false →
    ∃ x17f0_ : Int, ∃ x17f1_ : Int, ∃ x17f2_ : Int, ∃ x17f3_ : Int, ∃ x17f4_ : Int, cellsAt hp_ b_ 0 [(Value.int .i64 x17f0_), (Value.int .u64 x17f1_), (Value.int .u64 x17f2_), (Value.int .i64 x17f3_), (Value.int .i64 x17f4_)] ∧
    CallsH Tryz.prog 73 #[(Value.pointer d_), (Value.agg #[(Value.int .i64 x17f0_), (Value.int .u64 x17f1_), (Value.int .u64 x17f2_), (Value.int .i64 x17f3_), (Value.int .i64 x17f4_)])] hp_ fun en_ hp_1 =>
    ∃ x18_ : Bool, en_ = .returned (Value.bool x18_) ∧
    ∃ Jv_ : List Value → Hp → Prop,
    (∃ B_ : Bool, ((((!x18_) = true →
        hp_1 = hp_1 ∧ B_ = true) ∧
       ((!x18_) = false →
        hp_1 = hp_1 ∧ B_ = (decide (s_ = (⟨#[]⟩ : ByteArray)))))) ∧
     ((B_ = true →
       R (.returned (Value.int .i64 (1 : Int))) hp_1) ∧
      (B_ = false →
       Jv_ [] hp_1))) ∧
    (∀  hp_2, Jv_ [] hp_2 →
     ∃ x29_ : Int, cellsAt hp_2 b_ ((0 + 3) + 0) [(Value.int .i64 x29_)] ∧
     CallsH Tryz.prog 74 #[(Value.int .i64 (ByteArray.size s_ : Int)), (Value.int .i64 x29_)] hp_2 fun en_1 hp_3 =>
     ∃ x30_ : Bool, en_1 = .returned (Value.bool x30_) ∧
     (((!x30_) = true →
       R (.returned (Value.int .i64 (2 : Int))) hp_3) ∧
      ((!x30_) = false →
       CallsH Tryz.prog 75 #[(Value.string s_)] hp_3 fun en_2 hp_4 =>
       ∃ (x34p_ : Option Addr) (x34n_ x34c_ : Nat), en_2 = .returned (Value.slice x34p_ x34n_ x34c_) ∧
       ∃ (Iv_ : List Value → Hp → Prop) (m_ : List Value → Hp → Nat), Iv_ [(Value.int .i64 (0 : Int))] hp_4 ∧
       (∀ (k_ : Int) hp_5, Iv_ [(Value.int .i64 k_)] hp_5 →
        (((decide (k_ < ((x34n_ : Nat) : Int))) = true →
          ∃ x43_ : Int, cellsAt hp_5 b_ (0 + 0) [(Value.int .i64 x43_)] ∧
          ∃ x46_ : Int, cellsAt hp_5 b_ ((0 + 3) + 0) [(Value.int .i64 x46_)] ∧
          ∃ x47_, IntKind.i64.wrap (x43_ * x46_) = x47_ ∧
          ∃ x48_, IntKind.i64.wrap ((2 : Int) + x47_) = x48_ ∧
          ∃ x50_, IntKind.i64.wrap (x48_ + k_) = x50_ ∧
          ∃ x52_ : Int, cellsAt hp_5 b_ (0 + 1) [(Value.int .u64 x52_)] ∧
          ∃ b_1 o_, x34p_ = some ⟨b_1, o_, none⟩ ∧ 0 ≤ k_ ∧ k_ < (x34n_ : Int) ∧
          ∃ x57_ : ByteArray, cellsAt hp_5 b_1 (o_ + Int.toNat k_ * 1) [(Value.string x57_)] ∧
          CallsH Tryz.prog 76 #[(Value.pointer d_), (Value.int .i64 x50_), (Value.agg #[(Value.int .i64 (2 : Int)), (Value.int .u64 x52_), (Value.int .i64 k_), (Value.string x57_)])] hp_5 fun en_3 hp_6 =>
          ∃ x59_ : Int, en_3 = .returned (Value.int .i64 x59_) ∧
          (((decide (x59_ ≠ (0 : Int))) = true →
            R (.returned (Value.int .i64 x59_)) hp_6) ∧
           ((decide (x59_ ≠ (0 : Int))) = false →
            ∃ x40_, IntKind.i64.wrap (k_ + (1 : Int)) = x40_ ∧
            (Iv_ [(Value.int .i64 x40_)] hp_6 ∧ m_ [(Value.int .i64 x40_)] hp_6 < m_ [(Value.int .i64 k_)] hp_5)))) ∧
         ((decide (k_ < ((x34n_ : Nat) : Int))) = false →
          CallsH Tryz.prog 26 #[(Value.pointer d_)] hp_5 fun en_4 hp_7 =>
          ∃ x64_ : Int, en_4 = .returned (Value.int .i64 x64_) ∧
          (((decide (x64_ ≠ (0 : Int))) = true →
            R (.returned (Value.int .i64 x64_)) hp_7) ∧
           ((decide (x64_ ≠ (0 : Int))) = false →
            ∃ Cv_ : Hp → Prop, Cv_ hp_7 ∧
            ∃ x69_ : Int, cellsAt hp_7 b_ (0 + 2) [(Value.int .u64 x69_)] ∧
            CallsH Tryz.prog 77 #[(Value.int .u64 x69_), (Value.int .i64 (8 : Int))] hp_7 fun en_5 hp_8 =>
            ∃ x70_ : ByteArray, en_5 = .returned (Value.string x70_) ∧
            Cv_ hp_8 ∧
            ∃ x73_ : Int, (∀ h', Cv_ h' → cellsAt h' b_ ((0 + 3) + 0) [(Value.int .i64 x73_)]) ∧
            ∃ x74_, IntKind.u64.wrap x73_ = x74_ ∧
            CallsH Tryz.prog 77 #[(Value.int .u64 x74_), (Value.int .i64 (4 : Int))] hp_8 fun en_6 hp_9 =>
            ∃ x75_ : ByteArray, en_6 = .returned (Value.string x75_) ∧
            Cv_ hp_9 ∧
            ByteArray.size x70_ + ByteArray.size x75_ ≤ 9223372036854775807 ∧ ∃ x76_, x70_ ++ x75_ = x76_ ∧
            ∃ x79_, IntKind.u64.wrap (ByteArray.size s_ : Int) = x79_ ∧
            CallsH Tryz.prog 77 #[(Value.int .u64 x79_), (Value.int .i64 (4 : Int))] hp_9 fun en_7 hp_10 =>
            ∃ x80_ : ByteArray, en_7 = .returned (Value.string x80_) ∧
            Cv_ hp_10 ∧
            ByteArray.size x76_ + ByteArray.size x80_ ≤ 9223372036854775807 ∧ ∃ x81_, x76_ ++ x80_ = x81_ ∧
            CallsH Tryz.prog 61 #[(Value.int .u32 (0 : Int)), (Value.string s_)] hp_10 fun en_8 hp_11 =>
            ∃ x83_ : Int, en_8 = .returned (Value.int .u32 x83_) ∧
            Cv_ hp_11 ∧
            ∃ x84_, IntKind.u64.wrap x83_ = x84_ ∧
            CallsH Tryz.prog 77 #[(Value.int .u64 x84_), (Value.int .i64 (4 : Int))] hp_11 fun en_9 hp_12 =>
            ∃ x85_ : ByteArray, en_9 = .returned (Value.string x85_) ∧
            Cv_ hp_12 ∧
            ByteArray.size x81_ + ByteArray.size x85_ ≤ 9223372036854775807 ∧ ∃ x86_, x81_ ++ x85_ = x86_ ∧
            ∃ x89_ : Int, cellsAt hp_12 b_ (0 + 0) [(Value.int .i64 x89_)] ∧
            ∃ x91_ : Int, cellsAt hp_12 b_ (0 + 1) [(Value.int .u64 x91_)] ∧
            ∃ x93_ : Int, cellsAt hp_12 b_ (0 + 0) [(Value.int .i64 x93_)] ∧
            CallsH Tryz.prog 76 #[(Value.pointer d_), (Value.int .i64 x89_), (Value.agg #[(Value.int .i64 (1 : Int)), (Value.int .u64 x91_), (Value.int .i64 x93_), (Value.string x86_)])] hp_12 fun en_10 hp_13 =>
            ∃ x96_ : Int, en_10 = .returned (Value.int .i64 x96_) ∧
            (((decide (x96_ ≠ (0 : Int))) = true →
              R (.returned (Value.int .i64 x96_)) hp_13) ∧
             ((decide (x96_ ≠ (0 : Int))) = false →
              CallsH Tryz.prog 26 #[(Value.pointer d_)] hp_13 fun en_11 hp_14 =>
              ∃ x101_ : Int, en_11 = .returned (Value.int .i64 x101_) ∧
              R (.returned (Value.int .i64 x101_)) hp_14))))))))))))) :
  CallsH Tryz.prog 50 #[(Value.pointer d_), (Value.agg #[(Value.int .i64 hf0_), (Value.int .u64 hf1_), (Value.int .u64 hf2_), (Value.int .i64 hf3_), (Value.int .i64 hf4_)]), (Value.string s_)] h R := calls_vc fine false Tryz.func50 (ann := A50) (args := [(Value.pointer d_), (Value.agg #[(Value.int .i64 hf0_), (Value.int .u64 hf1_), (Value.int .u64 hf2_), (Value.int .i64 hf3_), (Value.int .i64 hf4_)]), (Value.string s_)]) (by kernel_rfl) (Eq.mpr (by kernel_rfl) H)
/-- (*turnout/turnoutref04.Disk).Size -/
def A51 : Ann := (.seq .nil (.seq .nil .nil))
theorem V51 (d_ : Option Addr) (h : Hp) (R : Ending → Hp → Prop) (H :
  ∃ b_ o_, d_ = some ⟨b_, o_, none⟩ ∧
  ∃ (x6p_ : Option Addr) (x6n_ x6c_ : Nat), cellsAt h b_ (o_ + 0) [(Value.slice x6p_ x6n_ x6c_)] ∧
  R (.returned (Value.int .i64 ((x6n_ : Nat) : Int))) h) :
  CallsH Tryz.prog 51 #[(Value.pointer d_)] h R := calls_vc fine false Tryz.func51 (ann := A51) (args := [(Value.pointer d_)]) (by kernel_rfl) (Eq.mpr (by kernel_rfl) H)
/-- turnout/turnoutref20.Next -/
def A52 : Ann := (.seq .nil (.cut (.seq (.join 13) (.cond (.seq .nil .nil) .nil)) [] (.cut (.seq (.join 26) (.cond (.seq .nil .nil) .nil)) [] (.seq .nil .nil))))
theorem V52 (hf0_ : Int) (hf1_ : Int) (hf2_ : Int) (hf3_ : Int) (hf4_ : Int) (above_ : Int) (h : Hp) (R : Ending → Hp → Prop) (H :
  ∀ b_ hp_, b_ = Array.size h → hp_ = Array.push h (.cells #[(Value.int .i64 hf0_), (Value.int .u64 hf1_), (Value.int .u64 hf2_), (Value.int .i64 hf3_), (Value.int .i64 hf4_)] 39) →
  ∀ b_1 hp_1, b_1 = Array.size hp_ → hp_1 = Array.push hp_ (.cells (zeros Tryz.prog 39) 39) → (∃ i z, Tryz.prog.info? 39 = some i ∧ i.zero = some z) ∧
  ∃ Jv_ : List Value → Hp → Prop,
  (∃ B_ : Bool, (∃ x7_ : Int, cellsAt hp_1 b_ (0 + 0) [(Value.int .i64 x7_)] ∧
    (((decide (x7_ ≠ (0 : Int))) = true →
      ∃ x11_ : Int, cellsAt hp_1 b_ (0 + 0) [(Value.int .i64 x11_)] ∧
      hp_1 = hp_1 ∧ B_ = (decide (x11_ ≠ (1 : Int)))) ∧
     ((decide (x7_ ≠ (0 : Int))) = false →
      hp_1 = hp_1 ∧ B_ = false))) ∧
   ((B_ = true →
     List.length [(Value.int .i64 (0 : Int)), (Value.int .u64 (0 : Int)), (Value.int .u64 (0 : Int)), (Value.int .i64 (0 : Int)), (Value.int .i64 (0 : Int))] = 5 ∧ (∀ c ∈ [(Value.int .i64 (0 : Int)), (Value.int .u64 (0 : Int)), (Value.int .u64 (0 : Int)), (Value.int .i64 (0 : Int)), (Value.int .i64 (0 : Int))], c.oneCell' = true) ∧ wrAt hp_1 b_1 0 5 ∧ ∀ hp_2, hp_2 = setsH hp_1 b_1 0 [(Value.int .i64 (0 : Int)), (Value.int .u64 (0 : Int)), (Value.int .u64 (0 : Int)), (Value.int .i64 (0 : Int)), (Value.int .i64 (0 : Int))] →
     ∃ resf0_ : Int, ∃ resf1_ : Int, ∃ resf2_ : Int, ∃ resf3_ : Int, ∃ resf4_ : Int, cellsAt hp_2 b_1 0 [(Value.int .i64 resf0_), (Value.int .u64 resf1_), (Value.int .u64 resf2_), (Value.int .i64 resf3_), (Value.int .i64 resf4_)] ∧
     R (.returned (Value.tuple #[(Value.agg #[(Value.int .i64 resf0_), (Value.int .u64 resf1_), (Value.int .u64 resf2_), (Value.int .i64 resf3_), (Value.int .i64 resf4_)]), (Value.int .i64 (1 : Int))])) hp_2) ∧
    (B_ = false →
     Jv_ [] hp_1))) ∧
  (∀  hp_3, Jv_ [] hp_3 →
   ∃ Jv_1 : List Value → Hp → Prop,
   (∃ B_1 : Bool, (∃ x16_ : Int, cellsAt hp_3 b_ (0 + 1) [(Value.int .u64 x16_)] ∧
     (((decide ((9223372036854775807 : Int) ≤ x16_)) = true →
       hp_3 = hp_3 ∧ B_1 = true) ∧
      ((decide ((9223372036854775807 : Int) ≤ x16_)) = false →
       ∃ x20_ : Int, cellsAt hp_3 b_ (0 + 2) [(Value.int .u64 x20_)] ∧
       (((decide ((9223372036854775807 : Int) ≤ x20_)) = true →
         hp_3 = hp_3 ∧ B_1 = true) ∧
        ((decide ((9223372036854775807 : Int) ≤ x20_)) = false →
         hp_3 = hp_3 ∧ B_1 = (decide ((9223372036854775807 : Int) ≤ above_))))))) ∧
    ((B_1 = true →
      List.length [(Value.int .i64 (0 : Int)), (Value.int .u64 (0 : Int)), (Value.int .u64 (0 : Int)), (Value.int .i64 (0 : Int)), (Value.int .i64 (0 : Int))] = 5 ∧ (∀ c ∈ [(Value.int .i64 (0 : Int)), (Value.int .u64 (0 : Int)), (Value.int .u64 (0 : Int)), (Value.int .i64 (0 : Int)), (Value.int .i64 (0 : Int))], c.oneCell' = true) ∧ wrAt hp_3 b_1 0 5 ∧ ∀ hp_4, hp_4 = setsH hp_3 b_1 0 [(Value.int .i64 (0 : Int)), (Value.int .u64 (0 : Int)), (Value.int .u64 (0 : Int)), (Value.int .i64 (0 : Int)), (Value.int .i64 (0 : Int))] →
      ∃ resf0_1 : Int, ∃ resf1_1 : Int, ∃ resf2_1 : Int, ∃ resf3_1 : Int, ∃ resf4_1 : Int, cellsAt hp_4 b_1 0 [(Value.int .i64 resf0_1), (Value.int .u64 resf1_1), (Value.int .u64 resf2_1), (Value.int .i64 resf3_1), (Value.int .i64 resf4_1)] ∧
      R (.returned (Value.tuple #[(Value.agg #[(Value.int .i64 resf0_1), (Value.int .u64 resf1_1), (Value.int .u64 resf2_1), (Value.int .i64 resf3_1), (Value.int .i64 resf4_1)]), (Value.int .i64 (201 : Int))])) hp_4) ∧
     (B_1 = false →
      Jv_1 [] hp_3))) ∧
   (∀  hp_5, Jv_1 [] hp_5 →
    ∃ x29_ : Int, cellsAt hp_5 b_ (0 + 0) [(Value.int .i64 x29_)] ∧
    ∃ x30_, IntKind.i64.wrap ((1 : Int) - x29_) = x30_ ∧
    ∃ x32_ : Int, cellsAt hp_5 b_ (0 + 1) [(Value.int .u64 x32_)] ∧
    ∃ x33_, IntKind.u64.wrap (x32_ + (1 : Int)) = x33_ ∧
    ∃ x35_ : Int, cellsAt hp_5 b_ (0 + 2) [(Value.int .u64 x35_)] ∧
    ∃ x38_, IntKind.u64.wrap ((max x35_ above_) + (1 : Int)) = x38_ ∧
    ∃ x40f0_ : Int, ∃ x40f1_ : Int, cellsAt hp_5 b_ (0 + 3) [(Value.int .i64 x40f0_), (Value.int .i64 x40f1_)] ∧
    List.length [(Value.int .i64 x30_), (Value.int .u64 x33_), (Value.int .u64 x38_), (Value.int .i64 x40f0_), (Value.int .i64 x40f1_)] = 5 ∧ (∀ c ∈ [(Value.int .i64 x30_), (Value.int .u64 x33_), (Value.int .u64 x38_), (Value.int .i64 x40f0_), (Value.int .i64 x40f1_)], c.oneCell' = true) ∧ wrAt hp_5 b_1 0 5 ∧ ∀ hp_6, hp_6 = setsH hp_5 b_1 0 [(Value.int .i64 x30_), (Value.int .u64 x33_), (Value.int .u64 x38_), (Value.int .i64 x40f0_), (Value.int .i64 x40f1_)] →
    ∃ resf0_2 : Int, ∃ resf1_2 : Int, ∃ resf2_2 : Int, ∃ resf3_2 : Int, ∃ resf4_2 : Int, cellsAt hp_6 b_1 0 [(Value.int .i64 resf0_2), (Value.int .u64 resf1_2), (Value.int .u64 resf2_2), (Value.int .i64 resf3_2), (Value.int .i64 resf4_2)] ∧
    R (.returned (Value.tuple #[(Value.agg #[(Value.int .i64 resf0_2), (Value.int .u64 resf1_2), (Value.int .u64 resf2_2), (Value.int .i64 resf3_2), (Value.int .i64 resf4_2)]), (Value.int .i64 (0 : Int))])) hp_6))) :
  CallsH Tryz.prog 52 #[(Value.agg #[(Value.int .i64 hf0_), (Value.int .u64 hf1_), (Value.int .u64 hf2_), (Value.int .i64 hf3_), (Value.int .i64 hf4_)]), (Value.int .u64 above_)] h R := calls_vc fine false Tryz.func52 (ann := A52) (args := [(Value.agg #[(Value.int .i64 hf0_), (Value.int .u64 hf1_), (Value.int .u64 hf2_), (Value.int .i64 hf3_), (Value.int .i64 hf4_)]), (Value.int .u64 above_)]) (by kernel_rfl) (Eq.mpr (by kernel_rfl) H)
/-- (*turnout/turnoutref04.Disk).Read -/
def A53 : Ann := (.seq .nil (.seq (.seq .nil (.cond (.seq .nil .nil) .nil)) (.cut (.seq (.join 20) (.cond (.seq .nil .nil) .nil)) [] (.seq .nil (.seq .nil .nil)))))
theorem V53 (d_ : Option Addr) (n_ : Int) (h : Hp) (R : Ending → Hp → Prop) (H :
  ∃ b_ o_, d_ = some ⟨b_, o_, none⟩ ∧
  ∃ x9_ : Bool, cellsAt h b_ (o_ + 2) [(Value.bool x9_)] ∧
  ((x9_ = true →
    R (.returned (Value.tuple #[(Value.string (⟨#[]⟩ : ByteArray)), (Value.int .i64 (40 : Int))])) h) ∧
   (x9_ = false →
    ∃ Jv_ : List Value → Hp → Prop,
    (∃ B_ : Bool, ((((decide (n_ < (0 : Int))) = true →
        h = h ∧ B_ = true) ∧
       ((decide (n_ < (0 : Int))) = false →
        ∃ b_1 o_1, d_ = some ⟨b_1, o_1, none⟩ ∧
        ∃ (x17p_ : Option Addr) (x17n_ x17c_ : Nat), cellsAt h b_1 (o_1 + 0) [(Value.slice x17p_ x17n_ x17c_)] ∧
        h = h ∧ B_ = (decide (((x17n_ : Nat) : Int) ≤ n_))))) ∧
     ((B_ = true →
       R (.returned (Value.tuple #[(Value.string (⟨#[]⟩ : ByteArray)), (Value.int .i64 (41 : Int))])) h) ∧
      (B_ = false →
       Jv_ [] h))) ∧
    (∀  hp_, Jv_ [] hp_ →
     ∃ b_2 o_2, d_ = some ⟨b_2, o_2, none⟩ ∧
     ∃ x25_ : Int, cellsAt hp_ b_2 ((o_2 + 4) + 0) [(Value.int .i64 x25_)] ∧
     ∃ x26_, IntKind.i64.wrap (x25_ + (1 : Int)) = x26_ ∧
     ∃ b_3 o_3, d_ = some ⟨b_3, o_3, none⟩ ∧
     Value.oneCell' (Value.int .i64 x26_) = true ∧ wrAt hp_ b_3 ((o_3 + 4) + 0) 1 ∧ ∀ hp_1, hp_1 = setsH hp_ b_3 ((o_3 + 4) + 0) [(Value.int .i64 x26_)] →
     CallsH Tryz.prog 78 #[(Value.pointer d_), (Value.int .i64 n_)] hp_1 fun en_ hp_2 =>
     ∃ x32_ : ByteArray, en_ = .returned (Value.string x32_) ∧
     R (.returned (Value.tuple #[(Value.string x32_), (Value.int .i64 (0 : Int))])) hp_2)))) :
  CallsH Tryz.prog 53 #[(Value.pointer d_), (Value.int .i64 n_)] h R := calls_vc fine false Tryz.func53 (ann := A53) (args := [(Value.pointer d_), (Value.int .i64 n_)]) (by kernel_rfl) (Eq.mpr (by kernel_rfl) H)
/-- (*turnout/disk.Disk).Write -/
def A54 : Ann := (.seq .nil (.seq .nil (.seq (.seq .nil (.cond (.seq .nil .nil) .nil)) (.seq (.seq .nil (.cond (.seq .nil .nil) .nil)) (.seq (.seq .nil (.cond (.seq .nil .nil) .nil)) (.seq .nil (.seq (.drawLast [4]) (.seq .nil (.seq .nil (.seq .nil .nil))))))))))
theorem V54 (d_ : Option Addr) (n_ : Int) (s_ : ByteArray) (h : Hp) (R : Ending → Hp → Prop) (H :
  ∀ b_ hp_, b_ = Array.size h → hp_ = Array.push h (.cells #[(Value.int .i64 n_)] 3) →
  ∀ b_1 hp_1, b_1 = Array.size hp_ → hp_1 = Array.push hp_ (.cells #[(Value.string s_)] 9) →
  ∃ x9_ : Int, cellsAt hp_1 b_ 0 [(Value.int .i64 x9_)] ∧
  CallsH Tryz.prog 56 #[(Value.pointer d_), (Value.int .i64 x9_)] hp_1 fun en_ hp_2 =>
  ∃ x10_ : Int, en_ = .returned (Value.int .i64 x10_) ∧
  (((decide (x10_ ≠ (0 : Int))) = true →
    R (.returned (Value.int .i64 x10_)) hp_2) ∧
   ((decide (x10_ ≠ (0 : Int))) = false →
    ∃ x14_ : ByteArray, cellsAt hp_2 b_1 0 [(Value.string x14_)] ∧
    (((decide ((ByteArray.size x14_ : Int) ≠ (512 : Int))) = true →
      R (.returned (Value.int .i64 (42 : Int))) hp_2) ∧
     ((decide ((ByteArray.size x14_ : Int) ≠ (512 : Int))) = false →
      CallsH Tryz.prog 57 #[(Value.pointer d_)] hp_2 fun en_1 hp_3 =>
      ∃ x18_ : Bool, en_1 = .returned (Value.bool x18_) ∧
      (((!x18_) = true →
        R (.returned (Value.int .i64 (40 : Int))) hp_3) ∧
       ((!x18_) = false →
        ∃ b_2 o_, d_ = some ⟨b_2, o_, none⟩ ∧
        ∃ x23_ : Option Nat, cellsAt hp_3 b_2 (o_ + 1) [(Value.map x23_)] ∧
        ∃ x24_ : Int, cellsAt hp_3 b_ 0 [(Value.int .i64 x24_)] ∧
        ∃ x25_ : ByteArray, cellsAt hp_3 b_1 0 [(Value.string x25_)] ∧
        SemH Tryz.prog (Instr.mapUpdate 58 (Value.map x23_) (Value.int .i64 x24_) (Value.string x25_)) hp_3 fun _ hp_4 =>
        ∃ Cv_ : Hp → Prop, Cv_ hp_4 ∧
        ∃ b_3 o_1, d_ = some ⟨b_3, o_1, none⟩ ∧
        ∃ (x30p_ : Option Addr) (x30n_ x30c_ : Nat), (∀ h', Cv_ h' → cellsAt h' b_3 (o_1 + 2) [(Value.slice x30p_ x30n_ x30c_)]) ∧
        ∃ x31_ : Int, cellsAt hp_4 b_ 0 [(Value.int .i64 x31_)] ∧
        SemH Tryz.prog (Instr.buildSlice 59 1 #[(0, (Value.int .i64 x31_))]) hp_4 fun v_ hp_5 =>
        ∃ (x32p_ : Option Addr) (x32n_ x32c_ : Nat), v_ = (Value.slice x32p_ x32n_ x32c_) ∧
        Cv_ hp_5 ∧
        SemH Tryz.prog (Builtin.append_ #[59, 59] 59 #[(Value.slice x30p_ x30n_ x30c_), (Value.slice x32p_ x32n_ x32c_)]) hp_5 fun v_1 hp_6 =>
        ∃ (x33p_ : Option Addr) (x33n_ x33c_ : Nat), v_1 = (Value.slice x33p_ x33n_ x33c_) ∧
        Cv_ hp_6 ∧
        ∃ b_4 o_2, d_ = some ⟨b_4, o_2, none⟩ ∧
        Value.oneCell' (Value.slice x33p_ x33n_ x33c_) = true ∧ wrAt hp_6 b_4 (o_2 + 2) 1 ∧ ∀ hp_7, hp_7 = setsH hp_6 b_4 (o_2 + 2) [(Value.slice x33p_ x33n_ x33c_)] →
        ∃ b_5 o_3, d_ = some ⟨b_5, o_3, none⟩ ∧
        ∃ (x40p_ : Option Addr) (x40n_ x40c_ : Nat), cellsAt hp_7 b_5 (o_3 + 3) [(Value.slice x40p_ x40n_ x40c_)] ∧
        SemH Tryz.prog (Instr.buildSlice 60 1 #[(0, (Value.func (.func 79) #[] #[(Value.pointer (some ⟨b_1, 0, none⟩)), (Value.pointer (some ⟨b_, 0, none⟩))]))]) hp_7 fun v_2 hp_8 =>
        ∃ (x42p_ : Option Addr) (x42n_ x42c_ : Nat), v_2 = (Value.slice x42p_ x42n_ x42c_) ∧
        SemH Tryz.prog (Builtin.append_ #[60, 60] 60 #[(Value.slice x40p_ x40n_ x40c_), (Value.slice x42p_ x42n_ x42c_)]) hp_8 fun v_3 hp_9 =>
        ∃ (x43p_ : Option Addr) (x43n_ x43c_ : Nat), v_3 = (Value.slice x43p_ x43n_ x43c_) ∧
        ∃ b_6 o_4, d_ = some ⟨b_6, o_4, none⟩ ∧
        Value.oneCell' (Value.slice x43p_ x43n_ x43c_) = true ∧ wrAt hp_9 b_6 (o_4 + 3) 1 ∧ ∀ hp_10, hp_10 = setsH hp_9 b_6 (o_4 + 3) [(Value.slice x43p_ x43n_ x43c_)] →
        ∃ b_7 o_5, d_ = some ⟨b_7, o_5, none⟩ ∧
        ∃ x50_ : Int, cellsAt hp_10 b_7 ((o_5 + 6) + 1) [(Value.int .i64 x50_)] ∧
        ∃ x51_, IntKind.i64.wrap (x50_ + (1 : Int)) = x51_ ∧
        ∃ b_8 o_6, d_ = some ⟨b_8, o_6, none⟩ ∧
        Value.oneCell' (Value.int .i64 x51_) = true ∧ wrAt hp_10 b_8 ((o_6 + 6) + 1) 1 ∧ ∀ hp_11, hp_11 = setsH hp_10 b_8 ((o_6 + 6) + 1) [(Value.int .i64 x51_)] →
        R (.returned (Value.int .i64 (0 : Int))) hp_11))))))) :
  CallsH Tryz.prog 54 #[(Value.pointer d_), (Value.int .i64 n_), (Value.string s_)] h R := calls_vc fine false Tryz.func54 (ann := A54) (args := [(Value.pointer d_), (Value.int .i64 n_), (Value.string s_)]) (by kernel_rfl) (Eq.mpr (by kernel_rfl) H)
/-- (*turnout/turnoutref04.Disk).Write -/
def A55 : Ann := (.seq .nil (.seq (.seq .nil (.cond (.seq .nil .nil) .nil)) (.cut (.seq (.join 22) (.cond (.seq .nil .nil) .nil)) [] (.seq (.seq .nil (.cond (.seq .nil .nil) .nil)) (.seq .nil (.seq (.seq .nil (.cond (.seq .nil .nil) .nil)) (.seq .nil (.seq .nil (.seq .nil .nil)))))))))
theorem V55 (d_ : Option Addr) (n_ : Int) (s_ : ByteArray) (h : Hp) (R : Ending → Hp → Prop) (H :
  ∃ b_ o_, d_ = some ⟨b_, o_, none⟩ ∧
  ∃ x11_ : Bool, cellsAt h b_ (o_ + 2) [(Value.bool x11_)] ∧
  ((x11_ = true →
    R (.returned (Value.int .i64 (40 : Int))) h) ∧
   (x11_ = false →
    ∃ Jv_ : List Value → Hp → Prop,
    (∃ B_ : Bool, ((((decide (n_ < (0 : Int))) = true →
        h = h ∧ B_ = true) ∧
       ((decide (n_ < (0 : Int))) = false →
        ∃ b_1 o_1, d_ = some ⟨b_1, o_1, none⟩ ∧
        ∃ (x19p_ : Option Addr) (x19n_ x19c_ : Nat), cellsAt h b_1 (o_1 + 0) [(Value.slice x19p_ x19n_ x19c_)] ∧
        h = h ∧ B_ = (decide (((x19n_ : Nat) : Int) ≤ n_))))) ∧
     ((B_ = true →
       R (.returned (Value.int .i64 (41 : Int))) h) ∧
      (B_ = false →
       Jv_ [] h))) ∧
    (∀  hp_, Jv_ [] hp_ →
     (((decide ((ByteArray.size s_ : Int) ≠ (512 : Int))) = true →
       R (.returned (Value.int .i64 (42 : Int))) hp_) ∧
      ((decide ((ByteArray.size s_ : Int) ≠ (512 : Int))) = false →
       CallsH Tryz.prog 58 #[(Value.pointer d_)] hp_ fun en_ hp_1 =>
       ∃ x27_ : Bool, en_ = .returned (Value.bool x27_) ∧
       ((x27_ = true →
         R (.returned (Value.int .i64 (40 : Int))) hp_1) ∧
        (x27_ = false →
         ∃ b_2 o_2, d_ = some ⟨b_2, o_2, none⟩ ∧
         ∃ (x33p_ : Option Addr) (x33n_ x33c_ : Nat), cellsAt hp_1 b_2 (o_2 + 1) [(Value.slice x33p_ x33n_ x33c_)] ∧
         SemH Tryz.prog (Instr.buildSlice 65 1 #[(0, (Value.agg #[(Value.int .i64 n_), (Value.string s_)]))]) hp_1 fun v_ hp_2 =>
         ∃ (x37p_ : Option Addr) (x37n_ x37c_ : Nat), v_ = (Value.slice x37p_ x37n_ x37c_) ∧
         SemH Tryz.prog (Builtin.append_ #[65, 65] 65 #[(Value.slice x33p_ x33n_ x33c_), (Value.slice x37p_ x37n_ x37c_)]) hp_2 fun v_1 hp_3 =>
         ∃ (x38p_ : Option Addr) (x38n_ x38c_ : Nat), v_1 = (Value.slice x38p_ x38n_ x38c_) ∧
         ∃ b_3 o_3, d_ = some ⟨b_3, o_3, none⟩ ∧
         Value.oneCell' (Value.slice x38p_ x38n_ x38c_) = true ∧ wrAt hp_3 b_3 (o_3 + 1) 1 ∧ ∀ hp_4, hp_4 = setsH hp_3 b_3 (o_3 + 1) [(Value.slice x38p_ x38n_ x38c_)] →
         ∃ b_4 o_4, d_ = some ⟨b_4, o_4, none⟩ ∧
         ∃ x45_ : Int, cellsAt hp_4 b_4 ((o_4 + 4) + 1) [(Value.int .i64 x45_)] ∧
         ∃ x46_, IntKind.i64.wrap (x45_ + (1 : Int)) = x46_ ∧
         ∃ b_5 o_5, d_ = some ⟨b_5, o_5, none⟩ ∧
         Value.oneCell' (Value.int .i64 x46_) = true ∧ wrAt hp_4 b_5 ((o_5 + 4) + 1) 1 ∧ ∀ hp_5, hp_5 = setsH hp_4 b_5 ((o_5 + 4) + 1) [(Value.int .i64 x46_)] →
         R (.returned (Value.int .i64 (0 : Int))) hp_5)))))))) :
  CallsH Tryz.prog 55 #[(Value.pointer d_), (Value.int .i64 n_), (Value.string s_)] h R := calls_vc fine false Tryz.func55 (ann := A55) (args := [(Value.pointer d_), (Value.int .i64 n_), (Value.string s_)]) (by kernel_rfl) (Eq.mpr (by kernel_rfl) H)
/-- (*turnout/disk.Disk).asked -/
def A56 : Ann := (.seq .nil (.seq (.block (.seq .nil (.cond (.seq .nil .nil) (.seq .nil (.cond (.seq .nil .nil) (.seq (.join 13) (.cond (.seq .nil .nil) .nil))))))) (.seq .nil .nil)))
theorem V56 (d_ : Option Addr) (n_ : Int) (h : Hp) (R : Ending → Hp → Prop) (H :
  ∃ x7_, EqV Tryz.prog 26 (Value.pointer d_) (Value.pointer none) x7_ ∧
  ((x7_ = true →
    R (.returned (Value.int .i64 (1 : Int))) h) ∧
   (x7_ = false →
    ∃ b_ o_, d_ = some ⟨b_, o_, none⟩ ∧
    ∃ x12_ : Bool, cellsAt h b_ (o_ + 4) [(Value.bool x12_)] ∧
    ((x12_ = true →
      R (.returned (Value.int .i64 (40 : Int))) h) ∧
     (x12_ = false →
      ∃ B_ : Bool, ((((decide (n_ < (0 : Int))) = true →
         h = h ∧ B_ = true) ∧
        ((decide (n_ < (0 : Int))) = false →
         ∃ b_1 o_1, d_ = some ⟨b_1, o_1, none⟩ ∧
         ∃ (x21p_ : Option Addr) (x21n_ x21c_ : Nat), cellsAt h b_1 (o_1 + 0) [(Value.slice x21p_ x21n_ x21c_)] ∧
         h = h ∧ B_ = (decide (((x21n_ : Nat) : Int) ≤ n_))))) ∧
      ((B_ = true →
        R (.returned (Value.int .i64 (41 : Int))) h) ∧
       (B_ = false →
        R (.returned (Value.int .i64 (0 : Int))) h))))))) :
  CallsH Tryz.prog 56 #[(Value.pointer d_), (Value.int .i64 n_)] h R := calls_vc fine false Tryz.func56 (ann := A56) (args := [(Value.pointer d_), (Value.int .i64 n_)]) (by kernel_rfl) (Eq.mpr (by kernel_rfl) H)
/-- (*turnout/disk.Disk).step -/
def A57 : Ann := (.seq .nil (.seq (.seq .nil (.cond (.seq .nil .nil) .nil)) (.seq .nil (.seq .nil (.seq .nil .nil)))))
theorem V57 (d_ : Option Addr) (h : Hp) (R : Ending → Hp → Prop) (H :
  ∃ b_ o_, d_ = some ⟨b_, o_, none⟩ ∧
  ∃ x6_ : Int, cellsAt h b_ (o_ + 5) [(Value.int .i64 x6_)] ∧
  (((decide (x6_ = (0 : Int))) = true →
    R (.returned (Value.bool true)) h) ∧
   ((decide (x6_ = (0 : Int))) = false →
    ∃ b_1 o_1, d_ = some ⟨b_1, o_1, none⟩ ∧
    ∃ x11_ : Int, cellsAt h b_1 (o_1 + 5) [(Value.int .i64 x11_)] ∧
    ∃ x12_, IntKind.i64.wrap (x11_ - (1 : Int)) = x12_ ∧
    ∃ b_2 o_2, d_ = some ⟨b_2, o_2, none⟩ ∧
    Value.oneCell' (Value.int .i64 x12_) = true ∧ wrAt h b_2 (o_2 + 5) 1 ∧ ∀ hp_, hp_ = setsH h b_2 (o_2 + 5) [(Value.int .i64 x12_)] →
    ∃ b_3 o_3, d_ = some ⟨b_3, o_3, none⟩ ∧
    ∃ x19_ : Int, cellsAt hp_ b_3 (o_3 + 5) [(Value.int .i64 x19_)] ∧
    ∃ b_4 o_4, d_ = some ⟨b_4, o_4, none⟩ ∧
    Value.oneCell' (Value.bool (decide (x19_ = (0 : Int)))) = true ∧ wrAt hp_ b_4 (o_4 + 4) 1 ∧ ∀ hp_1, hp_1 = setsH hp_ b_4 (o_4 + 4) [(Value.bool (decide (x19_ = (0 : Int))))] →
    ∃ b_5 o_5, d_ = some ⟨b_5, o_5, none⟩ ∧
    ∃ x26_ : Bool, cellsAt hp_1 b_5 (o_5 + 4) [(Value.bool x26_)] ∧
    R (.returned (Value.bool (!x26_))) hp_1))) :
  CallsH Tryz.prog 57 #[(Value.pointer d_)] h R := calls_vc fine false Tryz.func57 (ann := A57) (args := [(Value.pointer d_)]) (by kernel_rfl) (Eq.mpr (by kernel_rfl) H)
/-- (*turnout/turnoutref04.Disk).step -/
def A58 : Ann := (.seq .nil (.seq (.seq .nil (.cond (.seq .nil .nil) .nil)) (.seq .nil .nil)))
theorem V58 (d_ : Option Addr) (h : Hp) (R : Ending → Hp → Prop) (H :
  ∃ b_ o_, d_ = some ⟨b_, o_, none⟩ ∧
  ∃ x6_ : Int, cellsAt h b_ (o_ + 3) [(Value.int .i64 x6_)] ∧
  (((decide ((0 : Int) < x6_)) = true →
    ∃ b_1 o_1, d_ = some ⟨b_1, o_1, none⟩ ∧
    ∃ x11_ : Int, cellsAt h b_1 (o_1 + 3) [(Value.int .i64 x11_)] ∧
    ∃ x12_, IntKind.i64.wrap (x11_ - (1 : Int)) = x12_ ∧
    ∃ b_2 o_2, d_ = some ⟨b_2, o_2, none⟩ ∧
    Value.oneCell' (Value.int .i64 x12_) = true ∧ wrAt h b_2 (o_2 + 3) 1 ∧ ∀ hp_, hp_ = setsH h b_2 (o_2 + 3) [(Value.int .i64 x12_)] →
    ∃ b_3 o_3, d_ = some ⟨b_3, o_3, none⟩ ∧
    ∃ x19_ : Int, cellsAt hp_ b_3 (o_3 + 3) [(Value.int .i64 x19_)] ∧
    ∃ b_4 o_4, d_ = some ⟨b_4, o_4, none⟩ ∧
    Value.oneCell' (Value.bool (decide (x19_ = (0 : Int)))) = true ∧ wrAt hp_ b_4 (o_4 + 2) 1 ∧ ∀ hp_1, hp_1 = setsH hp_ b_4 (o_4 + 2) [(Value.bool (decide (x19_ = (0 : Int))))] →
    ∃ b_5 o_5, d_ = some ⟨b_5, o_5, none⟩ ∧
    ∃ x26_ : Bool, cellsAt hp_1 b_5 (o_5 + 2) [(Value.bool x26_)] ∧
    R (.returned (Value.bool x26_)) hp_1) ∧
   ((decide ((0 : Int) < x6_)) = false →
    ∃ b_6 o_6, d_ = some ⟨b_6, o_6, none⟩ ∧
    ∃ x26_1 : Bool, cellsAt h b_6 (o_6 + 2) [(Value.bool x26_1)] ∧
    R (.returned (Value.bool x26_1)) h))) :
  CallsH Tryz.prog 58 #[(Value.pointer d_)] h R := calls_vc fine false Tryz.func58 (ann := A58) (args := [(Value.pointer d_)]) (by kernel_rfl) (Eq.mpr (by kernel_rfl) H)
/-- turnout/turnoutref20.taken -/
def A59 : Ann := (.seq .nil (.seq .nil (.seq (.seq .nil (.block (.loop [(4, .slice), (5, (.int .i64))] (.seq (.seq .nil (.cond .nil .nil)) (.seq (.block (.seq .nil (.seq (.seq .nil (.cond (.seq .nil .nil) .nil)) (.seq .nil (.cond .nil .nil))))) .nil))))) (.seq (.seq (.join 43) (.cond .nil .nil)) (.seq .nil .nil)))))
theorem V59 (d_ : Option Addr) (h : Hp) (R : Ending → Hp → Prop) (H :
  ∃ (Iv_ : List Value → Hp → Prop) (m_ : List Value → Hp → Nat), Iv_ [(Value.slice none 0 0), (Value.int .i64 (0 : Int))] h ∧
  (∀ (lp_ : Option Addr) (ln_ lc_ : Nat) (slot_ : Int) hp_, Iv_ [(Value.slice lp_ ln_ lc_), (Value.int .i64 slot_)] hp_ →
   (((decide (slot_ < (2 : Int))) = true →
     CallsH Tryz.prog 80 #[(Value.pointer d_), (Value.int .i64 slot_)] hp_ fun en_ hp_1 =>
     ∃ x16r0f0_ : Int, ∃ x16r0f1_ : Int, ∃ x16r0f2_ : Int, ∃ x16r0f3_ : Int, ∃ x16r0f4_ : Int, ∃ x16r0f5_ : Int, ∃ x16r0f6_ : Int, ∃ x16r1_ : Bool, ∃ x16r2_ : Int, en_ = .returned (Value.tuple #[(Value.agg #[(Value.int .i64 x16r0f0_), (Value.int .u64 x16r0f1_), (Value.int .u64 x16r0f2_), (Value.int .i64 x16r0f3_), (Value.int .i64 x16r0f4_), (Value.int .i64 x16r0f5_), (Value.int .u32 x16r0f6_)]), (Value.bool x16r1_), (Value.int .i64 x16r2_)]) ∧
     ∀ b_ hp_2, b_ = Array.size hp_1 → hp_2 = Array.push hp_1 (.cells (zeros Tryz.prog 114) 114) → (∃ i z, Tryz.prog.info? 114 = some i ∧ i.zero = some z) ∧
     List.length [(Value.int .i64 x16r0f0_), (Value.int .u64 x16r0f1_), (Value.int .u64 x16r0f2_), (Value.int .i64 x16r0f3_), (Value.int .i64 x16r0f4_), (Value.int .i64 x16r0f5_), (Value.int .u32 x16r0f6_)] = 7 ∧ (∀ c ∈ [(Value.int .i64 x16r0f0_), (Value.int .u64 x16r0f1_), (Value.int .u64 x16r0f2_), (Value.int .i64 x16r0f3_), (Value.int .i64 x16r0f4_), (Value.int .i64 x16r0f5_), (Value.int .u32 x16r0f6_)], c.oneCell' = true) ∧ wrAt hp_2 b_ 0 7 ∧ ∀ hp_3, hp_3 = setsH hp_2 b_ 0 [(Value.int .i64 x16r0f0_), (Value.int .u64 x16r0f1_), (Value.int .u64 x16r0f2_), (Value.int .i64 x16r0f3_), (Value.int .i64 x16r0f4_), (Value.int .i64 x16r0f5_), (Value.int .u32 x16r0f6_)] →
     (((decide (x16r2_ ≠ (0 : Int))) = true →
       R (.returned (Value.tuple #[(Value.slice none 0 0), (Value.int .i64 x16r2_)])) hp_3) ∧
      ((decide (x16r2_ ≠ (0 : Int))) = false →
       ((x16r1_ = true →
         ∃ x25f0_ : Int, ∃ x25f1_ : Int, ∃ x25f2_ : Int, ∃ x25f3_ : Int, ∃ x25f4_ : Int, ∃ x25f5_ : Int, ∃ x25f6_ : Int, cellsAt hp_3 b_ 0 [(Value.int .i64 x25f0_), (Value.int .u64 x25f1_), (Value.int .u64 x25f2_), (Value.int .i64 x25f3_), (Value.int .i64 x25f4_), (Value.int .i64 x25f5_), (Value.int .u32 x25f6_)] ∧
         SemH Tryz.prog (Instr.buildSlice 110 1 #[(0, (Value.agg #[(Value.int .i64 x25f0_), (Value.int .u64 x25f1_), (Value.int .u64 x25f2_), (Value.int .i64 x25f3_), (Value.int .i64 x25f4_), (Value.int .i64 x25f5_), (Value.int .u32 x25f6_)]))]) hp_3 fun v_ hp_4 =>
         ∃ (x26p_ : Option Addr) (x26n_ x26c_ : Nat), v_ = (Value.slice x26p_ x26n_ x26c_) ∧
         SemH Tryz.prog (Builtin.append_ #[110, 110] 110 #[(Value.slice lp_ ln_ lc_), (Value.slice x26p_ x26n_ x26c_)]) hp_4 fun v_1 hp_5 =>
         ∃ (x27p_ : Option Addr) (x27n_ x27c_ : Nat), v_1 = (Value.slice x27p_ x27n_ x27c_) ∧
         ∃ x12_, IntKind.i64.wrap (slot_ + (1 : Int)) = x12_ ∧
         (Iv_ [(Value.slice x27p_ x27n_ x27c_), (Value.int .i64 x12_)] hp_5 ∧ m_ [(Value.slice x27p_ x27n_ x27c_), (Value.int .i64 x12_)] hp_5 < m_ [(Value.slice lp_ ln_ lc_), (Value.int .i64 slot_)] hp_)) ∧
        (x16r1_ = false →
         ∃ x12_1, IntKind.i64.wrap (slot_ + (1 : Int)) = x12_1 ∧
         (Iv_ [(Value.slice lp_ ln_ lc_), (Value.int .i64 x12_1)] hp_3 ∧ m_ [(Value.slice lp_ ln_ lc_), (Value.int .i64 x12_1)] hp_3 < m_ [(Value.slice lp_ ln_ lc_), (Value.int .i64 slot_)] hp_)))))) ∧
    ((decide (slot_ < (2 : Int))) = false →
     ∃ B_ : Bool, ((((decide (((ln_ : Nat) : Int) = (2 : Int))) = true →
        ∃ b_1 o_, lp_ = some ⟨b_1, o_, none⟩ ∧ 0 ≤ (1 : Int) ∧ (1 : Int) < (ln_ : Int) ∧
        ∃ x36_ : Int, cellsAt hp_ b_1 (((o_ + Int.toNat (1 : Int) * 7) + 0) + 1) [(Value.int .u64 x36_)] ∧
        ∃ b_2 o_1, lp_ = some ⟨b_2, o_1, none⟩ ∧ 0 ≤ (0 : Int) ∧ (0 : Int) < (ln_ : Int) ∧
        ∃ x41_ : Int, cellsAt hp_ b_2 (((o_1 + Int.toNat (0 : Int) * 7) + 0) + 1) [(Value.int .u64 x41_)] ∧
        hp_ = hp_ ∧ B_ = (decide (x41_ < x36_))) ∧
       ((decide (((ln_ : Nat) : Int) = (2 : Int))) = false →
        hp_ = hp_ ∧ B_ = false))) ∧
     ((B_ = true →
       ∃ b_3 o_2, lp_ = some ⟨b_3, o_2, none⟩ ∧ 0 ≤ (1 : Int) ∧ (1 : Int) < (ln_ : Int) ∧
       ∃ x46f0_ : Int, ∃ x46f1_ : Int, ∃ x46f2_ : Int, ∃ x46f3_ : Int, ∃ x46f4_ : Int, ∃ x46f5_ : Int, ∃ x46f6_ : Int, cellsAt hp_ b_3 (o_2 + Int.toNat (1 : Int) * 7) [(Value.int .i64 x46f0_), (Value.int .u64 x46f1_), (Value.int .u64 x46f2_), (Value.int .i64 x46f3_), (Value.int .i64 x46f4_), (Value.int .i64 x46f5_), (Value.int .u32 x46f6_)] ∧
       ∃ b_4 o_3, lp_ = some ⟨b_4, o_3, none⟩ ∧ 0 ≤ (0 : Int) ∧ (0 : Int) < (ln_ : Int) ∧
       ∃ x49f0_ : Int, ∃ x49f1_ : Int, ∃ x49f2_ : Int, ∃ x49f3_ : Int, ∃ x49f4_ : Int, ∃ x49f5_ : Int, ∃ x49f6_ : Int, cellsAt hp_ b_4 (o_3 + Int.toNat (0 : Int) * 7) [(Value.int .i64 x49f0_), (Value.int .u64 x49f1_), (Value.int .u64 x49f2_), (Value.int .i64 x49f3_), (Value.int .i64 x49f4_), (Value.int .i64 x49f5_), (Value.int .u32 x49f6_)] ∧
       SemH Tryz.prog (Instr.buildSlice 110 2 #[(0, (Value.agg #[(Value.int .i64 x46f0_), (Value.int .u64 x46f1_), (Value.int .u64 x46f2_), (Value.int .i64 x46f3_), (Value.int .i64 x46f4_), (Value.int .i64 x46f5_), (Value.int .u32 x46f6_)])), (1, (Value.agg #[(Value.int .i64 x49f0_), (Value.int .u64 x49f1_), (Value.int .u64 x49f2_), (Value.int .i64 x49f3_), (Value.int .i64 x49f4_), (Value.int .i64 x49f5_), (Value.int .u32 x49f6_)]))]) hp_ fun v_2 hp_6 =>
       ∃ (x50p_ : Option Addr) (x50n_ x50c_ : Nat), v_2 = (Value.slice x50p_ x50n_ x50c_) ∧
       R (.returned (Value.tuple #[(Value.slice x50p_ x50n_ x50c_), (Value.int .i64 (0 : Int))])) hp_6) ∧
      (B_ = false →
       R (.returned (Value.tuple #[(Value.slice lp_ ln_ lc_), (Value.int .i64 (0 : Int))])) hp_)))))) :
  CallsH Tryz.prog 59 #[(Value.pointer d_)] h R := calls_vc fine false Tryz.func59 (ann := A59) (args := [(Value.pointer d_)]) (by kernel_rfl) (Eq.mpr (by kernel_rfl) H)
/-- turnout/turnoutref05.Get -/
def A60 : Ann := (.seq .nil (.seq .nil (.seq (.seq .nil (.cond (.seq .nil .nil) .nil)) (.seq .nil (.seq .nil .nil)))))
theorem V60 (d_ : Option Addr) (atv_ : Int) (h : Hp) (R : Ending → Hp → Prop) (H :
  ∀ b_ hp_, b_ = Array.size h → hp_ = Array.push h (.cells (zeros Tryz.prog 95) 95) → (∃ i z, Tryz.prog.info? 95 = some i ∧ i.zero = some z) ∧
  CallsH Tryz.prog 53 #[(Value.pointer d_), (Value.int .i64 atv_)] hp_ fun en_ hp_1 =>
  ∃ x13r0_ : ByteArray, ∃ x13r1_ : Int, en_ = .returned (Value.tuple #[(Value.string x13r0_), (Value.int .i64 x13r1_)]) ∧
  (((decide (x13r1_ ≠ (0 : Int))) = true →
    List.length [(Value.int .i64 (0 : Int)), (Value.int .u64 (0 : Int)), (Value.int .i64 (0 : Int)), (Value.string (⟨#[]⟩ : ByteArray))] = 4 ∧ (∀ c ∈ [(Value.int .i64 (0 : Int)), (Value.int .u64 (0 : Int)), (Value.int .i64 (0 : Int)), (Value.string (⟨#[]⟩ : ByteArray))], c.oneCell' = true) ∧ wrAt hp_1 b_ 0 4 ∧ ∀ hp_2, hp_2 = setsH hp_1 b_ 0 [(Value.int .i64 (0 : Int)), (Value.int .u64 (0 : Int)), (Value.int .i64 (0 : Int)), (Value.string (⟨#[]⟩ : ByteArray))] →
    ∃ resf0_ : Int, ∃ resf1_ : Int, ∃ resf2_ : Int, ∃ resf3_ : ByteArray, cellsAt hp_2 b_ 0 [(Value.int .i64 resf0_), (Value.int .u64 resf1_), (Value.int .i64 resf2_), (Value.string resf3_)] ∧
    R (.returned (Value.tuple #[(Value.agg #[(Value.int .i64 resf0_), (Value.int .u64 resf1_), (Value.int .i64 resf2_), (Value.string resf3_)]), (Value.int .i64 x13r1_)])) hp_2) ∧
   ((decide (x13r1_ ≠ (0 : Int))) = false →
    CallsH Tryz.prog 81 #[(Value.string x13r0_)] hp_1 fun en_1 hp_3 =>
    ∃ x22r0f0_ : Int, ∃ x22r0f1_ : Int, ∃ x22r0f2_ : Int, ∃ x22r0f3_ : ByteArray, ∃ x22r1_ : Int, ∃ x22r2_ : Int, en_1 = .returned (Value.tuple #[(Value.agg #[(Value.int .i64 x22r0f0_), (Value.int .u64 x22r0f1_), (Value.int .i64 x22r0f2_), (Value.string x22r0f3_)]), (Value.int .i64 x22r1_), (Value.int .i64 x22r2_)]) ∧
    ∀ b_1 hp_4, b_1 = Array.size hp_3 → hp_4 = Array.push hp_3 (.cells (zeros Tryz.prog 95) 95) → (∃ i z, Tryz.prog.info? 95 = some i ∧ i.zero = some z) ∧
    List.length [(Value.int .i64 x22r0f0_), (Value.int .u64 x22r0f1_), (Value.int .i64 x22r0f2_), (Value.string x22r0f3_)] = 4 ∧ (∀ c ∈ [(Value.int .i64 x22r0f0_), (Value.int .u64 x22r0f1_), (Value.int .i64 x22r0f2_), (Value.string x22r0f3_)], c.oneCell' = true) ∧ wrAt hp_4 b_1 0 4 ∧ ∀ hp_5, hp_5 = setsH hp_4 b_1 0 [(Value.int .i64 x22r0f0_), (Value.int .u64 x22r0f1_), (Value.int .i64 x22r0f2_), (Value.string x22r0f3_)] →
    ∃ x26f0_ : Int, ∃ x26f1_ : Int, ∃ x26f2_ : Int, ∃ x26f3_ : ByteArray, cellsAt hp_5 b_1 0 [(Value.int .i64 x26f0_), (Value.int .u64 x26f1_), (Value.int .i64 x26f2_), (Value.string x26f3_)] ∧
    List.length [(Value.int .i64 x26f0_), (Value.int .u64 x26f1_), (Value.int .i64 x26f2_), (Value.string x26f3_)] = 4 ∧ (∀ c ∈ [(Value.int .i64 x26f0_), (Value.int .u64 x26f1_), (Value.int .i64 x26f2_), (Value.string x26f3_)], c.oneCell' = true) ∧ wrAt hp_5 b_ 0 4 ∧ ∀ hp_6, hp_6 = setsH hp_5 b_ 0 [(Value.int .i64 x26f0_), (Value.int .u64 x26f1_), (Value.int .i64 x26f2_), (Value.string x26f3_)] →
    ∃ resf0_1 : Int, ∃ resf1_1 : Int, ∃ resf2_1 : Int, ∃ resf3_1 : ByteArray, cellsAt hp_6 b_ 0 [(Value.int .i64 resf0_1), (Value.int .u64 resf1_1), (Value.int .i64 resf2_1), (Value.string resf3_1)] ∧
    R (.returned (Value.tuple #[(Value.agg #[(Value.int .i64 resf0_1), (Value.int .u64 resf1_1), (Value.int .i64 resf2_1), (Value.string resf3_1)]), (Value.int .i64 x22r2_)])) hp_6))) :
  CallsH Tryz.prog 60 #[(Value.pointer d_), (Value.int .i64 atv_)] h R := calls_vc fine false Tryz.func60 (ann := A60) (args := [(Value.pointer d_), (Value.int .i64 atv_)]) (by kernel_rfl) (Eq.mpr (by kernel_rfl) H)
/-- turnout/turnoutref02.More -/
def A61 : Ann := (.seq .nil (.seq .nil (.seq .nil .nil)))
theorem V61 (sum_ : Int) (b_ : ByteArray) (h : Hp) (R : Ending → Hp → Prop) (H :
  CallsH Tryz.prog 83 #[(Value.int .u32 sum_)] h fun en_ hp_ =>
  ∃ x7_ : Int, en_ = .returned (Value.int .u32 x7_) ∧
  CallsH Tryz.prog 82 #[(Value.int .u32 x7_), (Value.string b_)] hp_ fun en_1 hp_1 =>
  ∃ x9_ : Int, en_1 = .returned (Value.int .u32 x9_) ∧
  CallsH Tryz.prog 83 #[(Value.int .u32 x9_)] hp_1 fun en_2 hp_2 =>
  ∃ x11_ : Int, en_2 = .returned (Value.int .u32 x11_) ∧
  R (.returned (Value.int .u32 x11_)) hp_2) :
  CallsH Tryz.prog 61 #[(Value.int .u32 sum_), (Value.string b_)] h R := calls_vc fine false Tryz.func61 (ann := A61) (args := [(Value.int .u32 sum_), (Value.string b_)]) (by kernel_rfl) (Eq.mpr (by kernel_rfl) H)
/-- (*turnout/disk.Disk).Size -/
def A62 : Ann := (.seq .nil (.seq (.seq .nil (.cond (.seq .nil .nil) .nil)) (.seq .nil .nil)))
theorem V62 (d_ : Option Addr) (h : Hp) (R : Ending → Hp → Prop) (H :
  ∃ x4_, EqV Tryz.prog 26 (Value.pointer d_) (Value.pointer none) x4_ ∧
  ((x4_ = true →
    R (.returned (Value.int .i64 (0 : Int))) h) ∧
   (x4_ = false →
    ∃ b_ o_, d_ = some ⟨b_, o_, none⟩ ∧
    ∃ (x8p_ : Option Addr) (x8n_ x8c_ : Nat), cellsAt h b_ (o_ + 0) [(Value.slice x8p_ x8n_ x8c_)] ∧
    R (.returned (Value.int .i64 ((x8n_ : Nat) : Int))) h))) :
  CallsH Tryz.prog 62 #[(Value.pointer d_)] h R := calls_vc fine false Tryz.func62 (ann := A62) (args := [(Value.pointer d_)]) (by kernel_rfl) (Eq.mpr (by kernel_rfl) H)
/-- turnout/ckpt.numbered -/
def A63 : Ann := (.seq .nil (.seq (.join 2) .nil))
theorem V63 (n_ : Int) (h : Hp) (R : Ending → Hp → Prop) (H :
  ∃ B_ : Bool, ((((decide ((1 : Int) ≤ n_)) = true →
     h = h ∧ B_ = (decide (n_ ≤ (9223372036854775807 : Int)))) ∧
    ((decide ((1 : Int) ≤ n_)) = false →
     h = h ∧ B_ = false))) ∧
  R (.returned (Value.bool B_)) h) :
  CallsH Tryz.prog 63 #[(Value.int .u64 n_)] h R := calls_vc fine false Tryz.func63 (ann := A63) (args := [(Value.int .u64 n_)]) (by kernel_rfl) (Eq.mpr (by kernel_rfl) H)
/-- turnout/pack.New -/
def A64 : Ann := (.seq .nil (.seq .nil .nil))
theorem V64  (h : Hp) (R : Ending → Hp → Prop) (H :
  ∀ b_ hp_, b_ = Array.size h → hp_ = Array.push h (.cells #[(Value.slice none 0 0), (Value.int .i64 (0 : Int))] 138) →
  R (.returned (Value.pointer (some ⟨b_, 0, none⟩))) hp_) :
  CallsH Tryz.prog 64 #[] h R := calls_vc fine false Tryz.func64 (ann := A64) (args := []) (by kernel_rfl) (Eq.mpr (by kernel_rfl) H)
/-- (*turnout/pack.Writer).Fixed -/
def A65 : Ann := (.block (.seq .nil (.cond .nil (.seq (.join 31) (.cond .nil (.seq (.join 41) (.cond .nil (.seq .nil (.block (.loop [(6, (.int .i64))] (.seq (.seq .nil (.cond .nil .nil)) (.seq (.block (.drawLast [4])) .nil))))))))))))
theorem V65 (w_ : Option Addr) (n_ : Int) (bytes_ : Int) (h : Hp) (R : Ending → Hp → Prop) (H :
  CallsH Tryz.prog 84 #[(Value.pointer w_)] h fun en_ hp_ =>
  ∃ x29_ : Bool, en_ = .returned (Value.bool x29_) ∧
  (((!x29_) = true →
    R (.returned (Value.tuple #[])) hp_) ∧
   ((!x29_) = false →
    ∃ B_ : Bool, ((((decide (bytes_ < (1 : Int))) = true →
       hp_ = hp_ ∧ B_ = true) ∧
      ((decide (bytes_ < (1 : Int))) = false →
       hp_ = hp_ ∧ B_ = (decide ((8 : Int) < bytes_))))) ∧
    ((B_ = true →
      ∃ b_ o_, w_ = some ⟨b_, o_, none⟩ ∧
      Value.oneCell' (Value.int .i64 (1 : Int)) = true ∧ wrAt hp_ b_ (o_ + 1) 1 ∧ ∀ hp_1, hp_1 = setsH hp_ b_ (o_ + 1) [(Value.int .i64 (1 : Int))] →
      R (.returned (Value.tuple #[])) hp_1) ∧
     (B_ = false →
      ∃ B_1 : Bool, ((((decide (bytes_ < (8 : Int))) = true →
         ∃ x47_, IntKind.i64.wrap ((8 : Int) * bytes_) = x47_ ∧
         0 ≤ x47_ ∧ ∃ x48_, shrI .u64 n_ x47_ = x48_ ∧
         hp_ = hp_ ∧ B_1 = (decide (x48_ ≠ (0 : Int)))) ∧
        ((decide (bytes_ < (8 : Int))) = false →
         hp_ = hp_ ∧ B_1 = false))) ∧
      ((B_1 = true →
        ∃ b_1 o_1, w_ = some ⟨b_1, o_1, none⟩ ∧
        Value.oneCell' (Value.int .i64 (11 : Int)) = true ∧ wrAt hp_ b_1 (o_1 + 1) 1 ∧ ∀ hp_2, hp_2 = setsH hp_ b_1 (o_1 + 1) [(Value.int .i64 (11 : Int))] →
        R (.returned (Value.tuple #[])) hp_2) ∧
       (B_1 = false →
        ∃ x8_, IntKind.i64.wrap (bytes_ - (1 : Int)) = x8_ ∧
        ∃ (Iv_ : List Value → Hp → Prop) (m_ : List Value → Hp → Nat), Iv_ [(Value.int .i64 x8_)] hp_ ∧
        (∀ (i_ : Int) hp_3, Iv_ [(Value.int .i64 i_)] hp_3 →
         (((decide ((0 : Int) ≤ i_)) = true →
           ∃ Cv_ : Hp → Prop, Cv_ hp_3 ∧
           ∃ b_2 o_2, w_ = some ⟨b_2, o_2, none⟩ ∧
           ∃ (x17p_ : Option Addr) (x17n_ x17c_ : Nat), (∀ h', Cv_ h' → cellsAt h' b_2 (o_2 + 0) [(Value.slice x17p_ x17n_ x17c_)]) ∧
           ∃ x20_, IntKind.i64.wrap ((8 : Int) * i_) = x20_ ∧
           0 ≤ x20_ ∧ ∃ x21_, shrI .u64 n_ x20_ = x21_ ∧
           ∃ x22_, IntKind.u8.wrap x21_ = x22_ ∧
           SemH Tryz.prog (Instr.buildSlice 56 1 #[(0, (Value.int .u8 x22_))]) hp_3 fun v_ hp_4 =>
           ∃ (x23p_ : Option Addr) (x23n_ x23c_ : Nat), v_ = (Value.slice x23p_ x23n_ x23c_) ∧
           Cv_ hp_4 ∧
           SemH Tryz.prog (Builtin.append_ #[56, 56] 56 #[(Value.slice x17p_ x17n_ x17c_), (Value.slice x23p_ x23n_ x23c_)]) hp_4 fun v_1 hp_5 =>
           ∃ (x24p_ : Option Addr) (x24n_ x24c_ : Nat), v_1 = (Value.slice x24p_ x24n_ x24c_) ∧
           Cv_ hp_5 ∧
           ∃ b_3 o_3, w_ = some ⟨b_3, o_3, none⟩ ∧
           Value.oneCell' (Value.slice x24p_ x24n_ x24c_) = true ∧ wrAt hp_5 b_3 (o_3 + 0) 1 ∧ ∀ hp_6, hp_6 = setsH hp_5 b_3 (o_3 + 0) [(Value.slice x24p_ x24n_ x24c_)] →
           ∃ x12_, IntKind.i64.wrap (i_ - (1 : Int)) = x12_ ∧
           (Iv_ [(Value.int .i64 x12_)] hp_6 ∧ m_ [(Value.int .i64 x12_)] hp_6 < m_ [(Value.int .i64 i_)] hp_3)) ∧
          ((decide ((0 : Int) ≤ i_)) = false →
           R (.returned (Value.tuple #[])) hp_3)))))))))) :
  CallsH Tryz.prog 65 #[(Value.pointer w_), (Value.int .u64 n_), (Value.int .i64 bytes_)] h R := calls_vc fine false Tryz.func65 (ann := A65) (args := [(Value.pointer w_), (Value.int .u64 n_), (Value.int .i64 bytes_)]) (by kernel_rfl) (Eq.mpr (by kernel_rfl) H)
/-- (*turnout/pack.Writer).Out -/
def A66 : Ann := (.seq .nil (.seq (.block (.seq .nil (.cond (.seq .nil .nil) (.seq .nil (.cond (.seq .nil .nil) .nil))))) (.seq .nil .nil)))
theorem V66 (w_ : Option Addr) (h : Hp) (R : Ending → Hp → Prop) (H :
  ∃ x6_, EqV Tryz.prog 118 (Value.pointer w_) (Value.pointer none) x6_ ∧
  ((x6_ = true →
    R (.returned (Value.tuple #[(Value.string (⟨#[]⟩ : ByteArray)), (Value.int .i64 (1 : Int))])) h) ∧
   (x6_ = false →
    ∃ b_ o_, w_ = some ⟨b_, o_, none⟩ ∧
    ∃ x11_ : Int, cellsAt h b_ (o_ + 1) [(Value.int .i64 x11_)] ∧
    (((decide (x11_ ≠ (0 : Int))) = true →
      ∃ b_1 o_1, w_ = some ⟨b_1, o_1, none⟩ ∧
      ∃ x16_ : Int, cellsAt h b_1 (o_1 + 1) [(Value.int .i64 x16_)] ∧
      R (.returned (Value.tuple #[(Value.string (⟨#[]⟩ : ByteArray)), (Value.int .i64 x16_)])) h) ∧
     ((decide (x11_ ≠ (0 : Int))) = false →
      ∃ b_2 o_2, w_ = some ⟨b_2, o_2, none⟩ ∧
      ∃ (x20p_ : Option Addr) (x20n_ x20c_ : Nat), cellsAt h b_2 (o_2 + 0) [(Value.slice x20p_ x20n_ x20c_)] ∧
      SemH Tryz.prog (convert 56 9 (Value.slice x20p_ x20n_ x20c_)) h fun v_ hp_ =>
      ∃ x21_ : ByteArray, v_ = (Value.string x21_) ∧
      R (.returned (Value.tuple #[(Value.string x21_), (Value.int .i64 (0 : Int))])) hp_))))) :
  CallsH Tryz.prog 66 #[(Value.pointer w_)] h R := calls_vc fine false Tryz.func66 (ann := A66) (args := [(Value.pointer w_)]) (by kernel_rfl) (Eq.mpr (by kernel_rfl) H)
/-- turnout/frame.refused -/
def A67 : Ann := (.seq .nil (.seq (.seq (.join 20) (.cond (.seq .nil .nil) .nil)) (.seq (.seq .nil (.cond (.seq .nil .nil) .nil)) (.seq .nil .nil))))
theorem V67 (ff0_ : Int) (ff1_ : Int) (ff2_ : Int) (ff3_ : ByteArray) (h : Hp) (R : Ending → Hp → Prop) (H :
  ∀ b_ hp_, b_ = Array.size h → hp_ = Array.push h (.cells #[(Value.int .i64 ff0_), (Value.int .u64 ff1_), (Value.int .i64 ff2_), (Value.string ff3_)] 95) →
  ∃ B_ : Bool, (∃ x4_ : Int, cellsAt hp_ b_ (0 + 0) [(Value.int .i64 x4_)] ∧
   (((decide (x4_ < (1 : Int))) = true →
     hp_ = hp_ ∧ B_ = true) ∧
    ((decide (x4_ < (1 : Int))) = false →
     ∃ x8_ : Int, cellsAt hp_ b_ (0 + 0) [(Value.int .i64 x8_)] ∧
     (((decide ((255 : Int) < x8_)) = true →
       hp_ = hp_ ∧ B_ = true) ∧
      ((decide ((255 : Int) < x8_)) = false →
       ∃ x13_ : Int, cellsAt hp_ b_ (0 + 2) [(Value.int .i64 x13_)] ∧
       (((decide (x13_ < (0 : Int))) = true →
         hp_ = hp_ ∧ B_ = true) ∧
        ((decide (x13_ < (0 : Int))) = false →
         ∃ x18_ : Int, cellsAt hp_ b_ (0 + 2) [(Value.int .i64 x18_)] ∧
         hp_ = hp_ ∧ B_ = (decide ((2147483647 : Int) < x18_))))))))) ∧
  ((B_ = true →
    R (.returned (Value.int .i64 (1 : Int))) hp_) ∧
   (B_ = false →
    ∃ x22_ : ByteArray, cellsAt hp_ b_ (0 + 3) [(Value.string x22_)] ∧
    (((decide ((491 : Int) < (ByteArray.size x22_ : Int))) = true →
      R (.returned (Value.int .i64 (2 : Int))) hp_) ∧
     ((decide ((491 : Int) < (ByteArray.size x22_ : Int))) = false →
      R (.returned (Value.int .i64 (0 : Int))) hp_))))) :
  CallsH Tryz.prog 67 #[(Value.agg #[(Value.int .i64 ff0_), (Value.int .u64 ff1_), (Value.int .i64 ff2_), (Value.string ff3_)])] h R := calls_vc fine false Tryz.func67 (ann := A67) (args := [(Value.agg #[(Value.int .i64 ff0_), (Value.int .u64 ff1_), (Value.int .i64 ff2_), (Value.string ff3_)])]) (by kernel_rfl) (Eq.mpr (by kernel_rfl) H)
/-- (*turnout/disk.Disk).Read -/
def A68 : Ann := (.seq .nil (.seq .nil (.seq (.seq .nil (.cond (.seq .nil .nil) .nil)) (.seq .nil (.seq (.seq .nil (.seq .nil (.cond (.seq .nil .nil) .nil))) (.seq .nil .nil))))))
theorem V68 (d_ : Option Addr) (n_ : Int) (h : Hp) (R : Ending → Hp → Prop) (H :
  CallsH Tryz.prog 56 #[(Value.pointer d_), (Value.int .i64 n_)] h fun en_ hp_ =>
  ∃ x11_ : Int, en_ = .returned (Value.int .i64 x11_) ∧
  (((decide (x11_ ≠ (0 : Int))) = true →
    R (.returned (Value.tuple #[(Value.string (⟨#[]⟩ : ByteArray)), (Value.int .i64 x11_)])) hp_) ∧
   ((decide (x11_ ≠ (0 : Int))) = false →
    ∃ b_ o_, d_ = some ⟨b_, o_, none⟩ ∧
    ∃ x19_ : Int, cellsAt hp_ b_ ((o_ + 6) + 0) [(Value.int .i64 x19_)] ∧
    ∃ x20_, IntKind.i64.wrap (x19_ + (1 : Int)) = x20_ ∧
    ∃ b_1 o_1, d_ = some ⟨b_1, o_1, none⟩ ∧
    Value.oneCell' (Value.int .i64 x20_) = true ∧ wrAt hp_ b_1 ((o_1 + 6) + 0) 1 ∧ ∀ hp_1, hp_1 = setsH hp_ b_1 ((o_1 + 6) + 0) [(Value.int .i64 x20_)] →
    ∃ b_2 o_2, d_ = some ⟨b_2, o_2, none⟩ ∧
    ∃ x28_ : Option Nat, cellsAt hp_1 b_2 (o_2 + 1) [(Value.map x28_)] ∧
    SemH Tryz.prog (Instr.lookup 58 (Value.map x28_) (Value.int .i64 n_) true) hp_1 fun v_ hp_2 =>
    ∃ x30r0_ : ByteArray, ∃ x30r1_ : Bool, v_ = (Value.tuple #[(Value.string x30r0_), (Value.bool x30r1_)]) ∧
    ((x30r1_ = true →
      R (.returned (Value.tuple #[(Value.string x30r0_), (Value.int .i64 (0 : Int))])) hp_2) ∧
     (x30r1_ = false →
      ∃ b_3 o_3, d_ = some ⟨b_3, o_3, none⟩ ∧
      ∃ (x38p_ : Option Addr) (x38n_ x38c_ : Nat), cellsAt hp_2 b_3 (o_3 + 0) [(Value.slice x38p_ x38n_ x38c_)] ∧
      ∃ b_4 o_4, x38p_ = some ⟨b_4, o_4, none⟩ ∧ 0 ≤ n_ ∧ n_ < (x38n_ : Int) ∧
      ∃ x41_ : ByteArray, cellsAt hp_2 b_4 (o_4 + Int.toNat n_ * 1) [(Value.string x41_)] ∧
      R (.returned (Value.tuple #[(Value.string x41_), (Value.int .i64 (0 : Int))])) hp_2))))) :
  CallsH Tryz.prog 68 #[(Value.pointer d_), (Value.int .i64 n_)] h R := calls_vc fine false Tryz.func68 (ann := A68) (args := [(Value.pointer d_), (Value.int .i64 n_)]) (by kernel_rfl) (Eq.mpr (by kernel_rfl) H)
/-- turnout/frame.Seal -/
def A69 : Ann := (.seq .nil (.cut (.seq (.join 15) (.cond (.seq .nil .nil) .nil)) [] (.seq (.seq .nil (.seq .nil (.cond (.seq .nil .nil) .nil))) (.seq .nil (.seq .nil (.seq .nil (.seq .nil (.seq .nil (.seq .nil (.seq .nil (.seq .nil (.seq (.seq .nil (.block (.loop [(51, (.int .i64))] (.seq .nil (.seq (.cond .nil .nil) (.seq (.block (.seq .nil .nil)) .nil)))))) (.seq .nil (.seq .nil .nil))))))))))))))
theorem V69 (ff0_ : Int) (ff1_ : Int) (ff2_ : Int) (ff3_ : ByteArray) (mark_ : Int) (h : Hp) (R : Ending → Hp → Prop) (H :
  ∀ b_ hp_, b_ = Array.size h → hp_ = Array.push h (.cells #[(Value.int .i64 ff0_), (Value.int .u64 ff1_), (Value.int .i64 ff2_), (Value.string ff3_)] 95) →
  ∃ Jv_ : List Value → Hp → Prop,
  (∃ B_ : Bool, ((((decide (mark_ < (0 : Int))) = true →
      hp_ = hp_ ∧ B_ = true) ∧
     ((decide (mark_ < (0 : Int))) = false →
      hp_ = hp_ ∧ B_ = (decide ((255 : Int) < mark_))))) ∧
   ((B_ = true →
     R (.returned (Value.tuple #[(Value.string (⟨#[]⟩ : ByteArray)), (Value.int .i64 (1 : Int))])) hp_) ∧
    (B_ = false →
     Jv_ [] hp_))) ∧
  (∀  hp_1, Jv_ [] hp_1 →
   ∃ x16f0_ : Int, ∃ x16f1_ : Int, ∃ x16f2_ : Int, ∃ x16f3_ : ByteArray, cellsAt hp_1 b_ 0 [(Value.int .i64 x16f0_), (Value.int .u64 x16f1_), (Value.int .i64 x16f2_), (Value.string x16f3_)] ∧
   CallsH Tryz.prog 67 #[(Value.agg #[(Value.int .i64 x16f0_), (Value.int .u64 x16f1_), (Value.int .i64 x16f2_), (Value.string x16f3_)])] hp_1 fun en_ hp_2 =>
   ∃ x17_ : Int, en_ = .returned (Value.int .i64 x17_) ∧
   (((decide (x17_ ≠ (0 : Int))) = true →
     R (.returned (Value.tuple #[(Value.string (⟨#[]⟩ : ByteArray)), (Value.int .i64 x17_)])) hp_2) ∧
    ((decide (x17_ ≠ (0 : Int))) = false →
     ∀ b_1 hp_3, b_1 = Array.size hp_2 → hp_3 = Array.push hp_2 (.cells (zeros Tryz.prog 140) 140) → (∃ i z, Tryz.prog.info? 140 = some i ∧ i.zero = some z) ∧
     ∃ x22_, IntKind.u8.wrap mark_ = x22_ ∧
     0 ≤ (0 : Int) ∧ (0 : Int) < ((512 : Nat) : Int) ∧
     Value.oneCell' (Value.int .u8 x22_) = true ∧ wrAt hp_3 b_1 (0 + Int.toNat (0 : Int) * 1) 1 ∧ ∀ hp_4, hp_4 = setsH hp_3 b_1 (0 + Int.toNat (0 : Int) * 1) [(Value.int .u8 x22_)] →
     ∃ x25_ : Int, cellsAt hp_4 b_ (0 + 0) [(Value.int .i64 x25_)] ∧
     ∃ x26_, IntKind.u8.wrap x25_ = x26_ ∧
     0 ≤ (1 : Int) ∧ (1 : Int) < ((512 : Nat) : Int) ∧
     Value.oneCell' (Value.int .u8 x26_) = true ∧ wrAt hp_4 b_1 (0 + Int.toNat (1 : Int) * 1) 1 ∧ ∀ hp_5, hp_5 = setsH hp_4 b_1 (0 + Int.toNat (1 : Int) * 1) [(Value.int .u8 x26_)] →
     ∃ l_ : Nat, (2 : Int) = (l_ : Int) ∧
     ∃ u_ : Nat, (10 : Int) = (u_ : Int) ∧
     l_ ≤ u_ ∧ u_ ≤ 512 ∧ ∃ x28p_, cutP (some ⟨b_1, 0, none⟩) 512 l_ 1 = x28p_ ∧
     ∃ x30_ : Int, cellsAt hp_5 b_ (0 + 1) [(Value.int .u64 x30_)] ∧
     CallsH Tryz.prog 85 #[(Value.slice x28p_ (u_ - l_) (512 - l_)), (Value.int .u64 x30_)] hp_5 fun en_1 hp_6 =>
     en_1 = .returned (Value.tuple #[]) ∧
     ∃ l_1 : Nat, (10 : Int) = (l_1 : Int) ∧
     ∃ u_1 : Nat, (14 : Int) = (u_1 : Int) ∧
     l_1 ≤ u_1 ∧ u_1 ≤ 512 ∧ ∃ x32p_, cutP (some ⟨b_1, 0, none⟩) 512 l_1 1 = x32p_ ∧
     ∃ x34_ : Int, cellsAt hp_6 b_ (0 + 2) [(Value.int .i64 x34_)] ∧
     ∃ x35_, IntKind.u64.wrap x34_ = x35_ ∧
     CallsH Tryz.prog 85 #[(Value.slice x32p_ (u_1 - l_1) (512 - l_1)), (Value.int .u64 x35_)] hp_6 fun en_2 hp_7 =>
     en_2 = .returned (Value.tuple #[]) ∧
     ∃ l_2 : Nat, (14 : Int) = (l_2 : Int) ∧
     ∃ u_2 : Nat, (16 : Int) = (u_2 : Int) ∧
     l_2 ≤ u_2 ∧ u_2 ≤ 512 ∧ ∃ x37p_, cutP (some ⟨b_1, 0, none⟩) 512 l_2 1 = x37p_ ∧
     ∃ x39_ : ByteArray, cellsAt hp_7 b_ (0 + 3) [(Value.string x39_)] ∧
     ∃ x41_, IntKind.u64.wrap (ByteArray.size x39_ : Int) = x41_ ∧
     CallsH Tryz.prog 85 #[(Value.slice x37p_ (u_2 - l_2) (512 - l_2)), (Value.int .u64 x41_)] hp_7 fun en_3 hp_8 =>
     en_3 = .returned (Value.tuple #[]) ∧
     ∃ l_3 : Nat, (16 : Int) = (l_3 : Int) ∧
     l_3 ≤ 512 ∧ 512 ≤ 512 ∧ ∃ x43p_, cutP (some ⟨b_1, 0, none⟩) 512 l_3 1 = x43p_ ∧
     ∃ x45_ : ByteArray, cellsAt hp_8 b_ (0 + 3) [(Value.string x45_)] ∧
     SemH Tryz.prog (Builtin.copy_ #[56, 9] 3 #[(Value.slice x43p_ (512 - l_3) (512 - l_3)), (Value.string x45_)]) hp_8 fun v_ hp_9 =>
     ∃ x46_ : Int, v_ = (Value.int .i64 x46_) ∧
     ∃ l_4 : Nat, (1 : Int) = (l_4 : Int) ∧
     ∃ u_3 : Nat, (507 : Int) = (u_3 : Int) ∧
     l_4 ≤ u_3 ∧ u_3 ≤ 512 ∧ ∃ x47p_, cutP (some ⟨b_1, 0, none⟩) 512 l_4 1 = x47p_ ∧
     SemH Tryz.prog (convert 56 9 (Value.slice x47p_ (u_3 - l_4) (512 - l_4))) hp_9 fun v_1 hp_10 =>
     ∃ x48_ : ByteArray, v_1 = (Value.string x48_) ∧
     SemH Tryz.prog (Instr.buildSlice 57 1 #[(0, (Value.string x48_))]) hp_10 fun v_2 hp_11 =>
     ∃ (x49p_ : Option Addr) (x49n_ x49c_ : Nat), v_2 = (Value.slice x49p_ x49n_ x49c_) ∧
     CallsH Tryz.prog 49 #[(Value.slice x49p_ x49n_ x49c_)] hp_11 fun en_4 hp_12 =>
     ∃ x50_ : Int, en_4 = .returned (Value.int .u32 x50_) ∧
     ∃ (Iv_ : List Value → Hp → Prop) (m_ : List Value → Hp → Nat), Iv_ [(Value.int .i64 (0 : Int))] hp_12 ∧
     (∀ (x51_ : Int) hp_13, Iv_ [(Value.int .i64 x51_)] hp_13 →
      (((decide (x51_ < (4 : Int))) = true →
        ∃ x55_, IntKind.i64.wrap ((507 : Int) + x51_) = x55_ ∧
        ∃ x58_, IntKind.i64.wrap ((8 : Int) * x51_) = x58_ ∧
        0 ≤ x58_ ∧ ∃ x59_, shrI .u32 x50_ x58_ = x59_ ∧
        ∃ x60_, IntKind.u8.wrap x59_ = x60_ ∧
        0 ≤ x55_ ∧ x55_ < ((512 : Nat) : Int) ∧
        Value.oneCell' (Value.int .u8 x60_) = true ∧ wrAt hp_13 b_1 (0 + Int.toNat x55_ * 1) 1 ∧ ∀ hp_14, hp_14 = setsH hp_13 b_1 (0 + Int.toNat x55_ * 1) [(Value.int .u8 x60_)] →
        ∃ x62_, IntKind.i64.wrap (x51_ + (1 : Int)) = x62_ ∧
        (Iv_ [(Value.int .i64 x62_)] hp_14 ∧ m_ [(Value.int .i64 x62_)] hp_14 < m_ [(Value.int .i64 x51_)] hp_13)) ∧
       ((decide (x51_ < (4 : Int))) = false →
        ∃ x64_, IntKind.u8.wrap mark_ = x64_ ∧
        0 ≤ (511 : Int) ∧ (511 : Int) < ((512 : Nat) : Int) ∧
        Value.oneCell' (Value.int .u8 x64_) = true ∧ wrAt hp_13 b_1 (0 + Int.toNat (511 : Int) * 1) 1 ∧ ∀ hp_15, hp_15 = setsH hp_13 b_1 (0 + Int.toNat (511 : Int) * 1) [(Value.int .u8 x64_)] →
        0 ≤ 512 ∧ 512 ≤ 512 ∧ ∃ x66p_, cutP (some ⟨b_1, 0, none⟩) 512 0 1 = x66p_ ∧
        SemH Tryz.prog (convert 56 9 (Value.slice x66p_ (512 - 0) (512 - 0))) hp_15 fun v_3 hp_16 =>
        ∃ x67_ : ByteArray, v_3 = (Value.string x67_) ∧
        R (.returned (Value.tuple #[(Value.string x67_), (Value.int .i64 (0 : Int))])) hp_16))))))) :
  CallsH Tryz.prog 69 #[(Value.agg #[(Value.int .i64 ff0_), (Value.int .u64 ff1_), (Value.int .i64 ff2_), (Value.string ff3_)]), (Value.int .i64 mark_)] h R := calls_vc fine false Tryz.func69 (ann := A69) (args := [(Value.agg #[(Value.int .i64 ff0_), (Value.int .u64 ff1_), (Value.int .i64 ff2_), (Value.string ff3_)]), (Value.int .i64 mark_)]) (by kernel_rfl) (Eq.mpr (by kernel_rfl) H)
/-- turnout/ckpt.take -/
def A70 : Ann := (.seq .nil (.seq .nil (.seq (.seq .nil (.cond (.seq .nil .nil) .nil)) (.cut (.seq (.join 43) (.cond (.seq .nil .nil) .nil)) [] (.seq .nil (.seq .nil (.seq .nil (.seq .nil (.seq .nil (.seq .nil (.seq (.drawLast [15]) (.seq .nil .nil))))))))))))
theorem V70 (d_ : Option Addr) (slot_ : Int) (h : Hp) (R : Ending → Hp → Prop) (H :
  ∀ b_ hp_, b_ = Array.size h → hp_ = Array.push h (.cells (zeros Tryz.prog 101) 101) → (∃ i z, Tryz.prog.info? 101 = some i ∧ i.zero = some z) ∧
  CallsH Tryz.prog 48 #[(Value.pointer d_), (Value.int .i64 slot_)] hp_ fun en_ hp_1 =>
  ∃ x18r0f0_ : Int, ∃ x18r0f1_ : Int, ∃ x18r0f2_ : Int, ∃ x18r0f3_ : ByteArray, ∃ x18r1_ : Int, en_ = .returned (Value.tuple #[(Value.agg #[(Value.int .i64 x18r0f0_), (Value.int .u64 x18r0f1_), (Value.int .i64 x18r0f2_), (Value.string x18r0f3_)]), (Value.int .i64 x18r1_)]) ∧
  ∀ b_1 hp_2, b_1 = Array.size hp_1 → hp_2 = Array.push hp_1 (.cells (zeros Tryz.prog 95) 95) → (∃ i z, Tryz.prog.info? 95 = some i ∧ i.zero = some z) ∧
  List.length [(Value.int .i64 x18r0f0_), (Value.int .u64 x18r0f1_), (Value.int .i64 x18r0f2_), (Value.string x18r0f3_)] = 4 ∧ (∀ c ∈ [(Value.int .i64 x18r0f0_), (Value.int .u64 x18r0f1_), (Value.int .i64 x18r0f2_), (Value.string x18r0f3_)], c.oneCell' = true) ∧ wrAt hp_2 b_1 0 4 ∧ ∀ hp_3, hp_3 = setsH hp_2 b_1 0 [(Value.int .i64 x18r0f0_), (Value.int .u64 x18r0f1_), (Value.int .i64 x18r0f2_), (Value.string x18r0f3_)] →
  (((decide (x18r1_ = (40 : Int))) = true →
    List.length [(Value.int .i64 (0 : Int)), (Value.int .u64 (0 : Int)), (Value.int .u64 (0 : Int)), (Value.int .i64 (0 : Int)), (Value.int .i64 (0 : Int)), (Value.int .i64 (0 : Int)), (Value.int .u32 (0 : Int))] = 7 ∧ (∀ c ∈ [(Value.int .i64 (0 : Int)), (Value.int .u64 (0 : Int)), (Value.int .u64 (0 : Int)), (Value.int .i64 (0 : Int)), (Value.int .i64 (0 : Int)), (Value.int .i64 (0 : Int)), (Value.int .u32 (0 : Int))], c.oneCell' = true) ∧ wrAt hp_3 b_ 0 7 ∧ ∀ hp_4, hp_4 = setsH hp_3 b_ 0 [(Value.int .i64 (0 : Int)), (Value.int .u64 (0 : Int)), (Value.int .u64 (0 : Int)), (Value.int .i64 (0 : Int)), (Value.int .i64 (0 : Int)), (Value.int .i64 (0 : Int)), (Value.int .u32 (0 : Int))] →
    ∃ resf0_ : Int, ∃ resf1_ : Int, ∃ resf2_ : Int, ∃ resf3_ : Int, ∃ resf4_ : Int, ∃ resf5_ : Int, ∃ resf6_ : Int, cellsAt hp_4 b_ 0 [(Value.int .i64 resf0_), (Value.int .u64 resf1_), (Value.int .u64 resf2_), (Value.int .i64 resf3_), (Value.int .i64 resf4_), (Value.int .i64 resf5_), (Value.int .u32 resf6_)] ∧
    R (.returned (Value.tuple #[(Value.agg #[(Value.int .i64 resf0_), (Value.int .u64 resf1_), (Value.int .u64 resf2_), (Value.int .i64 resf3_), (Value.int .i64 resf4_), (Value.int .i64 resf5_), (Value.int .u32 resf6_)]), (Value.bool false), (Value.int .i64 x18r1_)])) hp_4) ∧
   ((decide (x18r1_ = (40 : Int))) = false →
    ∃ Jv_ : List Value → Hp → Prop,
    (∃ B_ : Bool, ((((decide (x18r1_ ≠ (0 : Int))) = true →
        hp_3 = hp_3 ∧ B_ = true) ∧
       ((decide (x18r1_ ≠ (0 : Int))) = false →
        ∃ x29_ : Int, cellsAt hp_3 b_1 (0 + 0) [(Value.int .i64 x29_)] ∧
        (((decide (x29_ ≠ (1 : Int))) = true →
          hp_3 = hp_3 ∧ B_ = true) ∧
         ((decide (x29_ ≠ (1 : Int))) = false →
          ∃ x34_ : Int, cellsAt hp_3 b_1 (0 + 2) [(Value.int .i64 x34_)] ∧
          (((decide (x34_ ≠ slot_)) = true →
            hp_3 = hp_3 ∧ B_ = true) ∧
           ((decide (x34_ ≠ slot_)) = false →
            ∃ x40_ : ByteArray, cellsAt hp_3 b_1 (0 + 3) [(Value.string x40_)] ∧
            hp_3 = hp_3 ∧ B_ = (decide ((ByteArray.size x40_ : Int) ≠ (20 : Int)))))))))) ∧
     ((B_ = true →
       List.length [(Value.int .i64 (0 : Int)), (Value.int .u64 (0 : Int)), (Value.int .u64 (0 : Int)), (Value.int .i64 (0 : Int)), (Value.int .i64 (0 : Int)), (Value.int .i64 (0 : Int)), (Value.int .u32 (0 : Int))] = 7 ∧ (∀ c ∈ [(Value.int .i64 (0 : Int)), (Value.int .u64 (0 : Int)), (Value.int .u64 (0 : Int)), (Value.int .i64 (0 : Int)), (Value.int .i64 (0 : Int)), (Value.int .i64 (0 : Int)), (Value.int .u32 (0 : Int))], c.oneCell' = true) ∧ wrAt hp_3 b_ 0 7 ∧ ∀ hp_5, hp_5 = setsH hp_3 b_ 0 [(Value.int .i64 (0 : Int)), (Value.int .u64 (0 : Int)), (Value.int .u64 (0 : Int)), (Value.int .i64 (0 : Int)), (Value.int .i64 (0 : Int)), (Value.int .i64 (0 : Int)), (Value.int .u32 (0 : Int))] →
       ∃ resf0_1 : Int, ∃ resf1_1 : Int, ∃ resf2_1 : Int, ∃ resf3_1 : Int, ∃ resf4_1 : Int, ∃ resf5_1 : Int, ∃ resf6_1 : Int, cellsAt hp_5 b_ 0 [(Value.int .i64 resf0_1), (Value.int .u64 resf1_1), (Value.int .u64 resf2_1), (Value.int .i64 resf3_1), (Value.int .i64 resf4_1), (Value.int .i64 resf5_1), (Value.int .u32 resf6_1)] ∧
       R (.returned (Value.tuple #[(Value.agg #[(Value.int .i64 resf0_1), (Value.int .u64 resf1_1), (Value.int .u64 resf2_1), (Value.int .i64 resf3_1), (Value.int .i64 resf4_1), (Value.int .i64 resf5_1), (Value.int .u32 resf6_1)]), (Value.bool false), (Value.int .i64 (0 : Int))])) hp_5) ∧
      (B_ = false →
       Jv_ [] hp_3))) ∧
    (∀  hp_6, Jv_ [] hp_6 →
     ∃ x46_ : ByteArray, cellsAt hp_6 b_1 (0 + 3) [(Value.string x46_)] ∧
     CallsH Tryz.prog 86 #[(Value.string x46_)] hp_6 fun en_1 hp_7 =>
     ∃ x47_ : Option Addr, en_1 = .returned (Value.pointer x47_) ∧
     CallsH Tryz.prog 87 #[(Value.pointer x47_), (Value.int .i64 (8 : Int))] hp_7 fun en_2 hp_8 =>
     ∃ x49_ : Int, en_2 = .returned (Value.int .u64 x49_) ∧
     CallsH Tryz.prog 62 #[(Value.pointer d_)] hp_8 fun en_3 hp_9 =>
     ∃ x52_ : Int, en_3 = .returned (Value.int .i64 x52_) ∧
     CallsH Tryz.prog 87 #[(Value.pointer x47_), (Value.int .i64 (4 : Int))] hp_9 fun en_4 hp_10 =>
     ∃ x54_ : Int, en_4 = .returned (Value.int .u64 x54_) ∧
     ∃ x55_, IntKind.i64.wrap x54_ = x55_ ∧
     CallsH Tryz.prog 13 #[(Value.int .i64 x52_), (Value.int .i64 x55_)] hp_10 fun en_5 hp_11 =>
     ∃ x56r0f0_ : Int, ∃ x56r0f1_ : Int, ∃ x56r1_ : Int, en_5 = .returned (Value.tuple #[(Value.agg #[(Value.int .i64 x56r0f0_), (Value.int .i64 x56r0f1_)]), (Value.int .i64 x56r1_)]) ∧
     ∀ b_2 hp_12, b_2 = Array.size hp_11 → hp_12 = Array.push hp_11 (.cells (zeros Tryz.prog 37) 37) → (∃ i z, Tryz.prog.info? 37 = some i ∧ i.zero = some z) ∧
     List.length [(Value.int .i64 x56r0f0_), (Value.int .i64 x56r0f1_)] = 2 ∧ (∀ c ∈ [(Value.int .i64 x56r0f0_), (Value.int .i64 x56r0f1_)], c.oneCell' = true) ∧ wrAt hp_12 b_2 0 2 ∧ ∀ hp_13, hp_13 = setsH hp_12 b_2 0 [(Value.int .i64 x56r0f0_), (Value.int .i64 x56r0f1_)] →
     ∃ x61_ : Int, cellsAt hp_13 b_1 (0 + 1) [(Value.int .u64 x61_)] ∧
     ∃ x63f0_ : Int, ∃ x63f1_ : Int, cellsAt hp_13 b_2 0 [(Value.int .i64 x63f0_), (Value.int .i64 x63f1_)] ∧
     ∀ b_3 hp_14, b_3 = Array.size hp_13 → hp_14 = Array.push hp_13 (.cells (zeros Tryz.prog 101) 101) → (∃ i z, Tryz.prog.info? 101 = some i ∧ i.zero = some z) ∧
     List.length [(Value.int .i64 slot_), (Value.int .u64 x61_), (Value.int .u64 x49_), (Value.int .i64 x63f0_), (Value.int .i64 x63f1_), (Value.int .i64 (0 : Int)), (Value.int .u32 (0 : Int))] = 7 ∧ (∀ c ∈ [(Value.int .i64 slot_), (Value.int .u64 x61_), (Value.int .u64 x49_), (Value.int .i64 x63f0_), (Value.int .i64 x63f1_), (Value.int .i64 (0 : Int)), (Value.int .u32 (0 : Int))], c.oneCell' = true) ∧ wrAt hp_14 b_3 0 7 ∧ ∀ hp_15, hp_15 = setsH hp_14 b_3 0 [(Value.int .i64 slot_), (Value.int .u64 x61_), (Value.int .u64 x49_), (Value.int .i64 x63f0_), (Value.int .i64 x63f1_), (Value.int .i64 (0 : Int)), (Value.int .u32 (0 : Int))] →
     CallsH Tryz.prog 87 #[(Value.pointer x47_), (Value.int .i64 (4 : Int))] hp_15 fun en_6 hp_16 =>
     ∃ x67_ : Int, en_6 = .returned (Value.int .u64 x67_) ∧
     ∃ x68_, IntKind.i64.wrap x67_ = x68_ ∧
     Value.oneCell' (Value.int .i64 x68_) = true ∧ wrAt hp_16 b_3 (0 + 5) 1 ∧ ∀ hp_17, hp_17 = setsH hp_16 b_3 (0 + 5) [(Value.int .i64 x68_)] →
     CallsH Tryz.prog 87 #[(Value.pointer x47_), (Value.int .i64 (4 : Int))] hp_17 fun en_7 hp_18 =>
     ∃ x71_ : Int, en_7 = .returned (Value.int .u64 x71_) ∧
     ∃ x72_, IntKind.u32.wrap x71_ = x72_ ∧
     Value.oneCell' (Value.int .u32 x72_) = true ∧ wrAt hp_18 b_3 (0 + 6) 1 ∧ ∀ hp_19, hp_19 = setsH hp_18 b_3 (0 + 6) [(Value.int .u32 x72_)] →
     ∃ Cv_ : Hp → Prop, Cv_ hp_19 ∧
     (((decide (x56r1_ = (0 : Int))) = true →
       ∃ x79f0_ : Int, ∃ x79f1_ : Int, ∃ x79f2_ : Int, ∃ x79f3_ : Int, ∃ x79f4_ : Int, cellsAt hp_19 b_3 (0 + 0) [(Value.int .i64 x79f0_), (Value.int .u64 x79f1_), (Value.int .u64 x79f2_), (Value.int .i64 x79f3_), (Value.int .i64 x79f4_)] ∧
       CallsH Tryz.prog 40 #[(Value.pointer d_), (Value.agg #[(Value.int .i64 x79f0_), (Value.int .u64 x79f1_), (Value.int .u64 x79f2_), (Value.int .i64 x79f3_), (Value.int .i64 x79f4_)])] hp_19 fun en_8 hp_20 =>
       ∃ x80_ : Bool, en_8 = .returned (Value.bool x80_) ∧
       Cv_ hp_20 ∧
       ((x80_ = true →
         ∃ x84_ : Int, cellsAt hp_20 b_3 (0 + 5) [(Value.int .i64 x84_)] ∧
         (((decide ((1 : Int) ≤ x84_)) = true →
           ∃ x89_ : Int, (∀ h', Cv_ h' → cellsAt h' b_3 (0 + 5) [(Value.int .i64 x89_)]) ∧
           ∃ x91f0_ : Int, ∃ x91f1_ : Int, ∃ x91f2_ : Int, ∃ x91f3_ : Int, ∃ x91f4_ : Int, cellsAt hp_20 b_3 (0 + 0) [(Value.int .i64 x91f0_), (Value.int .u64 x91f1_), (Value.int .u64 x91f2_), (Value.int .i64 x91f3_), (Value.int .i64 x91f4_)] ∧
           CallsH Tryz.prog 41 #[(Value.agg #[(Value.int .i64 x91f0_), (Value.int .u64 x91f1_), (Value.int .u64 x91f2_), (Value.int .i64 x91f3_), (Value.int .i64 x91f4_)])] hp_20 fun en_9 hp_21 =>
           ∃ x92_ : Int, en_9 = .returned (Value.int .i64 x92_) ∧
           Cv_ hp_21 ∧
           ∃ x95f0_ : Int, ∃ x95f1_ : Int, ∃ x95f2_ : Int, ∃ x95f3_ : Int, ∃ x95f4_ : Int, ∃ x95f5_ : Int, ∃ x95f6_ : Int, cellsAt hp_21 b_3 0 [(Value.int .i64 x95f0_), (Value.int .u64 x95f1_), (Value.int .u64 x95f2_), (Value.int .i64 x95f3_), (Value.int .i64 x95f4_), (Value.int .i64 x95f5_), (Value.int .u32 x95f6_)] ∧
           List.length [(Value.int .i64 x95f0_), (Value.int .u64 x95f1_), (Value.int .u64 x95f2_), (Value.int .i64 x95f3_), (Value.int .i64 x95f4_), (Value.int .i64 x95f5_), (Value.int .u32 x95f6_)] = 7 ∧ (∀ c ∈ [(Value.int .i64 x95f0_), (Value.int .u64 x95f1_), (Value.int .u64 x95f2_), (Value.int .i64 x95f3_), (Value.int .i64 x95f4_), (Value.int .i64 x95f5_), (Value.int .u32 x95f6_)], c.oneCell' = true) ∧ wrAt hp_21 b_ 0 7 ∧ ∀ hp_22, hp_22 = setsH hp_21 b_ 0 [(Value.int .i64 x95f0_), (Value.int .u64 x95f1_), (Value.int .u64 x95f2_), (Value.int .i64 x95f3_), (Value.int .i64 x95f4_), (Value.int .i64 x95f5_), (Value.int .u32 x95f6_)] →
           ∃ resf0_2 : Int, ∃ resf1_2 : Int, ∃ resf2_2 : Int, ∃ resf3_2 : Int, ∃ resf4_2 : Int, ∃ resf5_2 : Int, ∃ resf6_2 : Int, cellsAt hp_22 b_ 0 [(Value.int .i64 resf0_2), (Value.int .u64 resf1_2), (Value.int .u64 resf2_2), (Value.int .i64 resf3_2), (Value.int .i64 resf4_2), (Value.int .i64 resf5_2), (Value.int .u32 resf6_2)] ∧
           R (.returned (Value.tuple #[(Value.agg #[(Value.int .i64 resf0_2), (Value.int .u64 resf1_2), (Value.int .u64 resf2_2), (Value.int .i64 resf3_2), (Value.int .i64 resf4_2), (Value.int .i64 resf5_2), (Value.int .u32 resf6_2)]), (Value.bool (decide (x89_ ≤ x92_))), (Value.int .i64 (0 : Int))])) hp_22) ∧
          ((decide ((1 : Int) ≤ x84_)) = false →
           ∃ x95f0_1 : Int, ∃ x95f1_1 : Int, ∃ x95f2_1 : Int, ∃ x95f3_1 : Int, ∃ x95f4_1 : Int, ∃ x95f5_1 : Int, ∃ x95f6_1 : Int, cellsAt hp_20 b_3 0 [(Value.int .i64 x95f0_1), (Value.int .u64 x95f1_1), (Value.int .u64 x95f2_1), (Value.int .i64 x95f3_1), (Value.int .i64 x95f4_1), (Value.int .i64 x95f5_1), (Value.int .u32 x95f6_1)] ∧
           List.length [(Value.int .i64 x95f0_1), (Value.int .u64 x95f1_1), (Value.int .u64 x95f2_1), (Value.int .i64 x95f3_1), (Value.int .i64 x95f4_1), (Value.int .i64 x95f5_1), (Value.int .u32 x95f6_1)] = 7 ∧ (∀ c ∈ [(Value.int .i64 x95f0_1), (Value.int .u64 x95f1_1), (Value.int .u64 x95f2_1), (Value.int .i64 x95f3_1), (Value.int .i64 x95f4_1), (Value.int .i64 x95f5_1), (Value.int .u32 x95f6_1)], c.oneCell' = true) ∧ wrAt hp_20 b_ 0 7 ∧ ∀ hp_23, hp_23 = setsH hp_20 b_ 0 [(Value.int .i64 x95f0_1), (Value.int .u64 x95f1_1), (Value.int .u64 x95f2_1), (Value.int .i64 x95f3_1), (Value.int .i64 x95f4_1), (Value.int .i64 x95f5_1), (Value.int .u32 x95f6_1)] →
           ∃ resf0_3 : Int, ∃ resf1_3 : Int, ∃ resf2_3 : Int, ∃ resf3_3 : Int, ∃ resf4_3 : Int, ∃ resf5_3 : Int, ∃ resf6_3 : Int, cellsAt hp_23 b_ 0 [(Value.int .i64 resf0_3), (Value.int .u64 resf1_3), (Value.int .u64 resf2_3), (Value.int .i64 resf3_3), (Value.int .i64 resf4_3), (Value.int .i64 resf5_3), (Value.int .u32 resf6_3)] ∧
           R (.returned (Value.tuple #[(Value.agg #[(Value.int .i64 resf0_3), (Value.int .u64 resf1_3), (Value.int .u64 resf2_3), (Value.int .i64 resf3_3), (Value.int .i64 resf4_3), (Value.int .i64 resf5_3), (Value.int .u32 resf6_3)]), (Value.bool false), (Value.int .i64 (0 : Int))])) hp_23))) ∧
        (x80_ = false →
         ∃ x95f0_2 : Int, ∃ x95f1_2 : Int, ∃ x95f2_2 : Int, ∃ x95f3_2 : Int, ∃ x95f4_2 : Int, ∃ x95f5_2 : Int, ∃ x95f6_2 : Int, cellsAt hp_20 b_3 0 [(Value.int .i64 x95f0_2), (Value.int .u64 x95f1_2), (Value.int .u64 x95f2_2), (Value.int .i64 x95f3_2), (Value.int .i64 x95f4_2), (Value.int .i64 x95f5_2), (Value.int .u32 x95f6_2)] ∧
         List.length [(Value.int .i64 x95f0_2), (Value.int .u64 x95f1_2), (Value.int .u64 x95f2_2), (Value.int .i64 x95f3_2), (Value.int .i64 x95f4_2), (Value.int .i64 x95f5_2), (Value.int .u32 x95f6_2)] = 7 ∧ (∀ c ∈ [(Value.int .i64 x95f0_2), (Value.int .u64 x95f1_2), (Value.int .u64 x95f2_2), (Value.int .i64 x95f3_2), (Value.int .i64 x95f4_2), (Value.int .i64 x95f5_2), (Value.int .u32 x95f6_2)], c.oneCell' = true) ∧ wrAt hp_20 b_ 0 7 ∧ ∀ hp_24, hp_24 = setsH hp_20 b_ 0 [(Value.int .i64 x95f0_2), (Value.int .u64 x95f1_2), (Value.int .u64 x95f2_2), (Value.int .i64 x95f3_2), (Value.int .i64 x95f4_2), (Value.int .i64 x95f5_2), (Value.int .u32 x95f6_2)] →
         ∃ resf0_4 : Int, ∃ resf1_4 : Int, ∃ resf2_4 : Int, ∃ resf3_4 : Int, ∃ resf4_4 : Int, ∃ resf5_4 : Int, ∃ resf6_4 : Int, cellsAt hp_24 b_ 0 [(Value.int .i64 resf0_4), (Value.int .u64 resf1_4), (Value.int .u64 resf2_4), (Value.int .i64 resf3_4), (Value.int .i64 resf4_4), (Value.int .i64 resf5_4), (Value.int .u32 resf6_4)] ∧
         R (.returned (Value.tuple #[(Value.agg #[(Value.int .i64 resf0_4), (Value.int .u64 resf1_4), (Value.int .u64 resf2_4), (Value.int .i64 resf3_4), (Value.int .i64 resf4_4), (Value.int .i64 resf5_4), (Value.int .u32 resf6_4)]), (Value.bool false), (Value.int .i64 (0 : Int))])) hp_24))) ∧
      ((decide (x56r1_ = (0 : Int))) = false →
       ∃ x95f0_3 : Int, ∃ x95f1_3 : Int, ∃ x95f2_3 : Int, ∃ x95f3_3 : Int, ∃ x95f4_3 : Int, ∃ x95f5_3 : Int, ∃ x95f6_3 : Int, cellsAt hp_19 b_3 0 [(Value.int .i64 x95f0_3), (Value.int .u64 x95f1_3), (Value.int .u64 x95f2_3), (Value.int .i64 x95f3_3), (Value.int .i64 x95f4_3), (Value.int .i64 x95f5_3), (Value.int .u32 x95f6_3)] ∧
       List.length [(Value.int .i64 x95f0_3), (Value.int .u64 x95f1_3), (Value.int .u64 x95f2_3), (Value.int .i64 x95f3_3), (Value.int .i64 x95f4_3), (Value.int .i64 x95f5_3), (Value.int .u32 x95f6_3)] = 7 ∧ (∀ c ∈ [(Value.int .i64 x95f0_3), (Value.int .u64 x95f1_3), (Value.int .u64 x95f2_3), (Value.int .i64 x95f3_3), (Value.int .i64 x95f4_3), (Value.int .i64 x95f5_3), (Value.int .u32 x95f6_3)], c.oneCell' = true) ∧ wrAt hp_19 b_ 0 7 ∧ ∀ hp_25, hp_25 = setsH hp_19 b_ 0 [(Value.int .i64 x95f0_3), (Value.int .u64 x95f1_3), (Value.int .u64 x95f2_3), (Value.int .i64 x95f3_3), (Value.int .i64 x95f4_3), (Value.int .i64 x95f5_3), (Value.int .u32 x95f6_3)] →
       ∃ resf0_5 : Int, ∃ resf1_5 : Int, ∃ resf2_5 : Int, ∃ resf3_5 : Int, ∃ resf4_5 : Int, ∃ resf5_5 : Int, ∃ resf6_5 : Int, cellsAt hp_25 b_ 0 [(Value.int .i64 resf0_5), (Value.int .u64 resf1_5), (Value.int .u64 resf2_5), (Value.int .i64 resf3_5), (Value.int .i64 resf4_5), (Value.int .i64 resf5_5), (Value.int .u32 resf6_5)] ∧
       R (.returned (Value.tuple #[(Value.agg #[(Value.int .i64 resf0_5), (Value.int .u64 resf1_5), (Value.int .u64 resf2_5), (Value.int .i64 resf3_5), (Value.int .i64 resf4_5), (Value.int .i64 resf5_5), (Value.int .u32 resf6_5)]), (Value.bool false), (Value.int .i64 (0 : Int))])) hp_25)))))) :
  CallsH Tryz.prog 70 #[(Value.pointer d_), (Value.int .i64 slot_)] h R := calls_vc fine false Tryz.func70 (ann := A70) (args := [(Value.pointer d_), (Value.int .i64 slot_)]) (by kernel_rfl) (Eq.mpr (by kernel_rfl) H)
/-- turnout/frame.Open -/
def A71h : Ann := .nil
def A71 : Ann := (.seq .nil (.seq .nil (.seq .nil (.seq (.seq .nil (.block (.loop [(25, (.int .i64))] (.seq .nil (.seq (.cond .nil .nil) (.seq (.block (.seq .nil .nil)) .nil)))))) (.seq .nil (.cut .nil [] (.seq (.seq .nil (.block (.loop [(9, (.int .i64))] (.seq (.seq .nil (.cond .nil .nil)) (.seq (.block .nil) .nil))))) (.seq .nil (.seq .nil .nil)))))))))
theorem V71 (s_ : ByteArray) (h : Hp) (R : Ending → Hp → Prop) (H :
  ∀ b_ hp_, b_ = Array.size h → hp_ = Array.push h (.cells (zeros Tryz.prog 95) 95) → (∃ i z, Tryz.prog.info? 95 = some i ∧ i.zero = some z) ∧
  ∀ b_1 hp_1, b_1 = Array.size hp_ → hp_1 = Array.push hp_ (.cells (zeros Tryz.prog 3) 3) → (∃ i z, Tryz.prog.info? 3 = some i ∧ i.zero = some z) ∧
  ∀ b_2 hp_2, b_2 = Array.size hp_1 → hp_2 = Array.push hp_1 (.cells (zeros Tryz.prog 27) 27) → (∃ i z, Tryz.prog.info? 27 = some i ∧ i.zero = some z) ∧
  CallsH Tryz.prog 89 #[(Value.bool (decide ((ByteArray.size s_ : Int) = (512 : Int)))), (Value.int .i64 (42 : Int))] hp_2 fun en_ hp_3 =>
  ((en_ = .returned (Value.tuple #[]) ∧
    0 ≤ (0 : Int) ∧ ∃ x16_ : UInt8, s_[Int.toNat (0 : Int)]? = some x16_ ∧
    0 ≤ (511 : Int) ∧ ∃ x18_ : UInt8, s_[Int.toNat (511 : Int)]? = some x18_ ∧
    CallsH Tryz.prog 89 #[(Value.bool (decide ((x16_.toNat : Int) = (x18_.toNat : Int)))), (Value.int .i64 (50 : Int))] hp_3 fun en_1 hp_4 =>
    ((en_1 = .returned (Value.tuple #[]) ∧
      ∃ l_ : Nat, (1 : Int) = (l_ : Int) ∧
      ∃ u_ : Nat, (507 : Int) = (u_ : Int) ∧
      l_ ≤ u_ ∧ u_ ≤ ByteArray.size s_ ∧ ∃ x22_, ByteArray.extract s_ l_ u_ = x22_ ∧
      SemH Tryz.prog (Instr.buildSlice 57 1 #[(0, (Value.string x22_))]) hp_4 fun v_ hp_5 =>
      ∃ (x23p_ : Option Addr) (x23n_ x23c_ : Nat), v_ = (Value.slice x23p_ x23n_ x23c_) ∧
      CallsH Tryz.prog 49 #[(Value.slice x23p_ x23n_ x23c_)] hp_5 fun en_2 hp_6 =>
      ∃ x24_ : Int, en_2 = .returned (Value.int .u32 x24_) ∧
      ∃ (Iv_ : List Value → Hp → Prop) (m_ : List Value → Hp → Nat), Iv_ [(Value.int .i64 (0 : Int))] hp_6 ∧
      (∀ (x25_ : Int) hp_7, Iv_ [(Value.int .i64 x25_)] hp_7 →
       (((decide (x25_ < (4 : Int))) = true →
         ∃ x30_, IntKind.i64.wrap ((507 : Int) + x25_) = x30_ ∧
         0 ≤ x30_ ∧ ∃ x31_ : UInt8, s_[Int.toNat x30_]? = some x31_ ∧
         ∃ x34_, IntKind.i64.wrap ((8 : Int) * x25_) = x34_ ∧
         0 ≤ x34_ ∧ ∃ x35_, shrI .u32 x24_ x34_ = x35_ ∧
         ∃ x36_, IntKind.u8.wrap x35_ = x36_ ∧
         CallsH Tryz.prog 89 #[(Value.bool (decide ((x31_.toNat : Int) = x36_))), (Value.int .i64 (51 : Int))] hp_7 fun en_3 hp_8 =>
         ((en_3 = .returned (Value.tuple #[]) ∧
           ∃ x39_, IntKind.i64.wrap (x25_ + (1 : Int)) = x39_ ∧
           (Iv_ [(Value.int .i64 x39_)] hp_8 ∧ m_ [(Value.int .i64 x39_)] hp_8 < m_ [(Value.int .i64 x25_)] hp_7)) ∨
          ∃ c_, en_3 = .panicked c_ ∧ DefH Tryz.prog 88 #[(Value.pointer (some ⟨b_, 0, none⟩)), (Value.pointer (some ⟨b_1, 0, none⟩)), (Value.pointer (some ⟨b_2, 0, none⟩))] (.panicking c_) hp_8 fun md_ hp_9 =>
          settle md_ = .returning ∧
          ∃ resf0_ : Int, ∃ resf1_ : Int, ∃ resf2_ : Int, ∃ resf3_ : ByteArray, cellsAt hp_9 b_ 0 [(Value.int .i64 resf0_), (Value.int .u64 resf1_), (Value.int .i64 resf2_), (Value.string resf3_)] ∧
          ∃ res_ : Int, cellsAt hp_9 b_1 0 [(Value.int .i64 res_)] ∧
          ∃ res_1 : Int, cellsAt hp_9 b_2 0 [(Value.int .i64 res_1)] ∧
          R (.returned (Value.tuple #[(Value.agg #[(Value.int .i64 resf0_), (Value.int .u64 resf1_), (Value.int .i64 resf2_), (Value.string resf3_)]), (Value.int .i64 res_), (Value.int .i64 res_1)])) hp_9)) ∧
        ((decide (x25_ < (4 : Int))) = false →
         ∃ l_1 : Nat, (10 : Int) = (l_1 : Int) ∧
         ∃ u_1 : Nat, (14 : Int) = (u_1 : Int) ∧
         l_1 ≤ u_1 ∧ u_1 ≤ ByteArray.size s_ ∧ ∃ x41_, ByteArray.extract s_ l_1 u_1 = x41_ ∧
         CallsH Tryz.prog 90 #[(Value.string x41_)] hp_7 fun en_4 hp_10 =>
         ∃ x42_ : Int, en_4 = .returned (Value.int .u64 x42_) ∧
         ∃ l_2 : Nat, (14 : Int) = (l_2 : Int) ∧
         ∃ u_2 : Nat, (16 : Int) = (u_2 : Int) ∧
         l_2 ≤ u_2 ∧ u_2 ≤ ByteArray.size s_ ∧ ∃ x44_, ByteArray.extract s_ l_2 u_2 = x44_ ∧
         CallsH Tryz.prog 90 #[(Value.string x44_)] hp_10 fun en_5 hp_11 =>
         ∃ x45_ : Int, en_5 = .returned (Value.int .u64 x45_) ∧
         ∃ x46_, IntKind.i64.wrap x45_ = x46_ ∧
         ∃ Jv_ : List Value → Hp → Prop,
         (0 ≤ (1 : Int) ∧ ∃ x48_ : UInt8, s_[Int.toNat (1 : Int)]? = some x48_ ∧
          (((decide ((x48_.toNat : Int) ≠ (0 : Int))) = true →
            (((decide (x42_ ≤ (2147483647 : Int))) = true →
              CallsH Tryz.prog 89 #[(Value.bool (decide (x46_ ≤ (491 : Int)))), (Value.int .i64 (52 : Int))] hp_11 fun en_6 hp_12 =>
              ((en_6 = .returned (Value.tuple #[]) ∧
                Jv_ [] hp_12) ∨
               ∃ c_1, en_6 = .panicked c_1 ∧ DefH Tryz.prog 88 #[(Value.pointer (some ⟨b_, 0, none⟩)), (Value.pointer (some ⟨b_1, 0, none⟩)), (Value.pointer (some ⟨b_2, 0, none⟩))] (.panicking c_1) hp_12 fun md_1 hp_13 =>
               settle md_1 = .returning ∧
               ∃ resf0_1 : Int, ∃ resf1_1 : Int, ∃ resf2_1 : Int, ∃ resf3_1 : ByteArray, cellsAt hp_13 b_ 0 [(Value.int .i64 resf0_1), (Value.int .u64 resf1_1), (Value.int .i64 resf2_1), (Value.string resf3_1)] ∧
               ∃ res_2 : Int, cellsAt hp_13 b_1 0 [(Value.int .i64 res_2)] ∧
               ∃ res_3 : Int, cellsAt hp_13 b_2 0 [(Value.int .i64 res_3)] ∧
               R (.returned (Value.tuple #[(Value.agg #[(Value.int .i64 resf0_1), (Value.int .u64 resf1_1), (Value.int .i64 resf2_1), (Value.string resf3_1)]), (Value.int .i64 res_2), (Value.int .i64 res_3)])) hp_13)) ∧
             ((decide (x42_ ≤ (2147483647 : Int))) = false →
              CallsH Tryz.prog 89 #[(Value.bool false), (Value.int .i64 (52 : Int))] hp_11 fun en_7 hp_14 =>
              ((en_7 = .returned (Value.tuple #[]) ∧
                Jv_ [] hp_14) ∨
               ∃ c_2, en_7 = .panicked c_2 ∧ DefH Tryz.prog 88 #[(Value.pointer (some ⟨b_, 0, none⟩)), (Value.pointer (some ⟨b_1, 0, none⟩)), (Value.pointer (some ⟨b_2, 0, none⟩))] (.panicking c_2) hp_14 fun md_2 hp_15 =>
               settle md_2 = .returning ∧
               ∃ resf0_2 : Int, ∃ resf1_2 : Int, ∃ resf2_2 : Int, ∃ resf3_2 : ByteArray, cellsAt hp_15 b_ 0 [(Value.int .i64 resf0_2), (Value.int .u64 resf1_2), (Value.int .i64 resf2_2), (Value.string resf3_2)] ∧
               ∃ res_4 : Int, cellsAt hp_15 b_1 0 [(Value.int .i64 res_4)] ∧
               ∃ res_5 : Int, cellsAt hp_15 b_2 0 [(Value.int .i64 res_5)] ∧
               R (.returned (Value.tuple #[(Value.agg #[(Value.int .i64 resf0_2), (Value.int .u64 resf1_2), (Value.int .i64 resf2_2), (Value.string resf3_2)]), (Value.int .i64 res_4), (Value.int .i64 res_5)])) hp_15)))) ∧
           ((decide ((x48_.toNat : Int) ≠ (0 : Int))) = false →
            CallsH Tryz.prog 89 #[(Value.bool false), (Value.int .i64 (52 : Int))] hp_11 fun en_8 hp_16 =>
            ((en_8 = .returned (Value.tuple #[]) ∧
              Jv_ [] hp_16) ∨
             ∃ c_3, en_8 = .panicked c_3 ∧ DefH Tryz.prog 88 #[(Value.pointer (some ⟨b_, 0, none⟩)), (Value.pointer (some ⟨b_1, 0, none⟩)), (Value.pointer (some ⟨b_2, 0, none⟩))] (.panicking c_3) hp_16 fun md_3 hp_17 =>
             settle md_3 = .returning ∧
             ∃ resf0_3 : Int, ∃ resf1_3 : Int, ∃ resf2_3 : Int, ∃ resf3_3 : ByteArray, cellsAt hp_17 b_ 0 [(Value.int .i64 resf0_3), (Value.int .u64 resf1_3), (Value.int .i64 resf2_3), (Value.string resf3_3)] ∧
             ∃ res_6 : Int, cellsAt hp_17 b_1 0 [(Value.int .i64 res_6)] ∧
             ∃ res_7 : Int, cellsAt hp_17 b_2 0 [(Value.int .i64 res_7)] ∧
             R (.returned (Value.tuple #[(Value.agg #[(Value.int .i64 resf0_3), (Value.int .u64 resf1_3), (Value.int .i64 resf2_3), (Value.string resf3_3)]), (Value.int .i64 res_6), (Value.int .i64 res_7)])) hp_17)))) ∧
         (∀  hp_18, Jv_ [] hp_18 →
          ∃ x60_, IntKind.i64.wrap ((16 : Int) + x46_) = x60_ ∧
          ∃ (Iv_1 : List Value → Hp → Prop) (m_1 : List Value → Hp → Nat), Iv_1 [(Value.int .i64 x60_)] hp_18 ∧
          (∀ (i_ : Int) hp_19, Iv_1 [(Value.int .i64 i_)] hp_19 →
           (((decide (i_ < (507 : Int))) = true →
             0 ≤ i_ ∧ ∃ x67_ : UInt8, s_[Int.toNat i_]? = some x67_ ∧
             CallsH Tryz.prog 89 #[(Value.bool (decide ((x67_.toNat : Int) = (0 : Int)))), (Value.int .i64 (52 : Int))] hp_19 fun en_9 hp_20 =>
             ((en_9 = .returned (Value.tuple #[]) ∧
               ∃ x64_, IntKind.i64.wrap (i_ + (1 : Int)) = x64_ ∧
               (Iv_1 [(Value.int .i64 x64_)] hp_20 ∧ m_1 [(Value.int .i64 x64_)] hp_20 < m_1 [(Value.int .i64 i_)] hp_19)) ∨
              ∃ c_4, en_9 = .panicked c_4 ∧ DefH Tryz.prog 88 #[(Value.pointer (some ⟨b_, 0, none⟩)), (Value.pointer (some ⟨b_1, 0, none⟩)), (Value.pointer (some ⟨b_2, 0, none⟩))] (.panicking c_4) hp_20 fun md_4 hp_21 =>
              settle md_4 = .returning ∧
              ∃ resf0_4 : Int, ∃ resf1_4 : Int, ∃ resf2_4 : Int, ∃ resf3_4 : ByteArray, cellsAt hp_21 b_ 0 [(Value.int .i64 resf0_4), (Value.int .u64 resf1_4), (Value.int .i64 resf2_4), (Value.string resf3_4)] ∧
              ∃ res_8 : Int, cellsAt hp_21 b_1 0 [(Value.int .i64 res_8)] ∧
              ∃ res_9 : Int, cellsAt hp_21 b_2 0 [(Value.int .i64 res_9)] ∧
              R (.returned (Value.tuple #[(Value.agg #[(Value.int .i64 resf0_4), (Value.int .u64 resf1_4), (Value.int .i64 resf2_4), (Value.string resf3_4)]), (Value.int .i64 res_8), (Value.int .i64 res_9)])) hp_21)) ∧
            ((decide (i_ < (507 : Int))) = false →
             0 ≤ (1 : Int) ∧ ∃ x71_ : UInt8, s_[Int.toNat (1 : Int)]? = some x71_ ∧
             ∃ x72_, IntKind.i64.wrap (x71_.toNat : Int) = x72_ ∧
             ∃ l_3 : Nat, (2 : Int) = (l_3 : Int) ∧
             ∃ u_3 : Nat, (10 : Int) = (u_3 : Int) ∧
             l_3 ≤ u_3 ∧ u_3 ≤ ByteArray.size s_ ∧ ∃ x74_, ByteArray.extract s_ l_3 u_3 = x74_ ∧
             CallsH Tryz.prog 90 #[(Value.string x74_)] hp_19 fun en_10 hp_22 =>
             ∃ x75_ : Int, en_10 = .returned (Value.int .u64 x75_) ∧
             ∃ x77_, IntKind.i64.wrap x42_ = x77_ ∧
             ∃ x80_, IntKind.i64.wrap ((16 : Int) + x46_) = x80_ ∧
             ∃ l_4 : Nat, (16 : Int) = (l_4 : Int) ∧
             ∃ u_4 : Nat, x80_ = (u_4 : Int) ∧
             l_4 ≤ u_4 ∧ u_4 ≤ ByteArray.size s_ ∧ ∃ x81_, ByteArray.extract s_ l_4 u_4 = x81_ ∧
             List.length [(Value.int .i64 x72_), (Value.int .u64 x75_), (Value.int .i64 x77_), (Value.string x81_)] = 4 ∧ (∀ c ∈ [(Value.int .i64 x72_), (Value.int .u64 x75_), (Value.int .i64 x77_), (Value.string x81_)], c.oneCell' = true) ∧ wrAt hp_22 b_ 0 4 ∧ ∀ hp_23, hp_23 = setsH hp_22 b_ 0 [(Value.int .i64 x72_), (Value.int .u64 x75_), (Value.int .i64 x77_), (Value.string x81_)] →
             ∃ x83f0_ : Int, ∃ x83f1_ : Int, ∃ x83f2_ : Int, ∃ x83f3_ : ByteArray, cellsAt hp_23 b_ 0 [(Value.int .i64 x83f0_), (Value.int .u64 x83f1_), (Value.int .i64 x83f2_), (Value.string x83f3_)] ∧
             0 ≤ (0 : Int) ∧ ∃ x85_ : UInt8, s_[Int.toNat (0 : Int)]? = some x85_ ∧
             ∃ x86_, IntKind.i64.wrap (x85_.toNat : Int) = x86_ ∧
             List.length [(Value.int .i64 x83f0_), (Value.int .u64 x83f1_), (Value.int .i64 x83f2_), (Value.string x83f3_)] = 4 ∧ (∀ c ∈ [(Value.int .i64 x83f0_), (Value.int .u64 x83f1_), (Value.int .i64 x83f2_), (Value.string x83f3_)], c.oneCell' = true) ∧ wrAt hp_23 b_ 0 4 ∧ ∀ hp_24, hp_24 = setsH hp_23 b_ 0 [(Value.int .i64 x83f0_), (Value.int .u64 x83f1_), (Value.int .i64 x83f2_), (Value.string x83f3_)] →
             Value.oneCell' (Value.int .i64 x86_) = true ∧ wrAt hp_24 b_1 0 1 ∧ ∀ hp_25, hp_25 = setsH hp_24 b_1 0 [(Value.int .i64 x86_)] →
             Value.oneCell' (Value.int .i64 (0 : Int)) = true ∧ wrAt hp_25 b_2 0 1 ∧ ∀ hp_26, hp_26 = setsH hp_25 b_2 0 [(Value.int .i64 (0 : Int))] →
             DefH Tryz.prog 88 #[(Value.pointer (some ⟨b_, 0, none⟩)), (Value.pointer (some ⟨b_1, 0, none⟩)), (Value.pointer (some ⟨b_2, 0, none⟩))] .returning hp_26 fun md_5 hp_27 =>
             settle md_5 = .returning ∧
             ∃ resf0_5 : Int, ∃ resf1_5 : Int, ∃ resf2_5 : Int, ∃ resf3_5 : ByteArray, cellsAt hp_27 b_ 0 [(Value.int .i64 resf0_5), (Value.int .u64 resf1_5), (Value.int .i64 resf2_5), (Value.string resf3_5)] ∧
             ∃ res_10 : Int, cellsAt hp_27 b_1 0 [(Value.int .i64 res_10)] ∧
             ∃ res_11 : Int, cellsAt hp_27 b_2 0 [(Value.int .i64 res_11)] ∧
             R (.returned (Value.tuple #[(Value.agg #[(Value.int .i64 resf0_5), (Value.int .u64 resf1_5), (Value.int .i64 resf2_5), (Value.string resf3_5)]), (Value.int .i64 res_10), (Value.int .i64 res_11)])) hp_27)))))))) ∨
     ∃ c_5, en_1 = .panicked c_5 ∧ DefH Tryz.prog 88 #[(Value.pointer (some ⟨b_, 0, none⟩)), (Value.pointer (some ⟨b_1, 0, none⟩)), (Value.pointer (some ⟨b_2, 0, none⟩))] (.panicking c_5) hp_4 fun md_6 hp_28 =>
     settle md_6 = .returning ∧
     ∃ resf0_6 : Int, ∃ resf1_6 : Int, ∃ resf2_6 : Int, ∃ resf3_6 : ByteArray, cellsAt hp_28 b_ 0 [(Value.int .i64 resf0_6), (Value.int .u64 resf1_6), (Value.int .i64 resf2_6), (Value.string resf3_6)] ∧
     ∃ res_12 : Int, cellsAt hp_28 b_1 0 [(Value.int .i64 res_12)] ∧
     ∃ res_13 : Int, cellsAt hp_28 b_2 0 [(Value.int .i64 res_13)] ∧
     R (.returned (Value.tuple #[(Value.agg #[(Value.int .i64 resf0_6), (Value.int .u64 resf1_6), (Value.int .i64 resf2_6), (Value.string resf3_6)]), (Value.int .i64 res_12), (Value.int .i64 res_13)])) hp_28)) ∨
   ∃ c_6, en_ = .panicked c_6 ∧ DefH Tryz.prog 88 #[(Value.pointer (some ⟨b_, 0, none⟩)), (Value.pointer (some ⟨b_1, 0, none⟩)), (Value.pointer (some ⟨b_2, 0, none⟩))] (.panicking c_6) hp_3 fun md_7 hp_29 =>
   settle md_7 = .returning ∧
   ∃ resf0_7 : Int, ∃ resf1_7 : Int, ∃ resf2_7 : Int, ∃ resf3_7 : ByteArray, cellsAt hp_29 b_ 0 [(Value.int .i64 resf0_7), (Value.int .u64 resf1_7), (Value.int .i64 resf2_7), (Value.string resf3_7)] ∧
   ∃ res_14 : Int, cellsAt hp_29 b_1 0 [(Value.int .i64 res_14)] ∧
   ∃ res_15 : Int, cellsAt hp_29 b_2 0 [(Value.int .i64 res_15)] ∧
   R (.returned (Value.tuple #[(Value.agg #[(Value.int .i64 resf0_7), (Value.int .u64 resf1_7), (Value.int .i64 resf2_7), (Value.string resf3_7)]), (Value.int .i64 res_14), (Value.int .i64 res_15)])) hp_29)) :
  CallsH Tryz.prog 71 #[(Value.string s_)] h R := calls_vcD fine true Tryz.func71 (a0 := A71h) (a2 := A71) (args := [(Value.string s_)]) (by kernel_rfl) (Eq.mpr (by kernel_rfl) H)
/-- turnout/sums.takes -/
def A72 : Ann := (.seq .nil (.seq (.seq .nil (.block (.loop [(0, (.int .u32)), (8, (.int .i64))] (.seq .nil (.seq (.cond .nil .nil) (.seq (.block (.seq .nil (.seq .nil (.seq .nil .nil)))) .nil)))))) (.seq .nil .nil)))
theorem V72 (r_ : Int) (b_ : ByteArray) (h : Hp) (R : Ending → Hp → Prop) (H :
  ∃ (Iv_ : List Value → Hp → Prop) (m_ : List Value → Hp → Nat), Iv_ [(Value.int .u32 r_), (Value.int .i64 (0 : Int))] h ∧
  (∀ (r_1 : Int) (x8_ : Int) hp_, Iv_ [(Value.int .u32 r_1), (Value.int .i64 x8_)] hp_ →
   (((decide (x8_ < (ByteArray.size b_ : Int))) = true →
     0 ≤ x8_ ∧ ∃ x14_ : UInt8, b_[Int.toNat x8_]? = some x14_ ∧
     ∃ x15_, IntKind.u32.wrap (x14_.toNat : Int) = x15_ ∧
     ∃ x16_, xorI .u32 r_1 x15_ = x16_ ∧
     0 ≤ (4 : Int) ∧ ∃ x18_, shrI .u32 x16_ (4 : Int) = x18_ ∧
     ∃ x20_, andI .u32 x16_ (15 : Int) = x20_ ∧
     0 ≤ x20_ ∧ x20_ < ((16 : Nat) : Int) ∧
     ∃ x22_ : Int, cellsAt hp_ 0 (0 + Int.toNat x20_ * 1) [(Value.int .u32 x22_)] ∧
     ∃ x23_, xorI .u32 x18_ x22_ = x23_ ∧
     0 ≤ (4 : Int) ∧ ∃ x25_, shrI .u32 x23_ (4 : Int) = x25_ ∧
     ∃ x27_, andI .u32 x23_ (15 : Int) = x27_ ∧
     0 ≤ x27_ ∧ x27_ < ((16 : Nat) : Int) ∧
     ∃ x29_ : Int, cellsAt hp_ 0 (0 + Int.toNat x27_ * 1) [(Value.int .u32 x29_)] ∧
     ∃ x30_, xorI .u32 x25_ x29_ = x30_ ∧
     ∃ x31_, IntKind.i64.wrap (x8_ + (1 : Int)) = x31_ ∧
     (Iv_ [(Value.int .u32 x30_), (Value.int .i64 x31_)] hp_ ∧ m_ [(Value.int .u32 x30_), (Value.int .i64 x31_)] hp_ < m_ [(Value.int .u32 r_1), (Value.int .i64 x8_)] hp_)) ∧
    ((decide (x8_ < (ByteArray.size b_ : Int))) = false →
     R (.returned (Value.int .u32 r_1)) hp_)))) :
  CallsH Tryz.prog 72 #[(Value.int .u32 r_), (Value.string b_)] h R := calls_vc fine false Tryz.func72 (ann := A72) (args := [(Value.int .u32 r_), (Value.string b_)]) (by kernel_rfl) (Eq.mpr (by kernel_rfl) H)
/-- turnout/turnoutref20.right -/
def A73 : Ann := (.seq .nil (.cut (.seq (.join 34) (.cond (.seq .nil .nil) .nil)) [] (.seq (.orders 9 [[0, 1, 2, 3, 4, 5, 6, 7, 8, 9, 10, 11], [0, 9, 1, 2, 3, 4, 5, 6, 7, 8, 10, 11], [0, 1, 2, 3, 4, 9, 5, 6, 7, 8, 10, 11]] [4]) (.seq (.join 4) .nil))))
theorem V73 (d_ : Option Addr) (hf0_ : Int) (hf1_ : Int) (hf2_ : Int) (hf3_ : Int) (hf4_ : Int) (h : Hp) (R : Ending → Hp → Prop) (H :
  ∀ b_ hp_, b_ = Array.size h → hp_ = Array.push h (.cells #[(Value.int .i64 hf0_), (Value.int .u64 hf1_), (Value.int .u64 hf2_), (Value.int .i64 hf3_), (Value.int .i64 hf4_)] 39) →
  ∃ Jv_ : List Value → Hp → Prop,
  (∃ B_ : Bool, (∃ x8_ : Int, cellsAt hp_ b_ (0 + 0) [(Value.int .i64 x8_)] ∧
    (((decide (x8_ < (0 : Int))) = true →
      hp_ = hp_ ∧ B_ = true) ∧
     ((decide (x8_ < (0 : Int))) = false →
      ∃ x12_ : Int, cellsAt hp_ b_ (0 + 0) [(Value.int .i64 x12_)] ∧
      (((decide ((1 : Int) < x12_)) = true →
        hp_ = hp_ ∧ B_ = true) ∧
       ((decide ((1 : Int) < x12_)) = false →
        ∃ x17_ : Int, cellsAt hp_ b_ (0 + 1) [(Value.int .u64 x17_)] ∧
        (((decide (x17_ < (1 : Int))) = true →
          hp_ = hp_ ∧ B_ = true) ∧
         ((decide (x17_ < (1 : Int))) = false →
          ∃ x22_ : Int, cellsAt hp_ b_ (0 + 1) [(Value.int .u64 x22_)] ∧
          (((decide ((9223372036854775807 : Int) < x22_)) = true →
            hp_ = hp_ ∧ B_ = true) ∧
           ((decide ((9223372036854775807 : Int) < x22_)) = false →
            ∃ x27_ : Int, cellsAt hp_ b_ (0 + 2) [(Value.int .u64 x27_)] ∧
            (((decide (x27_ < (1 : Int))) = true →
              hp_ = hp_ ∧ B_ = true) ∧
             ((decide (x27_ < (1 : Int))) = false →
              ∃ x32_ : Int, cellsAt hp_ b_ (0 + 2) [(Value.int .u64 x32_)] ∧
              hp_ = hp_ ∧ B_ = (decide ((9223372036854775807 : Int) < x32_))))))))))))) ∧
   ((B_ = true →
     R (.returned (Value.bool false)) hp_) ∧
    (B_ = false →
     Jv_ [] hp_))) ∧
  (∀  hp_1, Jv_ [] hp_1 →
   (∃ Cv_ : Hp → Prop, Cv_ hp_1 ∧
    CallsH Tryz.prog 51 #[(Value.pointer d_)] hp_1 fun en_ hp_2 =>
    ∃ x37_ : Int, en_ = .returned (Value.int .i64 x37_) ∧
    Cv_ hp_2 ∧
    ∃ x40_ : Int, (∀ h', Cv_ h' → cellsAt h' b_ ((0 + 3) + 0) [(Value.int .i64 x40_)]) ∧
    CallsH Tryz.prog 91 #[(Value.int .i64 x37_), (Value.int .i64 x40_)] hp_2 fun en_1 hp_3 =>
    ∃ x41r0f0_ : Int, ∃ x41r0f1_ : Int, ∃ x41r1_ : Int, en_1 = .returned (Value.tuple #[(Value.agg #[(Value.int .i64 x41r0f0_), (Value.int .i64 x41r0f1_)]), (Value.int .i64 x41r1_)]) ∧
    Cv_ hp_3 ∧
    ∀ b_1 hp_4, b_1 = Array.size hp_3 → hp_4 = Array.push hp_3 (.cells (zeros Tryz.prog 37) 37) → (∃ i z, Tryz.prog.info? 37 = some i ∧ i.zero = some z) ∧
    Cv_ hp_4 ∧
    List.length [(Value.int .i64 x41r0f0_), (Value.int .i64 x41r0f1_)] = 2 ∧ (∀ c ∈ [(Value.int .i64 x41r0f0_), (Value.int .i64 x41r0f1_)], c.oneCell' = true) ∧ wrAt hp_4 b_1 0 2 ∧ ∀ hp_5, hp_5 = setsH hp_4 b_1 0 [(Value.int .i64 x41r0f0_), (Value.int .i64 x41r0f1_)] →
    Cv_ hp_5 ∧
    ∃ B_1 : Bool, ((((decide (x41r1_ = (0 : Int))) = true →
       ∃ x47f0_ : Int, ∃ x47f1_ : Int, cellsAt hp_5 b_1 0 [(Value.int .i64 x47f0_), (Value.int .i64 x47f1_)] ∧
       ∃ x49f0_ : Int, ∃ x49f1_ : Int, cellsAt hp_5 b_ (0 + 3) [(Value.int .i64 x49f0_), (Value.int .i64 x49f1_)] ∧
       ∃ x50_, EqV Tryz.prog 37 (Value.agg #[(Value.int .i64 x47f0_), (Value.int .i64 x47f1_)]) (Value.agg #[(Value.int .i64 x49f0_), (Value.int .i64 x49f1_)]) x50_ ∧
       hp_5 = hp_5 ∧ B_1 = x50_) ∧
      ((decide (x41r1_ = (0 : Int))) = false →
       hp_5 = hp_5 ∧ B_1 = false))) ∧
    R (.returned (Value.bool B_1)) hp_5) ∧
   (∃ Cv_1 : Hp → Prop, Cv_1 hp_1 ∧
    ∀ b_2 hp_6, b_2 = Array.size hp_1 → hp_6 = Array.push hp_1 (.cells (zeros Tryz.prog 37) 37) → (∃ i z, Tryz.prog.info? 37 = some i ∧ i.zero = some z) ∧
    Cv_1 hp_6 ∧
    CallsH Tryz.prog 51 #[(Value.pointer d_)] hp_6 fun en_2 hp_7 =>
    ∃ x37_1 : Int, en_2 = .returned (Value.int .i64 x37_1) ∧
    Cv_1 hp_7 ∧
    ∃ x40_1 : Int, (∀ h', Cv_1 h' → cellsAt h' b_ ((0 + 3) + 0) [(Value.int .i64 x40_1)]) ∧
    CallsH Tryz.prog 91 #[(Value.int .i64 x37_1), (Value.int .i64 x40_1)] hp_7 fun en_3 hp_8 =>
    ∃ x41r0f0_1 : Int, ∃ x41r0f1_1 : Int, ∃ x41r1_1 : Int, en_3 = .returned (Value.tuple #[(Value.agg #[(Value.int .i64 x41r0f0_1), (Value.int .i64 x41r0f1_1)]), (Value.int .i64 x41r1_1)]) ∧
    Cv_1 hp_8 ∧
    List.length [(Value.int .i64 x41r0f0_1), (Value.int .i64 x41r0f1_1)] = 2 ∧ (∀ c ∈ [(Value.int .i64 x41r0f0_1), (Value.int .i64 x41r0f1_1)], c.oneCell' = true) ∧ wrAt hp_8 b_2 0 2 ∧ ∀ hp_9, hp_9 = setsH hp_8 b_2 0 [(Value.int .i64 x41r0f0_1), (Value.int .i64 x41r0f1_1)] →
    Cv_1 hp_9 ∧
    ∃ B_2 : Bool, ((((decide (x41r1_1 = (0 : Int))) = true →
       ∃ x47f0_1 : Int, ∃ x47f1_1 : Int, cellsAt hp_9 b_2 0 [(Value.int .i64 x47f0_1), (Value.int .i64 x47f1_1)] ∧
       ∃ x49f0_1 : Int, ∃ x49f1_1 : Int, cellsAt hp_9 b_ (0 + 3) [(Value.int .i64 x49f0_1), (Value.int .i64 x49f1_1)] ∧
       ∃ x50_1, EqV Tryz.prog 37 (Value.agg #[(Value.int .i64 x47f0_1), (Value.int .i64 x47f1_1)]) (Value.agg #[(Value.int .i64 x49f0_1), (Value.int .i64 x49f1_1)]) x50_1 ∧
       hp_9 = hp_9 ∧ B_2 = x50_1) ∧
      ((decide (x41r1_1 = (0 : Int))) = false →
       hp_9 = hp_9 ∧ B_2 = false))) ∧
    R (.returned (Value.bool B_2)) hp_9) ∧
   (∃ Cv_2 : Hp → Prop, Cv_2 hp_1 ∧
    CallsH Tryz.prog 51 #[(Value.pointer d_)] hp_1 fun en_4 hp_10 =>
    ∃ x37_2 : Int, en_4 = .returned (Value.int .i64 x37_2) ∧
    Cv_2 hp_10 ∧
    ∃ x40_2 : Int, (∀ h', Cv_2 h' → cellsAt h' b_ ((0 + 3) + 0) [(Value.int .i64 x40_2)]) ∧
    ∀ b_3 hp_11, b_3 = Array.size hp_10 → hp_11 = Array.push hp_10 (.cells (zeros Tryz.prog 37) 37) → (∃ i z, Tryz.prog.info? 37 = some i ∧ i.zero = some z) ∧
    Cv_2 hp_11 ∧
    CallsH Tryz.prog 91 #[(Value.int .i64 x37_2), (Value.int .i64 x40_2)] hp_11 fun en_5 hp_12 =>
    ∃ x41r0f0_2 : Int, ∃ x41r0f1_2 : Int, ∃ x41r1_2 : Int, en_5 = .returned (Value.tuple #[(Value.agg #[(Value.int .i64 x41r0f0_2), (Value.int .i64 x41r0f1_2)]), (Value.int .i64 x41r1_2)]) ∧
    Cv_2 hp_12 ∧
    List.length [(Value.int .i64 x41r0f0_2), (Value.int .i64 x41r0f1_2)] = 2 ∧ (∀ c ∈ [(Value.int .i64 x41r0f0_2), (Value.int .i64 x41r0f1_2)], c.oneCell' = true) ∧ wrAt hp_12 b_3 0 2 ∧ ∀ hp_13, hp_13 = setsH hp_12 b_3 0 [(Value.int .i64 x41r0f0_2), (Value.int .i64 x41r0f1_2)] →
    Cv_2 hp_13 ∧
    ∃ B_3 : Bool, ((((decide (x41r1_2 = (0 : Int))) = true →
       ∃ x47f0_2 : Int, ∃ x47f1_2 : Int, cellsAt hp_13 b_3 0 [(Value.int .i64 x47f0_2), (Value.int .i64 x47f1_2)] ∧
       ∃ x49f0_2 : Int, ∃ x49f1_2 : Int, cellsAt hp_13 b_ (0 + 3) [(Value.int .i64 x49f0_2), (Value.int .i64 x49f1_2)] ∧
       ∃ x50_2, EqV Tryz.prog 37 (Value.agg #[(Value.int .i64 x47f0_2), (Value.int .i64 x47f1_2)]) (Value.agg #[(Value.int .i64 x49f0_2), (Value.int .i64 x49f1_2)]) x50_2 ∧
       hp_13 = hp_13 ∧ B_3 = x50_2) ∧
      ((decide (x41r1_2 = (0 : Int))) = false →
       hp_13 = hp_13 ∧ B_3 = false))) ∧
    R (.returned (Value.bool B_3)) hp_13))) :
  CallsH Tryz.prog 73 #[(Value.pointer d_), (Value.agg #[(Value.int .i64 hf0_), (Value.int .u64 hf1_), (Value.int .u64 hf2_), (Value.int .i64 hf3_), (Value.int .i64 hf4_)])] h R := calls_vc fine false Tryz.func73 (ann := A73) (args := [(Value.pointer d_), (Value.agg #[(Value.int .i64 hf0_), (Value.int .u64 hf1_), (Value.int .u64 hf2_), (Value.int .i64 hf3_), (Value.int .i64 hf4_)])]) (by kernel_rfl) (Eq.mpr (by kernel_rfl) H)
/-- turnout/turnoutref20.may -/
def A74 : Ann := (.seq .nil (.seq (.join 4) .nil))
theorem V74 (n_ : Int) (slot_ : Int) (h : Hp) (R : Ending → Hp → Prop) (H :
  ∃ B_ : Bool, ((((decide ((1 : Int) ≤ n_)) = true →
     (((decide (n_ ≤ (2097152 : Int))) = true →
       ∃ x14_, IntKind.i64.wrap ((491 : Int) * slot_) = x14_ ∧
       h = h ∧ B_ = (decide (n_ ≤ x14_))) ∧
      ((decide (n_ ≤ (2097152 : Int))) = false →
       h = h ∧ B_ = false))) ∧
    ((decide ((1 : Int) ≤ n_)) = false →
     h = h ∧ B_ = false))) ∧
  R (.returned (Value.bool B_)) h) :
  CallsH Tryz.prog 74 #[(Value.int .i64 n_), (Value.int .i64 slot_)] h R := calls_vc fine false Tryz.func74 (ann := A74) (args := [(Value.int .i64 n_), (Value.int .i64 slot_)]) (by kernel_rfl) (Eq.mpr (by kernel_rfl) H)
/-- turnout/turnoutref20.pieces -/
def A75 : Ann := (.seq .nil (.seq .nil (.seq (.block (.loop [(0, .str), (3, .slice)] (.seq (.seq .nil (.cond .nil .nil)) (.block (.seq .nil (.seq .nil .nil)))))) (.seq .nil .nil))))
theorem V75 (s_ : ByteArray) (h : Hp) (R : Ending → Hp → Prop) (H :
  ∃ (Iv_ : List Value → Hp → Prop) (m_ : List Value → Hp → Nat), Iv_ [(Value.string s_), (Value.slice none 0 0)] h ∧
  (∀ (s_1 : ByteArray) (outp_ : Option Addr) (outn_ outc_ : Nat) hp_, Iv_ [(Value.string s_1), (Value.slice outp_ outn_ outc_)] hp_ →
   (((decide (s_1 ≠ (⟨#[]⟩ : ByteArray))) = true →
     ∃ u_ : Nat, (min (ByteArray.size s_1 : Int) (491 : Int)) = (u_ : Int) ∧
     0 ≤ u_ ∧ u_ ≤ ByteArray.size s_1 ∧ ∃ x13_, ByteArray.extract s_1 0 u_ = x13_ ∧
     SemH Tryz.prog (Instr.buildSlice 57 1 #[(0, (Value.string x13_))]) hp_ fun v_ hp_1 =>
     ∃ (x14p_ : Option Addr) (x14n_ x14c_ : Nat), v_ = (Value.slice x14p_ x14n_ x14c_) ∧
     SemH Tryz.prog (Builtin.append_ #[57, 57] 57 #[(Value.slice outp_ outn_ outc_), (Value.slice x14p_ x14n_ x14c_)]) hp_1 fun v_1 hp_2 =>
     ∃ (x15p_ : Option Addr) (x15n_ x15c_ : Nat), v_1 = (Value.slice x15p_ x15n_ x15c_) ∧
     ∃ l_ : Nat, (min (ByteArray.size s_1 : Int) (491 : Int)) = (l_ : Int) ∧
     l_ ≤ (ByteArray.size s_1) ∧ (ByteArray.size s_1) ≤ ByteArray.size s_1 ∧ ∃ x18_, ByteArray.extract s_1 l_ (ByteArray.size s_1) = x18_ ∧
     (Iv_ [(Value.string x18_), (Value.slice x15p_ x15n_ x15c_)] hp_2 ∧ m_ [(Value.string x18_), (Value.slice x15p_ x15n_ x15c_)] hp_2 < m_ [(Value.string s_1), (Value.slice outp_ outn_ outc_)] hp_)) ∧
    ((decide (s_1 ≠ (⟨#[]⟩ : ByteArray))) = false →
     R (.returned (Value.slice outp_ outn_ outc_)) hp_)))) :
  CallsH Tryz.prog 75 #[(Value.string s_)] h R := calls_vc fine false Tryz.func75 (ann := A75) (args := [(Value.string s_)]) (by kernel_rfl) (Eq.mpr (by kernel_rfl) H)
/-- turnout/turnoutref05.Put -/
def A76 : Ann := (.seq .nil (.seq .nil (.seq (.seq .nil (.cond (.seq .nil .nil) .nil)) (.seq .nil (.seq (.seq .nil (.cond (.seq .nil .nil) .nil)) (.seq .nil (.seq .nil .nil)))))))
theorem V76 (d_ : Option Addr) (atv_ : Int) (ff0_ : Int) (ff1_ : Int) (ff2_ : Int) (ff3_ : ByteArray) (h : Hp) (R : Ending → Hp → Prop) (H :
  ∀ b_ hp_, b_ = Array.size h → hp_ = Array.push h (.cells #[(Value.int .i64 ff0_), (Value.int .u64 ff1_), (Value.int .i64 ff2_), (Value.string ff3_)] 95) →
  ∃ x11f0_ : Int, ∃ x11f1_ : Int, ∃ x11f2_ : Int, ∃ x11f3_ : ByteArray, cellsAt hp_ b_ 0 [(Value.int .i64 x11f0_), (Value.int .u64 x11f1_), (Value.int .i64 x11f2_), (Value.string x11f3_)] ∧
  CallsH Tryz.prog 92 #[(Value.agg #[(Value.int .i64 x11f0_), (Value.int .u64 x11f1_), (Value.int .i64 x11f2_), (Value.string x11f3_)])] hp_ fun en_ hp_1 =>
  ∃ x12_ : Int, en_ = .returned (Value.int .i64 x12_) ∧
  (((decide (x12_ ≠ (0 : Int))) = true →
    R (.returned (Value.int .i64 x12_)) hp_1) ∧
   ((decide (x12_ ≠ (0 : Int))) = false →
    CallsH Tryz.prog 53 #[(Value.pointer d_), (Value.int .i64 atv_)] hp_1 fun en_1 hp_2 =>
    ∃ x19r0_ : ByteArray, ∃ x19r1_ : Int, en_1 = .returned (Value.tuple #[(Value.string x19r0_), (Value.int .i64 x19r1_)]) ∧
    (((decide (x19r1_ ≠ (0 : Int))) = true →
      R (.returned (Value.int .i64 x19r1_)) hp_2) ∧
     ((decide (x19r1_ ≠ (0 : Int))) = false →
      ∃ x26f0_ : Int, ∃ x26f1_ : Int, ∃ x26f2_ : Int, ∃ x26f3_ : ByteArray, cellsAt hp_2 b_ 0 [(Value.int .i64 x26f0_), (Value.int .u64 x26f1_), (Value.int .i64 x26f2_), (Value.string x26f3_)] ∧
      0 ≤ (511 : Int) ∧ ∃ x28_ : UInt8, x19r0_[Int.toNat (511 : Int)]? = some x28_ ∧
      ∃ x29_, IntKind.i64.wrap (x28_.toNat : Int) = x29_ ∧
      ∃ x30_, IntKind.i64.wrap (x29_ + (1 : Int)) = x30_ ∧
      (256 : Int) ≠ 0 ∧ ∃ x31_, Int.tmod x30_ (256 : Int) = x31_ ∧
      CallsH Tryz.prog 93 #[(Value.agg #[(Value.int .i64 x26f0_), (Value.int .u64 x26f1_), (Value.int .i64 x26f2_), (Value.string x26f3_)]), (Value.int .i64 x31_)] hp_2 fun en_2 hp_3 =>
      ∃ x32r0_ : ByteArray, ∃ x32r1_ : Int, en_2 = .returned (Value.tuple #[(Value.string x32r0_), (Value.int .i64 x32r1_)]) ∧
      CallsH Tryz.prog 55 #[(Value.pointer d_), (Value.int .i64 atv_), (Value.string x32r0_)] hp_3 fun en_3 hp_4 =>
      ∃ x38_ : Int, en_3 = .returned (Value.int .i64 x38_) ∧
      R (.returned (Value.int .i64 x38_)) hp_4))))) :
  CallsH Tryz.prog 76 #[(Value.pointer d_), (Value.int .i64 atv_), (Value.agg #[(Value.int .i64 ff0_), (Value.int .u64 ff1_), (Value.int .i64 ff2_), (Value.string ff3_)])] h R := calls_vc fine false Tryz.func76 (ann := A76) (args := [(Value.pointer d_), (Value.int .i64 atv_), (Value.agg #[(Value.int .i64 ff0_), (Value.int .u64 ff1_), (Value.int .i64 ff2_), (Value.string ff3_)])]) (by kernel_rfl) (Eq.mpr (by kernel_rfl) H)
/-- turnout/turnoutref20.bytes -/
def A77 : Ann := (.seq .nil (.seq .nil (.seq (.seq .nil (.block (.loop [(0, (.int .u64)), (5, .str), (6, (.int .i64))] (.seq (.seq .nil (.cond .nil .nil)) (.seq (.block (.seq .nil .nil)) .nil))))) (.seq .nil .nil))))
theorem V77 (n_ : Int) (many_ : Int) (h : Hp) (R : Ending → Hp → Prop) (H :
  ∃ (Iv_ : List Value → Hp → Prop) (m_ : List Value → Hp → Nat), Iv_ [(Value.int .u64 n_), (Value.string (⟨#[]⟩ : ByteArray)), (Value.int .i64 (0 : Int))] h ∧
  (∀ (n_1 : Int) (s_ : ByteArray) (i_ : Int) hp_, Iv_ [(Value.int .u64 n_1), (Value.string s_), (Value.int .i64 i_)] hp_ →
   (((decide (i_ < many_)) = true →
     (256 : Int) ≠ 0 ∧ ∃ x13_, Int.tmod n_1 (256 : Int) = x13_ ∧
     ∃ x14_, IntKind.u8.wrap x13_ = x14_ ∧
     SemH Tryz.prog (Instr.buildSlice 56 1 #[(0, (Value.int .u8 x14_))]) hp_ fun v_ hp_1 =>
     ∃ (x15p_ : Option Addr) (x15n_ x15c_ : Nat), v_ = (Value.slice x15p_ x15n_ x15c_) ∧
     SemH Tryz.prog (convert 56 9 (Value.slice x15p_ x15n_ x15c_)) hp_1 fun v_1 hp_2 =>
     ∃ x16_ : ByteArray, v_1 = (Value.string x16_) ∧
     ByteArray.size x16_ + ByteArray.size s_ ≤ 9223372036854775807 ∧ ∃ x18_, x16_ ++ s_ = x18_ ∧
     (256 : Int) ≠ 0 ∧ ∃ x20_, IntKind.u64.wrap (Int.tdiv n_1 (256 : Int)) = x20_ ∧
     ∃ x11_, IntKind.i64.wrap (i_ + (1 : Int)) = x11_ ∧
     (Iv_ [(Value.int .u64 x20_), (Value.string x18_), (Value.int .i64 x11_)] hp_2 ∧ m_ [(Value.int .u64 x20_), (Value.string x18_), (Value.int .i64 x11_)] hp_2 < m_ [(Value.int .u64 n_1), (Value.string s_), (Value.int .i64 i_)] hp_)) ∧
    ((decide (i_ < many_)) = false →
     R (.returned (Value.string s_)) hp_)))) :
  CallsH Tryz.prog 77 #[(Value.int .u64 n_), (Value.int .i64 many_)] h R := calls_vc fine false Tryz.func77 (ann := A77) (args := [(Value.int .u64 n_), (Value.int .i64 many_)]) (by kernel_rfl) (Eq.mpr (by kernel_rfl) H)
/-- (*turnout/turnoutref04.Disk).Look -/
def A78 : Ann := (.seq .nil (.seq (.seq .nil (.block (.loop [(5, (.int .i64))] (.seq (.seq .nil (.cond .nil .nil)) (.seq (.block (.seq .nil (.cond (.seq .nil .nil) .nil))) .nil))))) (.seq .nil .nil)))
theorem V78 (d_ : Option Addr) (n_ : Int) (h : Hp) (R : Ending → Hp → Prop) (H :
  ∃ b_ o_, d_ = some ⟨b_, o_, none⟩ ∧
  ∃ (x9p_ : Option Addr) (x9n_ x9c_ : Nat), cellsAt h b_ (o_ + 1) [(Value.slice x9p_ x9n_ x9c_)] ∧
  ∃ x11_, IntKind.i64.wrap (((x9n_ : Nat) : Int) - (1 : Int)) = x11_ ∧
  ∃ (Iv_ : List Value → Hp → Prop) (m_ : List Value → Hp → Nat), Iv_ [(Value.int .i64 x11_)] h ∧
  (∀ (i_ : Int) hp_, Iv_ [(Value.int .i64 i_)] hp_ →
   (((decide ((0 : Int) ≤ i_)) = true →
     ∃ b_1 o_1, d_ = some ⟨b_1, o_1, none⟩ ∧
     ∃ (x19p_ : Option Addr) (x19n_ x19c_ : Nat), cellsAt hp_ b_1 (o_1 + 1) [(Value.slice x19p_ x19n_ x19c_)] ∧
     ∃ b_2 o_2, x19p_ = some ⟨b_2, o_2, none⟩ ∧ 0 ≤ i_ ∧ i_ < (x19n_ : Int) ∧
     ∃ x23_ : Int, cellsAt hp_ b_2 ((o_2 + Int.toNat i_ * 2) + 0) [(Value.int .i64 x23_)] ∧
     (((decide (x23_ = n_)) = true →
       ∃ b_3 o_3, d_ = some ⟨b_3, o_3, none⟩ ∧
       ∃ (x29p_ : Option Addr) (x29n_ x29c_ : Nat), cellsAt hp_ b_3 (o_3 + 1) [(Value.slice x29p_ x29n_ x29c_)] ∧
       ∃ b_4 o_4, x29p_ = some ⟨b_4, o_4, none⟩ ∧ 0 ≤ i_ ∧ i_ < (x29n_ : Int) ∧
       ∃ x33_ : ByteArray, cellsAt hp_ b_4 ((o_4 + Int.toNat i_ * 2) + 1) [(Value.string x33_)] ∧
       R (.returned (Value.string x33_)) hp_) ∧
      ((decide (x23_ = n_)) = false →
       ∃ x15_, IntKind.i64.wrap (i_ - (1 : Int)) = x15_ ∧
       (Iv_ [(Value.int .i64 x15_)] hp_ ∧ m_ [(Value.int .i64 x15_)] hp_ < m_ [(Value.int .i64 i_)] hp_)))) ∧
    ((decide ((0 : Int) ≤ i_)) = false →
     ∃ b_5 o_5, d_ = some ⟨b_5, o_5, none⟩ ∧
     ∃ (x37p_ : Option Addr) (x37n_ x37c_ : Nat), cellsAt hp_ b_5 (o_5 + 0) [(Value.slice x37p_ x37n_ x37c_)] ∧
     ∃ b_6 o_6, x37p_ = some ⟨b_6, o_6, none⟩ ∧ 0 ≤ n_ ∧ n_ < (x37n_ : Int) ∧
     ∃ x40_ : ByteArray, cellsAt hp_ b_6 (o_6 + Int.toNat n_ * 1) [(Value.string x40_)] ∧
     R (.returned (Value.string x40_)) hp_)))) :
  CallsH Tryz.prog 78 #[(Value.pointer d_), (Value.int .i64 n_)] h R := calls_vc fine false Tryz.func78 (ann := A78) (args := [(Value.pointer d_), (Value.int .i64 n_)]) (by kernel_rfl) (Eq.mpr (by kernel_rfl) H)
/-- (*turnout/disk.Disk).Write$1 -/
def A79 : Ann := .nil
theorem V79 (safep_ : Option Addr) (safen_ safec_ : Nat) (keep_ : Int) (a2_ : Option Addr) (a3_ : Option Addr) (h : Hp) (R : Ending → Hp → Prop) (H :
  ∃ b_ o_, a3_ = some ⟨b_, o_, none⟩ ∧
  ∃ x7_ : Int, cellsAt h b_ o_ [(Value.int .i64 x7_)] ∧
  ∃ b_1 o_1, a2_ = some ⟨b_1, o_1, none⟩ ∧
  ∃ x8_ : ByteArray, cellsAt h b_1 o_1 [(Value.string x8_)] ∧
  ∃ u_ : Nat, keep_ = (u_ : Int) ∧
  0 ≤ u_ ∧ u_ ≤ ByteArray.size x8_ ∧ ∃ x10_, ByteArray.extract x8_ 0 u_ = x10_ ∧
  ∃ b_2 o_2, a3_ = some ⟨b_2, o_2, none⟩ ∧
  ∃ x12_ : Int, cellsAt h b_2 o_2 [(Value.int .i64 x12_)] ∧
  ∃ b_3 o_3, safep_ = some ⟨b_3, o_3, none⟩ ∧ 0 ≤ x12_ ∧ x12_ < (safen_ : Int) ∧
  ∃ x14_ : ByteArray, cellsAt h b_3 (o_3 + Int.toNat x12_ * 1) [(Value.string x14_)] ∧
  ∃ l_ : Nat, keep_ = (l_ : Int) ∧
  l_ ≤ (ByteArray.size x14_) ∧ (ByteArray.size x14_) ≤ ByteArray.size x14_ ∧ ∃ x16_, ByteArray.extract x14_ l_ (ByteArray.size x14_) = x16_ ∧
  ByteArray.size x10_ + ByteArray.size x16_ ≤ 9223372036854775807 ∧ ∃ x17_, x10_ ++ x16_ = x17_ ∧
  ∃ b_4 o_4, safep_ = some ⟨b_4, o_4, none⟩ ∧ 0 ≤ x7_ ∧ x7_ < (safen_ : Int) ∧
  Value.oneCell' (Value.string x17_) = true ∧ wrAt h b_4 (o_4 + Int.toNat x7_ * 1) 1 ∧ ∀ hp_, hp_ = setsH h b_4 (o_4 + Int.toNat x7_ * 1) [(Value.string x17_)] →
  R (.returned (Value.tuple #[])) hp_) :
  CallsH Tryz.prog 79 #[(Value.slice safep_ safen_ safec_), (Value.int .i64 keep_), (Value.pointer a2_), (Value.pointer a3_)] h R := calls_vc fine false Tryz.func79 (ann := A79) (args := [(Value.slice safep_ safen_ safec_), (Value.int .i64 keep_), (Value.pointer a2_), (Value.pointer a3_)]) (by kernel_rfl) (Eq.mpr (by kernel_rfl) H)
/-- turnout/turnoutref20.take -/
def A80 : Ann := (.seq .nil (.seq (.seq .nil (.cond (.seq .nil .nil) .nil)) (.seq .nil (.seq (.seq .nil (.cond (.seq .nil .nil) .nil)) (.cut (.seq (.join 47) (.cond (.seq .nil .nil) .nil)) [] (.seq .nil (.seq .nil (.seq (.orders 20 [[0, 1, 2, 3, 4, 5, 6, 7, 8, 9, 10, 11, 12, 13, 14, 15, 16, 17, 18, 19, 20, 21], [0, 1, 2, 3, 4, 5, 20, 6, 7, 8, 9, 10, 11, 12, 13, 14, 15, 16, 17, 18, 19, 21], [0, 1, 2, 3, 4, 5, 6, 7, 8, 9, 10, 11, 20, 12, 13, 14, 15, 16, 17, 18, 19, 21], [0, 1, 2, 3, 4, 5, 6, 7, 8, 9, 10, 11, 12, 13, 14, 15, 16, 20, 17, 18, 19, 21]] [2, 4, 7, 10, 15]) (.seq .nil (.seq .nil .nil))))))))))
theorem V80 (d_ : Option Addr) (slot_ : Int) (h : Hp) (R : Ending → Hp → Prop) (H :
  ∀ b_ hp_, b_ = Array.size h → hp_ = Array.push h (.cells (zeros Tryz.prog 114) 114) → (∃ i z, Tryz.prog.info? 114 = some i ∧ i.zero = some z) ∧
  CallsH Tryz.prog 51 #[(Value.pointer d_)] hp_ fun en_ hp_1 =>
  ∃ x16_ : Int, en_ = .returned (Value.int .i64 x16_) ∧
  (((decide (x16_ ≤ slot_)) = true →
    List.length [(Value.int .i64 (0 : Int)), (Value.int .u64 (0 : Int)), (Value.int .u64 (0 : Int)), (Value.int .i64 (0 : Int)), (Value.int .i64 (0 : Int)), (Value.int .i64 (0 : Int)), (Value.int .u32 (0 : Int))] = 7 ∧ (∀ c ∈ [(Value.int .i64 (0 : Int)), (Value.int .u64 (0 : Int)), (Value.int .u64 (0 : Int)), (Value.int .i64 (0 : Int)), (Value.int .i64 (0 : Int)), (Value.int .i64 (0 : Int)), (Value.int .u32 (0 : Int))], c.oneCell' = true) ∧ wrAt hp_1 b_ 0 7 ∧ ∀ hp_2, hp_2 = setsH hp_1 b_ 0 [(Value.int .i64 (0 : Int)), (Value.int .u64 (0 : Int)), (Value.int .u64 (0 : Int)), (Value.int .i64 (0 : Int)), (Value.int .i64 (0 : Int)), (Value.int .i64 (0 : Int)), (Value.int .u32 (0 : Int))] →
    ∃ resf0_ : Int, ∃ resf1_ : Int, ∃ resf2_ : Int, ∃ resf3_ : Int, ∃ resf4_ : Int, ∃ resf5_ : Int, ∃ resf6_ : Int, cellsAt hp_2 b_ 0 [(Value.int .i64 resf0_), (Value.int .u64 resf1_), (Value.int .u64 resf2_), (Value.int .i64 resf3_), (Value.int .i64 resf4_), (Value.int .i64 resf5_), (Value.int .u32 resf6_)] ∧
    R (.returned (Value.tuple #[(Value.agg #[(Value.int .i64 resf0_), (Value.int .u64 resf1_), (Value.int .u64 resf2_), (Value.int .i64 resf3_), (Value.int .i64 resf4_), (Value.int .i64 resf5_), (Value.int .u32 resf6_)]), (Value.bool false), (Value.int .i64 (0 : Int))])) hp_2) ∧
   ((decide (x16_ ≤ slot_)) = false →
    CallsH Tryz.prog 60 #[(Value.pointer d_), (Value.int .i64 slot_)] hp_1 fun en_1 hp_3 =>
    ∃ x22r0f0_ : Int, ∃ x22r0f1_ : Int, ∃ x22r0f2_ : Int, ∃ x22r0f3_ : ByteArray, ∃ x22r1_ : Int, en_1 = .returned (Value.tuple #[(Value.agg #[(Value.int .i64 x22r0f0_), (Value.int .u64 x22r0f1_), (Value.int .i64 x22r0f2_), (Value.string x22r0f3_)]), (Value.int .i64 x22r1_)]) ∧
    ∀ b_1 hp_4, b_1 = Array.size hp_3 → hp_4 = Array.push hp_3 (.cells (zeros Tryz.prog 95) 95) → (∃ i z, Tryz.prog.info? 95 = some i ∧ i.zero = some z) ∧
    List.length [(Value.int .i64 x22r0f0_), (Value.int .u64 x22r0f1_), (Value.int .i64 x22r0f2_), (Value.string x22r0f3_)] = 4 ∧ (∀ c ∈ [(Value.int .i64 x22r0f0_), (Value.int .u64 x22r0f1_), (Value.int .i64 x22r0f2_), (Value.string x22r0f3_)], c.oneCell' = true) ∧ wrAt hp_4 b_1 0 4 ∧ ∀ hp_5, hp_5 = setsH hp_4 b_1 0 [(Value.int .i64 x22r0f0_), (Value.int .u64 x22r0f1_), (Value.int .i64 x22r0f2_), (Value.string x22r0f3_)] →
    (((decide (x22r1_ = (40 : Int))) = true →
      List.length [(Value.int .i64 (0 : Int)), (Value.int .u64 (0 : Int)), (Value.int .u64 (0 : Int)), (Value.int .i64 (0 : Int)), (Value.int .i64 (0 : Int)), (Value.int .i64 (0 : Int)), (Value.int .u32 (0 : Int))] = 7 ∧ (∀ c ∈ [(Value.int .i64 (0 : Int)), (Value.int .u64 (0 : Int)), (Value.int .u64 (0 : Int)), (Value.int .i64 (0 : Int)), (Value.int .i64 (0 : Int)), (Value.int .i64 (0 : Int)), (Value.int .u32 (0 : Int))], c.oneCell' = true) ∧ wrAt hp_5 b_ 0 7 ∧ ∀ hp_6, hp_6 = setsH hp_5 b_ 0 [(Value.int .i64 (0 : Int)), (Value.int .u64 (0 : Int)), (Value.int .u64 (0 : Int)), (Value.int .i64 (0 : Int)), (Value.int .i64 (0 : Int)), (Value.int .i64 (0 : Int)), (Value.int .u32 (0 : Int))] →
      ∃ resf0_1 : Int, ∃ resf1_1 : Int, ∃ resf2_1 : Int, ∃ resf3_1 : Int, ∃ resf4_1 : Int, ∃ resf5_1 : Int, ∃ resf6_1 : Int, cellsAt hp_6 b_ 0 [(Value.int .i64 resf0_1), (Value.int .u64 resf1_1), (Value.int .u64 resf2_1), (Value.int .i64 resf3_1), (Value.int .i64 resf4_1), (Value.int .i64 resf5_1), (Value.int .u32 resf6_1)] ∧
      R (.returned (Value.tuple #[(Value.agg #[(Value.int .i64 resf0_1), (Value.int .u64 resf1_1), (Value.int .u64 resf2_1), (Value.int .i64 resf3_1), (Value.int .i64 resf4_1), (Value.int .i64 resf5_1), (Value.int .u32 resf6_1)]), (Value.bool false), (Value.int .i64 x22r1_)])) hp_6) ∧
     ((decide (x22r1_ = (40 : Int))) = false →
      ∃ Jv_ : List Value → Hp → Prop,
      (∃ B_ : Bool, ((((decide (x22r1_ ≠ (0 : Int))) = true →
          hp_5 = hp_5 ∧ B_ = true) ∧
         ((decide (x22r1_ ≠ (0 : Int))) = false →
          ∃ x33_ : Int, cellsAt hp_5 b_1 (0 + 0) [(Value.int .i64 x33_)] ∧
          (((decide (x33_ ≠ (1 : Int))) = true →
            hp_5 = hp_5 ∧ B_ = true) ∧
           ((decide (x33_ ≠ (1 : Int))) = false →
            ∃ x38_ : Int, cellsAt hp_5 b_1 (0 + 2) [(Value.int .i64 x38_)] ∧
            (((decide (x38_ ≠ slot_)) = true →
              hp_5 = hp_5 ∧ B_ = true) ∧
             ((decide (x38_ ≠ slot_)) = false →
              ∃ x44_ : ByteArray, cellsAt hp_5 b_1 (0 + 3) [(Value.string x44_)] ∧
              hp_5 = hp_5 ∧ B_ = (decide ((ByteArray.size x44_ : Int) ≠ (20 : Int)))))))))) ∧
       ((B_ = true →
         List.length [(Value.int .i64 (0 : Int)), (Value.int .u64 (0 : Int)), (Value.int .u64 (0 : Int)), (Value.int .i64 (0 : Int)), (Value.int .i64 (0 : Int)), (Value.int .i64 (0 : Int)), (Value.int .u32 (0 : Int))] = 7 ∧ (∀ c ∈ [(Value.int .i64 (0 : Int)), (Value.int .u64 (0 : Int)), (Value.int .u64 (0 : Int)), (Value.int .i64 (0 : Int)), (Value.int .i64 (0 : Int)), (Value.int .i64 (0 : Int)), (Value.int .u32 (0 : Int))], c.oneCell' = true) ∧ wrAt hp_5 b_ 0 7 ∧ ∀ hp_7, hp_7 = setsH hp_5 b_ 0 [(Value.int .i64 (0 : Int)), (Value.int .u64 (0 : Int)), (Value.int .u64 (0 : Int)), (Value.int .i64 (0 : Int)), (Value.int .i64 (0 : Int)), (Value.int .i64 (0 : Int)), (Value.int .u32 (0 : Int))] →
         ∃ resf0_2 : Int, ∃ resf1_2 : Int, ∃ resf2_2 : Int, ∃ resf3_2 : Int, ∃ resf4_2 : Int, ∃ resf5_2 : Int, ∃ resf6_2 : Int, cellsAt hp_7 b_ 0 [(Value.int .i64 resf0_2), (Value.int .u64 resf1_2), (Value.int .u64 resf2_2), (Value.int .i64 resf3_2), (Value.int .i64 resf4_2), (Value.int .i64 resf5_2), (Value.int .u32 resf6_2)] ∧
         R (.returned (Value.tuple #[(Value.agg #[(Value.int .i64 resf0_2), (Value.int .u64 resf1_2), (Value.int .u64 resf2_2), (Value.int .i64 resf3_2), (Value.int .i64 resf4_2), (Value.int .i64 resf5_2), (Value.int .u32 resf6_2)]), (Value.bool false), (Value.int .i64 (0 : Int))])) hp_7) ∧
        (B_ = false →
         Jv_ [] hp_5))) ∧
      (∀  hp_8, Jv_ [] hp_8 →
       ∃ x50_ : ByteArray, cellsAt hp_8 b_1 (0 + 3) [(Value.string x50_)] ∧
       ∃ l_ : Nat, (8 : Int) = (l_ : Int) ∧
       ∃ u_ : Nat, (12 : Int) = (u_ : Int) ∧
       l_ ≤ u_ ∧ u_ ≤ ByteArray.size x50_ ∧ ∃ x51_, ByteArray.extract x50_ l_ u_ = x51_ ∧
       CallsH Tryz.prog 94 #[(Value.string x51_)] hp_8 fun en_2 hp_9 =>
       ∃ x52_ : Int, en_2 = .returned (Value.int .u64 x52_) ∧
       CallsH Tryz.prog 51 #[(Value.pointer d_)] hp_9 fun en_3 hp_10 =>
       ∃ x55_ : Int, en_3 = .returned (Value.int .i64 x55_) ∧
       ∃ x57_, IntKind.i64.wrap x52_ = x57_ ∧
       CallsH Tryz.prog 91 #[(Value.int .i64 x55_), (Value.int .i64 x57_)] hp_10 fun en_4 hp_11 =>
       ∃ x58r0f0_ : Int, ∃ x58r0f1_ : Int, ∃ x58r1_ : Int, en_4 = .returned (Value.tuple #[(Value.agg #[(Value.int .i64 x58r0f0_), (Value.int .i64 x58r0f1_)]), (Value.int .i64 x58r1_)]) ∧
       ∀ b_2 hp_12, b_2 = Array.size hp_11 → hp_12 = Array.push hp_11 (.cells (zeros Tryz.prog 37) 37) → (∃ i z, Tryz.prog.info? 37 = some i ∧ i.zero = some z) ∧
       List.length [(Value.int .i64 x58r0f0_), (Value.int .i64 x58r0f1_)] = 2 ∧ (∀ c ∈ [(Value.int .i64 x58r0f0_), (Value.int .i64 x58r0f1_)], c.oneCell' = true) ∧ wrAt hp_12 b_2 0 2 ∧ ∀ hp_13, hp_13 = setsH hp_12 b_2 0 [(Value.int .i64 x58r0f0_), (Value.int .i64 x58r0f1_)] →
       (∃ Cv_ : Hp → Prop, Cv_ hp_13 ∧
        ∃ x63_ : Int, (∀ h', Cv_ h' → cellsAt h' b_1 (0 + 1) [(Value.int .u64 x63_)]) ∧
        ∃ x65_ : ByteArray, (∀ h', Cv_ h' → cellsAt h' b_1 (0 + 3) [(Value.string x65_)]) ∧
        ∃ u_1 : Nat, (8 : Int) = (u_1 : Int) ∧
        0 ≤ u_1 ∧ u_1 ≤ ByteArray.size x65_ ∧ ∃ x66_, ByteArray.extract x65_ 0 u_1 = x66_ ∧
        CallsH Tryz.prog 94 #[(Value.string x66_)] hp_13 fun en_5 hp_14 =>
        ∃ x67_ : Int, en_5 = .returned (Value.int .u64 x67_) ∧
        Cv_ hp_14 ∧
        ∃ x68f0_ : Int, ∃ x68f1_ : Int, (∀ h', Cv_ h' → cellsAt h' b_2 0 [(Value.int .i64 x68f0_), (Value.int .i64 x68f1_)]) ∧
        ∃ x71_ : ByteArray, (∀ h', Cv_ h' → cellsAt h' b_1 (0 + 3) [(Value.string x71_)]) ∧
        ∃ l_1 : Nat, (12 : Int) = (l_1 : Int) ∧
        ∃ u_2 : Nat, (16 : Int) = (u_2 : Int) ∧
        l_1 ≤ u_2 ∧ u_2 ≤ ByteArray.size x71_ ∧ ∃ x72_, ByteArray.extract x71_ l_1 u_2 = x72_ ∧
        CallsH Tryz.prog 94 #[(Value.string x72_)] hp_14 fun en_6 hp_15 =>
        ∃ x73_ : Int, en_6 = .returned (Value.int .u64 x73_) ∧
        Cv_ hp_15 ∧
        ∃ x74_, IntKind.i64.wrap x73_ = x74_ ∧
        ∃ x76_ : ByteArray, (∀ h', Cv_ h' → cellsAt h' b_1 (0 + 3) [(Value.string x76_)]) ∧
        ∃ l_2 : Nat, (16 : Int) = (l_2 : Int) ∧
        ∃ u_3 : Nat, (20 : Int) = (u_3 : Int) ∧
        l_2 ≤ u_3 ∧ u_3 ≤ ByteArray.size x76_ ∧ ∃ x77_, ByteArray.extract x76_ l_2 u_3 = x77_ ∧
        CallsH Tryz.prog 94 #[(Value.string x77_)] hp_15 fun en_7 hp_16 =>
        ∃ x78_ : Int, en_7 = .returned (Value.int .u64 x78_) ∧
        Cv_ hp_16 ∧
        ∃ x79_, IntKind.u32.wrap x78_ = x79_ ∧
        ∀ b_3 hp_17, b_3 = Array.size hp_16 → hp_17 = Array.push hp_16 (.cells (zeros Tryz.prog 114) 114) → (∃ i z, Tryz.prog.info? 114 = some i ∧ i.zero = some z) ∧
        Cv_ hp_17 ∧
        List.length [(Value.int .i64 slot_), (Value.int .u64 x63_), (Value.int .u64 x67_), (Value.int .i64 x68f0_), (Value.int .i64 x68f1_), (Value.int .i64 x74_), (Value.int .u32 x79_)] = 7 ∧ (∀ c ∈ [(Value.int .i64 slot_), (Value.int .u64 x63_), (Value.int .u64 x67_), (Value.int .i64 x68f0_), (Value.int .i64 x68f1_), (Value.int .i64 x74_), (Value.int .u32 x79_)], c.oneCell' = true) ∧ wrAt hp_17 b_3 0 7 ∧ ∀ hp_18, hp_18 = setsH hp_17 b_3 0 [(Value.int .i64 slot_), (Value.int .u64 x63_), (Value.int .u64 x67_), (Value.int .i64 x68f0_), (Value.int .i64 x68f1_), (Value.int .i64 x74_), (Value.int .u32 x79_)] →
        Cv_ hp_18 ∧
        (((decide (x58r1_ = (0 : Int))) = true →
          ∃ x86f0_ : Int, ∃ x86f1_ : Int, ∃ x86f2_ : Int, ∃ x86f3_ : Int, ∃ x86f4_ : Int, cellsAt hp_18 b_3 (0 + 0) [(Value.int .i64 x86f0_), (Value.int .u64 x86f1_), (Value.int .u64 x86f2_), (Value.int .i64 x86f3_), (Value.int .i64 x86f4_)] ∧
          CallsH Tryz.prog 73 #[(Value.pointer d_), (Value.agg #[(Value.int .i64 x86f0_), (Value.int .u64 x86f1_), (Value.int .u64 x86f2_), (Value.int .i64 x86f3_), (Value.int .i64 x86f4_)])] hp_18 fun en_8 hp_19 =>
          ∃ x87_ : Bool, en_8 = .returned (Value.bool x87_) ∧
          ((x87_ = true →
            ∃ x91_ : Int, cellsAt hp_19 b_3 (0 + 5) [(Value.int .i64 x91_)] ∧
            ∃ x93_ : Int, cellsAt hp_19 b_2 (0 + 0) [(Value.int .i64 x93_)] ∧
            CallsH Tryz.prog 74 #[(Value.int .i64 x91_), (Value.int .i64 x93_)] hp_19 fun en_9 hp_20 =>
            ∃ x94_ : Bool, en_9 = .returned (Value.bool x94_) ∧
            ∃ x96f0_ : Int, ∃ x96f1_ : Int, ∃ x96f2_ : Int, ∃ x96f3_ : Int, ∃ x96f4_ : Int, ∃ x96f5_ : Int, ∃ x96f6_ : Int, cellsAt hp_20 b_3 0 [(Value.int .i64 x96f0_), (Value.int .u64 x96f1_), (Value.int .u64 x96f2_), (Value.int .i64 x96f3_), (Value.int .i64 x96f4_), (Value.int .i64 x96f5_), (Value.int .u32 x96f6_)] ∧
            List.length [(Value.int .i64 x96f0_), (Value.int .u64 x96f1_), (Value.int .u64 x96f2_), (Value.int .i64 x96f3_), (Value.int .i64 x96f4_), (Value.int .i64 x96f5_), (Value.int .u32 x96f6_)] = 7 ∧ (∀ c ∈ [(Value.int .i64 x96f0_), (Value.int .u64 x96f1_), (Value.int .u64 x96f2_), (Value.int .i64 x96f3_), (Value.int .i64 x96f4_), (Value.int .i64 x96f5_), (Value.int .u32 x96f6_)], c.oneCell' = true) ∧ wrAt hp_20 b_ 0 7 ∧ ∀ hp_21, hp_21 = setsH hp_20 b_ 0 [(Value.int .i64 x96f0_), (Value.int .u64 x96f1_), (Value.int .u64 x96f2_), (Value.int .i64 x96f3_), (Value.int .i64 x96f4_), (Value.int .i64 x96f5_), (Value.int .u32 x96f6_)] →
            ∃ resf0_3 : Int, ∃ resf1_3 : Int, ∃ resf2_3 : Int, ∃ resf3_3 : Int, ∃ resf4_3 : Int, ∃ resf5_3 : Int, ∃ resf6_3 : Int, cellsAt hp_21 b_ 0 [(Value.int .i64 resf0_3), (Value.int .u64 resf1_3), (Value.int .u64 resf2_3), (Value.int .i64 resf3_3), (Value.int .i64 resf4_3), (Value.int .i64 resf5_3), (Value.int .u32 resf6_3)] ∧
            R (.returned (Value.tuple #[(Value.agg #[(Value.int .i64 resf0_3), (Value.int .u64 resf1_3), (Value.int .u64 resf2_3), (Value.int .i64 resf3_3), (Value.int .i64 resf4_3), (Value.int .i64 resf5_3), (Value.int .u32 resf6_3)]), (Value.bool x94_), (Value.int .i64 (0 : Int))])) hp_21) ∧
           (x87_ = false →
            ∃ x96f0_1 : Int, ∃ x96f1_1 : Int, ∃ x96f2_1 : Int, ∃ x96f3_1 : Int, ∃ x96f4_1 : Int, ∃ x96f5_1 : Int, ∃ x96f6_1 : Int, cellsAt hp_19 b_3 0 [(Value.int .i64 x96f0_1), (Value.int .u64 x96f1_1), (Value.int .u64 x96f2_1), (Value.int .i64 x96f3_1), (Value.int .i64 x96f4_1), (Value.int .i64 x96f5_1), (Value.int .u32 x96f6_1)] ∧
            List.length [(Value.int .i64 x96f0_1), (Value.int .u64 x96f1_1), (Value.int .u64 x96f2_1), (Value.int .i64 x96f3_1), (Value.int .i64 x96f4_1), (Value.int .i64 x96f5_1), (Value.int .u32 x96f6_1)] = 7 ∧ (∀ c ∈ [(Value.int .i64 x96f0_1), (Value.int .u64 x96f1_1), (Value.int .u64 x96f2_1), (Value.int .i64 x96f3_1), (Value.int .i64 x96f4_1), (Value.int .i64 x96f5_1), (Value.int .u32 x96f6_1)], c.oneCell' = true) ∧ wrAt hp_19 b_ 0 7 ∧ ∀ hp_22, hp_22 = setsH hp_19 b_ 0 [(Value.int .i64 x96f0_1), (Value.int .u64 x96f1_1), (Value.int .u64 x96f2_1), (Value.int .i64 x96f3_1), (Value.int .i64 x96f4_1), (Value.int .i64 x96f5_1), (Value.int .u32 x96f6_1)] →
            ∃ resf0_4 : Int, ∃ resf1_4 : Int, ∃ resf2_4 : Int, ∃ resf3_4 : Int, ∃ resf4_4 : Int, ∃ resf5_4 : Int, ∃ resf6_4 : Int, cellsAt hp_22 b_ 0 [(Value.int .i64 resf0_4), (Value.int .u64 resf1_4), (Value.int .u64 resf2_4), (Value.int .i64 resf3_4), (Value.int .i64 resf4_4), (Value.int .i64 resf5_4), (Value.int .u32 resf6_4)] ∧
            R (.returned (Value.tuple #[(Value.agg #[(Value.int .i64 resf0_4), (Value.int .u64 resf1_4), (Value.int .u64 resf2_4), (Value.int .i64 resf3_4), (Value.int .i64 resf4_4), (Value.int .i64 resf5_4), (Value.int .u32 resf6_4)]), (Value.bool false), (Value.int .i64 (0 : Int))])) hp_22))) ∧
         ((decide (x58r1_ = (0 : Int))) = false →
          ∃ x96f0_2 : Int, ∃ x96f1_2 : Int, ∃ x96f2_2 : Int, ∃ x96f3_2 : Int, ∃ x96f4_2 : Int, ∃ x96f5_2 : Int, ∃ x96f6_2 : Int, cellsAt hp_18 b_3 0 [(Value.int .i64 x96f0_2), (Value.int .u64 x96f1_2), (Value.int .u64 x96f2_2), (Value.int .i64 x96f3_2), (Value.int .i64 x96f4_2), (Value.int .i64 x96f5_2), (Value.int .u32 x96f6_2)] ∧
          List.length [(Value.int .i64 x96f0_2), (Value.int .u64 x96f1_2), (Value.int .u64 x96f2_2), (Value.int .i64 x96f3_2), (Value.int .i64 x96f4_2), (Value.int .i64 x96f5_2), (Value.int .u32 x96f6_2)] = 7 ∧ (∀ c ∈ [(Value.int .i64 x96f0_2), (Value.int .u64 x96f1_2), (Value.int .u64 x96f2_2), (Value.int .i64 x96f3_2), (Value.int .i64 x96f4_2), (Value.int .i64 x96f5_2), (Value.int .u32 x96f6_2)], c.oneCell' = true) ∧ wrAt hp_18 b_ 0 7 ∧ ∀ hp_23, hp_23 = setsH hp_18 b_ 0 [(Value.int .i64 x96f0_2), (Value.int .u64 x96f1_2), (Value.int .u64 x96f2_2), (Value.int .i64 x96f3_2), (Value.int .i64 x96f4_2), (Value.int .i64 x96f5_2), (Value.int .u32 x96f6_2)] →
          ∃ resf0_5 : Int, ∃ resf1_5 : Int, ∃ resf2_5 : Int, ∃ resf3_5 : Int, ∃ resf4_5 : Int, ∃ resf5_5 : Int, ∃ resf6_5 : Int, cellsAt hp_23 b_ 0 [(Value.int .i64 resf0_5), (Value.int .u64 resf1_5), (Value.int .u64 resf2_5), (Value.int .i64 resf3_5), (Value.int .i64 resf4_5), (Value.int .i64 resf5_5), (Value.int .u32 resf6_5)] ∧
          R (.returned (Value.tuple #[(Value.agg #[(Value.int .i64 resf0_5), (Value.int .u64 resf1_5), (Value.int .u64 resf2_5), (Value.int .i64 resf3_5), (Value.int .i64 resf4_5), (Value.int .i64 resf5_5), (Value.int .u32 resf6_5)]), (Value.bool false), (Value.int .i64 (0 : Int))])) hp_23))) ∧
       (∃ Cv_1 : Hp → Prop, Cv_1 hp_13 ∧
        ∃ x63_1 : Int, (∀ h', Cv_1 h' → cellsAt h' b_1 (0 + 1) [(Value.int .u64 x63_1)]) ∧
        ∃ x65_1 : ByteArray, (∀ h', Cv_1 h' → cellsAt h' b_1 (0 + 3) [(Value.string x65_1)]) ∧
        ∃ u_4 : Nat, (8 : Int) = (u_4 : Int) ∧
        0 ≤ u_4 ∧ u_4 ≤ ByteArray.size x65_1 ∧ ∃ x66_1, ByteArray.extract x65_1 0 u_4 = x66_1 ∧
        ∀ b_4 hp_24, b_4 = Array.size hp_13 → hp_24 = Array.push hp_13 (.cells (zeros Tryz.prog 114) 114) → (∃ i z, Tryz.prog.info? 114 = some i ∧ i.zero = some z) ∧
        Cv_1 hp_24 ∧
        CallsH Tryz.prog 94 #[(Value.string x66_1)] hp_24 fun en_10 hp_25 =>
        ∃ x67_1 : Int, en_10 = .returned (Value.int .u64 x67_1) ∧
        Cv_1 hp_25 ∧
        ∃ x68f0_1 : Int, ∃ x68f1_1 : Int, (∀ h', Cv_1 h' → cellsAt h' b_2 0 [(Value.int .i64 x68f0_1), (Value.int .i64 x68f1_1)]) ∧
        ∃ x71_1 : ByteArray, (∀ h', Cv_1 h' → cellsAt h' b_1 (0 + 3) [(Value.string x71_1)]) ∧
        ∃ l_3 : Nat, (12 : Int) = (l_3 : Int) ∧
        ∃ u_5 : Nat, (16 : Int) = (u_5 : Int) ∧
        l_3 ≤ u_5 ∧ u_5 ≤ ByteArray.size x71_1 ∧ ∃ x72_1, ByteArray.extract x71_1 l_3 u_5 = x72_1 ∧
        CallsH Tryz.prog 94 #[(Value.string x72_1)] hp_25 fun en_11 hp_26 =>
        ∃ x73_1 : Int, en_11 = .returned (Value.int .u64 x73_1) ∧
        Cv_1 hp_26 ∧
        ∃ x74_1, IntKind.i64.wrap x73_1 = x74_1 ∧
        ∃ x76_1 : ByteArray, (∀ h', Cv_1 h' → cellsAt h' b_1 (0 + 3) [(Value.string x76_1)]) ∧
        ∃ l_4 : Nat, (16 : Int) = (l_4 : Int) ∧
        ∃ u_6 : Nat, (20 : Int) = (u_6 : Int) ∧
        l_4 ≤ u_6 ∧ u_6 ≤ ByteArray.size x76_1 ∧ ∃ x77_1, ByteArray.extract x76_1 l_4 u_6 = x77_1 ∧
        CallsH Tryz.prog 94 #[(Value.string x77_1)] hp_26 fun en_12 hp_27 =>
        ∃ x78_1 : Int, en_12 = .returned (Value.int .u64 x78_1) ∧
        Cv_1 hp_27 ∧
        ∃ x79_1, IntKind.u32.wrap x78_1 = x79_1 ∧
        List.length [(Value.int .i64 slot_), (Value.int .u64 x63_1), (Value.int .u64 x67_1), (Value.int .i64 x68f0_1), (Value.int .i64 x68f1_1), (Value.int .i64 x74_1), (Value.int .u32 x79_1)] = 7 ∧ (∀ c ∈ [(Value.int .i64 slot_), (Value.int .u64 x63_1), (Value.int .u64 x67_1), (Value.int .i64 x68f0_1), (Value.int .i64 x68f1_1), (Value.int .i64 x74_1), (Value.int .u32 x79_1)], c.oneCell' = true) ∧ wrAt hp_27 b_4 0 7 ∧ ∀ hp_28, hp_28 = setsH hp_27 b_4 0 [(Value.int .i64 slot_), (Value.int .u64 x63_1), (Value.int .u64 x67_1), (Value.int .i64 x68f0_1), (Value.int .i64 x68f1_1), (Value.int .i64 x74_1), (Value.int .u32 x79_1)] →
        Cv_1 hp_28 ∧
        (((decide (x58r1_ = (0 : Int))) = true →
          ∃ x86f0_1 : Int, ∃ x86f1_1 : Int, ∃ x86f2_1 : Int, ∃ x86f3_1 : Int, ∃ x86f4_1 : Int, cellsAt hp_28 b_4 (0 + 0) [(Value.int .i64 x86f0_1), (Value.int .u64 x86f1_1), (Value.int .u64 x86f2_1), (Value.int .i64 x86f3_1), (Value.int .i64 x86f4_1)] ∧
          CallsH Tryz.prog 73 #[(Value.pointer d_), (Value.agg #[(Value.int .i64 x86f0_1), (Value.int .u64 x86f1_1), (Value.int .u64 x86f2_1), (Value.int .i64 x86f3_1), (Value.int .i64 x86f4_1)])] hp_28 fun en_13 hp_29 =>
          ∃ x87_1 : Bool, en_13 = .returned (Value.bool x87_1) ∧
          ((x87_1 = true →
            ∃ x91_1 : Int, cellsAt hp_29 b_4 (0 + 5) [(Value.int .i64 x91_1)] ∧
            ∃ x93_1 : Int, cellsAt hp_29 b_2 (0 + 0) [(Value.int .i64 x93_1)] ∧
            CallsH Tryz.prog 74 #[(Value.int .i64 x91_1), (Value.int .i64 x93_1)] hp_29 fun en_14 hp_30 =>
            ∃ x94_1 : Bool, en_14 = .returned (Value.bool x94_1) ∧
            ∃ x96f0_3 : Int, ∃ x96f1_3 : Int, ∃ x96f2_3 : Int, ∃ x96f3_3 : Int, ∃ x96f4_3 : Int, ∃ x96f5_3 : Int, ∃ x96f6_3 : Int, cellsAt hp_30 b_4 0 [(Value.int .i64 x96f0_3), (Value.int .u64 x96f1_3), (Value.int .u64 x96f2_3), (Value.int .i64 x96f3_3), (Value.int .i64 x96f4_3), (Value.int .i64 x96f5_3), (Value.int .u32 x96f6_3)] ∧
            List.length [(Value.int .i64 x96f0_3), (Value.int .u64 x96f1_3), (Value.int .u64 x96f2_3), (Value.int .i64 x96f3_3), (Value.int .i64 x96f4_3), (Value.int .i64 x96f5_3), (Value.int .u32 x96f6_3)] = 7 ∧ (∀ c ∈ [(Value.int .i64 x96f0_3), (Value.int .u64 x96f1_3), (Value.int .u64 x96f2_3), (Value.int .i64 x96f3_3), (Value.int .i64 x96f4_3), (Value.int .i64 x96f5_3), (Value.int .u32 x96f6_3)], c.oneCell' = true) ∧ wrAt hp_30 b_ 0 7 ∧ ∀ hp_31, hp_31 = setsH hp_30 b_ 0 [(Value.int .i64 x96f0_3), (Value.int .u64 x96f1_3), (Value.int .u64 x96f2_3), (Value.int .i64 x96f3_3), (Value.int .i64 x96f4_3), (Value.int .i64 x96f5_3), (Value.int .u32 x96f6_3)] →
            ∃ resf0_6 : Int, ∃ resf1_6 : Int, ∃ resf2_6 : Int, ∃ resf3_6 : Int, ∃ resf4_6 : Int, ∃ resf5_6 : Int, ∃ resf6_6 : Int, cellsAt hp_31 b_ 0 [(Value.int .i64 resf0_6), (Value.int .u64 resf1_6), (Value.int .u64 resf2_6), (Value.int .i64 resf3_6), (Value.int .i64 resf4_6), (Value.int .i64 resf5_6), (Value.int .u32 resf6_6)] ∧
            R (.returned (Value.tuple #[(Value.agg #[(Value.int .i64 resf0_6), (Value.int .u64 resf1_6), (Value.int .u64 resf2_6), (Value.int .i64 resf3_6), (Value.int .i64 resf4_6), (Value.int .i64 resf5_6), (Value.int .u32 resf6_6)]), (Value.bool x94_1), (Value.int .i64 (0 : Int))])) hp_31) ∧
           (x87_1 = false →
            ∃ x96f0_4 : Int, ∃ x96f1_4 : Int, ∃ x96f2_4 : Int, ∃ x96f3_4 : Int, ∃ x96f4_4 : Int, ∃ x96f5_4 : Int, ∃ x96f6_4 : Int, cellsAt hp_29 b_4 0 [(Value.int .i64 x96f0_4), (Value.int .u64 x96f1_4), (Value.int .u64 x96f2_4), (Value.int .i64 x96f3_4), (Value.int .i64 x96f4_4), (Value.int .i64 x96f5_4), (Value.int .u32 x96f6_4)] ∧
            List.length [(Value.int .i64 x96f0_4), (Value.int .u64 x96f1_4), (Value.int .u64 x96f2_4), (Value.int .i64 x96f3_4), (Value.int .i64 x96f4_4), (Value.int .i64 x96f5_4), (Value.int .u32 x96f6_4)] = 7 ∧ (∀ c ∈ [(Value.int .i64 x96f0_4), (Value.int .u64 x96f1_4), (Value.int .u64 x96f2_4), (Value.int .i64 x96f3_4), (Value.int .i64 x96f4_4), (Value.int .i64 x96f5_4), (Value.int .u32 x96f6_4)], c.oneCell' = true) ∧ wrAt hp_29 b_ 0 7 ∧ ∀ hp_32, hp_32 = setsH hp_29 b_ 0 [(Value.int .i64 x96f0_4), (Value.int .u64 x96f1_4), (Value.int .u64 x96f2_4), (Value.int .i64 x96f3_4), (Value.int .i64 x96f4_4), (Value.int .i64 x96f5_4), (Value.int .u32 x96f6_4)] →
            ∃ resf0_7 : Int, ∃ resf1_7 : Int, ∃ resf2_7 : Int, ∃ resf3_7 : Int, ∃ resf4_7 : Int, ∃ resf5_7 : Int, ∃ resf6_7 : Int, cellsAt hp_32 b_ 0 [(Value.int .i64 resf0_7), (Value.int .u64 resf1_7), (Value.int .u64 resf2_7), (Value.int .i64 resf3_7), (Value.int .i64 resf4_7), (Value.int .i64 resf5_7), (Value.int .u32 resf6_7)] ∧
            R (.returned (Value.tuple #[(Value.agg #[(Value.int .i64 resf0_7), (Value.int .u64 resf1_7), (Value.int .u64 resf2_7), (Value.int .i64 resf3_7), (Value.int .i64 resf4_7), (Value.int .i64 resf5_7), (Value.int .u32 resf6_7)]), (Value.bool false), (Value.int .i64 (0 : Int))])) hp_32))) ∧
         ((decide (x58r1_ = (0 : Int))) = false →
          ∃ x96f0_5 : Int, ∃ x96f1_5 : Int, ∃ x96f2_5 : Int, ∃ x96f3_5 : Int, ∃ x96f4_5 : Int, ∃ x96f5_5 : Int, ∃ x96f6_5 : Int, cellsAt hp_28 b_4 0 [(Value.int .i64 x96f0_5), (Value.int .u64 x96f1_5), (Value.int .u64 x96f2_5), (Value.int .i64 x96f3_5), (Value.int .i64 x96f4_5), (Value.int .i64 x96f5_5), (Value.int .u32 x96f6_5)] ∧
          List.length [(Value.int .i64 x96f0_5), (Value.int .u64 x96f1_5), (Value.int .u64 x96f2_5), (Value.int .i64 x96f3_5), (Value.int .i64 x96f4_5), (Value.int .i64 x96f5_5), (Value.int .u32 x96f6_5)] = 7 ∧ (∀ c ∈ [(Value.int .i64 x96f0_5), (Value.int .u64 x96f1_5), (Value.int .u64 x96f2_5), (Value.int .i64 x96f3_5), (Value.int .i64 x96f4_5), (Value.int .i64 x96f5_5), (Value.int .u32 x96f6_5)], c.oneCell' = true) ∧ wrAt hp_28 b_ 0 7 ∧ ∀ hp_33, hp_33 = setsH hp_28 b_ 0 [(Value.int .i64 x96f0_5), (Value.int .u64 x96f1_5), (Value.int .u64 x96f2_5), (Value.int .i64 x96f3_5), (Value.int .i64 x96f4_5), (Value.int .i64 x96f5_5), (Value.int .u32 x96f6_5)] →
          ∃ resf0_8 : Int, ∃ resf1_8 : Int, ∃ resf2_8 : Int, ∃ resf3_8 : Int, ∃ resf4_8 : Int, ∃ resf5_8 : Int, ∃ resf6_8 : Int, cellsAt hp_33 b_ 0 [(Value.int .i64 resf0_8), (Value.int .u64 resf1_8), (Value.int .u64 resf2_8), (Value.int .i64 resf3_8), (Value.int .i64 resf4_8), (Value.int .i64 resf5_8), (Value.int .u32 resf6_8)] ∧
          R (.returned (Value.tuple #[(Value.agg #[(Value.int .i64 resf0_8), (Value.int .u64 resf1_8), (Value.int .u64 resf2_8), (Value.int .i64 resf3_8), (Value.int .i64 resf4_8), (Value.int .i64 resf5_8), (Value.int .u32 resf6_8)]), (Value.bool false), (Value.int .i64 (0 : Int))])) hp_33))) ∧
       (∃ Cv_2 : Hp → Prop, Cv_2 hp_13 ∧
        ∃ x63_2 : Int, (∀ h', Cv_2 h' → cellsAt h' b_1 (0 + 1) [(Value.int .u64 x63_2)]) ∧
        ∃ x65_2 : ByteArray, (∀ h', Cv_2 h' → cellsAt h' b_1 (0 + 3) [(Value.string x65_2)]) ∧
        ∃ u_7 : Nat, (8 : Int) = (u_7 : Int) ∧
        0 ≤ u_7 ∧ u_7 ≤ ByteArray.size x65_2 ∧ ∃ x66_2, ByteArray.extract x65_2 0 u_7 = x66_2 ∧
        CallsH Tryz.prog 94 #[(Value.string x66_2)] hp_13 fun en_15 hp_34 =>
        ∃ x67_2 : Int, en_15 = .returned (Value.int .u64 x67_2) ∧
        Cv_2 hp_34 ∧
        ∃ x68f0_2 : Int, ∃ x68f1_2 : Int, (∀ h', Cv_2 h' → cellsAt h' b_2 0 [(Value.int .i64 x68f0_2), (Value.int .i64 x68f1_2)]) ∧
        ∃ x71_2 : ByteArray, (∀ h', Cv_2 h' → cellsAt h' b_1 (0 + 3) [(Value.string x71_2)]) ∧
        ∃ l_5 : Nat, (12 : Int) = (l_5 : Int) ∧
        ∃ u_8 : Nat, (16 : Int) = (u_8 : Int) ∧
        l_5 ≤ u_8 ∧ u_8 ≤ ByteArray.size x71_2 ∧ ∃ x72_2, ByteArray.extract x71_2 l_5 u_8 = x72_2 ∧
        ∀ b_5 hp_35, b_5 = Array.size hp_34 → hp_35 = Array.push hp_34 (.cells (zeros Tryz.prog 114) 114) → (∃ i z, Tryz.prog.info? 114 = some i ∧ i.zero = some z) ∧
        Cv_2 hp_35 ∧
        CallsH Tryz.prog 94 #[(Value.string x72_2)] hp_35 fun en_16 hp_36 =>
        ∃ x73_2 : Int, en_16 = .returned (Value.int .u64 x73_2) ∧
        Cv_2 hp_36 ∧
        ∃ x74_2, IntKind.i64.wrap x73_2 = x74_2 ∧
        ∃ x76_2 : ByteArray, (∀ h', Cv_2 h' → cellsAt h' b_1 (0 + 3) [(Value.string x76_2)]) ∧
        ∃ l_6 : Nat, (16 : Int) = (l_6 : Int) ∧
        ∃ u_9 : Nat, (20 : Int) = (u_9 : Int) ∧
        l_6 ≤ u_9 ∧ u_9 ≤ ByteArray.size x76_2 ∧ ∃ x77_2, ByteArray.extract x76_2 l_6 u_9 = x77_2 ∧
        CallsH Tryz.prog 94 #[(Value.string x77_2)] hp_36 fun en_17 hp_37 =>
        ∃ x78_2 : Int, en_17 = .returned (Value.int .u64 x78_2) ∧
        Cv_2 hp_37 ∧
        ∃ x79_2, IntKind.u32.wrap x78_2 = x79_2 ∧
        List.length [(Value.int .i64 slot_), (Value.int .u64 x63_2), (Value.int .u64 x67_2), (Value.int .i64 x68f0_2), (Value.int .i64 x68f1_2), (Value.int .i64 x74_2), (Value.int .u32 x79_2)] = 7 ∧ (∀ c ∈ [(Value.int .i64 slot_), (Value.int .u64 x63_2), (Value.int .u64 x67_2), (Value.int .i64 x68f0_2), (Value.int .i64 x68f1_2), (Value.int .i64 x74_2), (Value.int .u32 x79_2)], c.oneCell' = true) ∧ wrAt hp_37 b_5 0 7 ∧ ∀ hp_38, hp_38 = setsH hp_37 b_5 0 [(Value.int .i64 slot_), (Value.int .u64 x63_2), (Value.int .u64 x67_2), (Value.int .i64 x68f0_2), (Value.int .i64 x68f1_2), (Value.int .i64 x74_2), (Value.int .u32 x79_2)] →
        Cv_2 hp_38 ∧
        (((decide (x58r1_ = (0 : Int))) = true →
          ∃ x86f0_2 : Int, ∃ x86f1_2 : Int, ∃ x86f2_2 : Int, ∃ x86f3_2 : Int, ∃ x86f4_2 : Int, cellsAt hp_38 b_5 (0 + 0) [(Value.int .i64 x86f0_2), (Value.int .u64 x86f1_2), (Value.int .u64 x86f2_2), (Value.int .i64 x86f3_2), (Value.int .i64 x86f4_2)] ∧
          CallsH Tryz.prog 73 #[(Value.pointer d_), (Value.agg #[(Value.int .i64 x86f0_2), (Value.int .u64 x86f1_2), (Value.int .u64 x86f2_2), (Value.int .i64 x86f3_2), (Value.int .i64 x86f4_2)])] hp_38 fun en_18 hp_39 =>
          ∃ x87_2 : Bool, en_18 = .returned (Value.bool x87_2) ∧
          ((x87_2 = true →
            ∃ x91_2 : Int, cellsAt hp_39 b_5 (0 + 5) [(Value.int .i64 x91_2)] ∧
            ∃ x93_2 : Int, cellsAt hp_39 b_2 (0 + 0) [(Value.int .i64 x93_2)] ∧
            CallsH Tryz.prog 74 #[(Value.int .i64 x91_2), (Value.int .i64 x93_2)] hp_39 fun en_19 hp_40 =>
            ∃ x94_2 : Bool, en_19 = .returned (Value.bool x94_2) ∧
            ∃ x96f0_6 : Int, ∃ x96f1_6 : Int, ∃ x96f2_6 : Int, ∃ x96f3_6 : Int, ∃ x96f4_6 : Int, ∃ x96f5_6 : Int, ∃ x96f6_6 : Int, cellsAt hp_40 b_5 0 [(Value.int .i64 x96f0_6), (Value.int .u64 x96f1_6), (Value.int .u64 x96f2_6), (Value.int .i64 x96f3_6), (Value.int .i64 x96f4_6), (Value.int .i64 x96f5_6), (Value.int .u32 x96f6_6)] ∧
            List.length [(Value.int .i64 x96f0_6), (Value.int .u64 x96f1_6), (Value.int .u64 x96f2_6), (Value.int .i64 x96f3_6), (Value.int .i64 x96f4_6), (Value.int .i64 x96f5_6), (Value.int .u32 x96f6_6)] = 7 ∧ (∀ c ∈ [(Value.int .i64 x96f0_6), (Value.int .u64 x96f1_6), (Value.int .u64 x96f2_6), (Value.int .i64 x96f3_6), (Value.int .i64 x96f4_6), (Value.int .i64 x96f5_6), (Value.int .u32 x96f6_6)], c.oneCell' = true) ∧ wrAt hp_40 b_ 0 7 ∧ ∀ hp_41, hp_41 = setsH hp_40 b_ 0 [(Value.int .i64 x96f0_6), (Value.int .u64 x96f1_6), (Value.int .u64 x96f2_6), (Value.int .i64 x96f3_6), (Value.int .i64 x96f4_6), (Value.int .i64 x96f5_6), (Value.int .u32 x96f6_6)] →
            ∃ resf0_9 : Int, ∃ resf1_9 : Int, ∃ resf2_9 : Int, ∃ resf3_9 : Int, ∃ resf4_9 : Int, ∃ resf5_9 : Int, ∃ resf6_9 : Int, cellsAt hp_41 b_ 0 [(Value.int .i64 resf0_9), (Value.int .u64 resf1_9), (Value.int .u64 resf2_9), (Value.int .i64 resf3_9), (Value.int .i64 resf4_9), (Value.int .i64 resf5_9), (Value.int .u32 resf6_9)] ∧
            R (.returned (Value.tuple #[(Value.agg #[(Value.int .i64 resf0_9), (Value.int .u64 resf1_9), (Value.int .u64 resf2_9), (Value.int .i64 resf3_9), (Value.int .i64 resf4_9), (Value.int .i64 resf5_9), (Value.int .u32 resf6_9)]), (Value.bool x94_2), (Value.int .i64 (0 : Int))])) hp_41) ∧
           (x87_2 = false →
            ∃ x96f0_7 : Int, ∃ x96f1_7 : Int, ∃ x96f2_7 : Int, ∃ x96f3_7 : Int, ∃ x96f4_7 : Int, ∃ x96f5_7 : Int, ∃ x96f6_7 : Int, cellsAt hp_39 b_5 0 [(Value.int .i64 x96f0_7), (Value.int .u64 x96f1_7), (Value.int .u64 x96f2_7), (Value.int .i64 x96f3_7), (Value.int .i64 x96f4_7), (Value.int .i64 x96f5_7), (Value.int .u32 x96f6_7)] ∧
            List.length [(Value.int .i64 x96f0_7), (Value.int .u64 x96f1_7), (Value.int .u64 x96f2_7), (Value.int .i64 x96f3_7), (Value.int .i64 x96f4_7), (Value.int .i64 x96f5_7), (Value.int .u32 x96f6_7)] = 7 ∧ (∀ c ∈ [(Value.int .i64 x96f0_7), (Value.int .u64 x96f1_7), (Value.int .u64 x96f2_7), (Value.int .i64 x96f3_7), (Value.int .i64 x96f4_7), (Value.int .i64 x96f5_7), (Value.int .u32 x96f6_7)], c.oneCell' = true) ∧ wrAt hp_39 b_ 0 7 ∧ ∀ hp_42, hp_42 = setsH hp_39 b_ 0 [(Value.int .i64 x96f0_7), (Value.int .u64 x96f1_7), (Value.int .u64 x96f2_7), (Value.int .i64 x96f3_7), (Value.int .i64 x96f4_7), (Value.int .i64 x96f5_7), (Value.int .u32 x96f6_7)] →
            ∃ resf0_10 : Int, ∃ resf1_10 : Int, ∃ resf2_10 : Int, ∃ resf3_10 : Int, ∃ resf4_10 : Int, ∃ resf5_10 : Int, ∃ resf6_10 : Int, cellsAt hp_42 b_ 0 [(Value.int .i64 resf0_10), (Value.int .u64 resf1_10), (Value.int .u64 resf2_10), (Value.int .i64 resf3_10), (Value.int .i64 resf4_10), (Value.int .i64 resf5_10), (Value.int .u32 resf6_10)] ∧
            R (.returned (Value.tuple #[(Value.agg #[(Value.int .i64 resf0_10), (Value.int .u64 resf1_10), (Value.int .u64 resf2_10), (Value.int .i64 resf3_10), (Value.int .i64 resf4_10), (Value.int .i64 resf5_10), (Value.int .u32 resf6_10)]), (Value.bool false), (Value.int .i64 (0 : Int))])) hp_42))) ∧
         ((decide (x58r1_ = (0 : Int))) = false →
          ∃ x96f0_8 : Int, ∃ x96f1_8 : Int, ∃ x96f2_8 : Int, ∃ x96f3_8 : Int, ∃ x96f4_8 : Int, ∃ x96f5_8 : Int, ∃ x96f6_8 : Int, cellsAt hp_38 b_5 0 [(Value.int .i64 x96f0_8), (Value.int .u64 x96f1_8), (Value.int .u64 x96f2_8), (Value.int .i64 x96f3_8), (Value.int .i64 x96f4_8), (Value.int .i64 x96f5_8), (Value.int .u32 x96f6_8)] ∧
          List.length [(Value.int .i64 x96f0_8), (Value.int .u64 x96f1_8), (Value.int .u64 x96f2_8), (Value.int .i64 x96f3_8), (Value.int .i64 x96f4_8), (Value.int .i64 x96f5_8), (Value.int .u32 x96f6_8)] = 7 ∧ (∀ c ∈ [(Value.int .i64 x96f0_8), (Value.int .u64 x96f1_8), (Value.int .u64 x96f2_8), (Value.int .i64 x96f3_8), (Value.int .i64 x96f4_8), (Value.int .i64 x96f5_8), (Value.int .u32 x96f6_8)], c.oneCell' = true) ∧ wrAt hp_38 b_ 0 7 ∧ ∀ hp_43, hp_43 = setsH hp_38 b_ 0 [(Value.int .i64 x96f0_8), (Value.int .u64 x96f1_8), (Value.int .u64 x96f2_8), (Value.int .i64 x96f3_8), (Value.int .i64 x96f4_8), (Value.int .i64 x96f5_8), (Value.int .u32 x96f6_8)] →
          ∃ resf0_11 : Int, ∃ resf1_11 : Int, ∃ resf2_11 : Int, ∃ resf3_11 : Int, ∃ resf4_11 : Int, ∃ resf5_11 : Int, ∃ resf6_11 : Int, cellsAt hp_43 b_ 0 [(Value.int .i64 resf0_11), (Value.int .u64 resf1_11), (Value.int .u64 resf2_11), (Value.int .i64 resf3_11), (Value.int .i64 resf4_11), (Value.int .i64 resf5_11), (Value.int .u32 resf6_11)] ∧
          R (.returned (Value.tuple #[(Value.agg #[(Value.int .i64 resf0_11), (Value.int .u64 resf1_11), (Value.int .u64 resf2_11), (Value.int .i64 resf3_11), (Value.int .i64 resf4_11), (Value.int .i64 resf5_11), (Value.int .u32 resf6_11)]), (Value.bool false), (Value.int .i64 (0 : Int))])) hp_43))) ∧
       (∃ Cv_3 : Hp → Prop, Cv_3 hp_13 ∧
        ∃ x63_3 : Int, (∀ h', Cv_3 h' → cellsAt h' b_1 (0 + 1) [(Value.int .u64 x63_3)]) ∧
        ∃ x65_3 : ByteArray, (∀ h', Cv_3 h' → cellsAt h' b_1 (0 + 3) [(Value.string x65_3)]) ∧
        ∃ u_10 : Nat, (8 : Int) = (u_10 : Int) ∧
        0 ≤ u_10 ∧ u_10 ≤ ByteArray.size x65_3 ∧ ∃ x66_3, ByteArray.extract x65_3 0 u_10 = x66_3 ∧
        CallsH Tryz.prog 94 #[(Value.string x66_3)] hp_13 fun en_20 hp_44 =>
        ∃ x67_3 : Int, en_20 = .returned (Value.int .u64 x67_3) ∧
        Cv_3 hp_44 ∧
        ∃ x68f0_3 : Int, ∃ x68f1_3 : Int, (∀ h', Cv_3 h' → cellsAt h' b_2 0 [(Value.int .i64 x68f0_3), (Value.int .i64 x68f1_3)]) ∧
        ∃ x71_3 : ByteArray, (∀ h', Cv_3 h' → cellsAt h' b_1 (0 + 3) [(Value.string x71_3)]) ∧
        ∃ l_7 : Nat, (12 : Int) = (l_7 : Int) ∧
        ∃ u_11 : Nat, (16 : Int) = (u_11 : Int) ∧
        l_7 ≤ u_11 ∧ u_11 ≤ ByteArray.size x71_3 ∧ ∃ x72_3, ByteArray.extract x71_3 l_7 u_11 = x72_3 ∧
        CallsH Tryz.prog 94 #[(Value.string x72_3)] hp_44 fun en_21 hp_45 =>
        ∃ x73_3 : Int, en_21 = .returned (Value.int .u64 x73_3) ∧
        Cv_3 hp_45 ∧
        ∃ x74_3, IntKind.i64.wrap x73_3 = x74_3 ∧
        ∃ x76_3 : ByteArray, (∀ h', Cv_3 h' → cellsAt h' b_1 (0 + 3) [(Value.string x76_3)]) ∧
        ∃ l_8 : Nat, (16 : Int) = (l_8 : Int) ∧
        ∃ u_12 : Nat, (20 : Int) = (u_12 : Int) ∧
        l_8 ≤ u_12 ∧ u_12 ≤ ByteArray.size x76_3 ∧ ∃ x77_3, ByteArray.extract x76_3 l_8 u_12 = x77_3 ∧
        ∀ b_6 hp_46, b_6 = Array.size hp_45 → hp_46 = Array.push hp_45 (.cells (zeros Tryz.prog 114) 114) → (∃ i z, Tryz.prog.info? 114 = some i ∧ i.zero = some z) ∧
        Cv_3 hp_46 ∧
        CallsH Tryz.prog 94 #[(Value.string x77_3)] hp_46 fun en_22 hp_47 =>
        ∃ x78_3 : Int, en_22 = .returned (Value.int .u64 x78_3) ∧
        Cv_3 hp_47 ∧
        ∃ x79_3, IntKind.u32.wrap x78_3 = x79_3 ∧
        List.length [(Value.int .i64 slot_), (Value.int .u64 x63_3), (Value.int .u64 x67_3), (Value.int .i64 x68f0_3), (Value.int .i64 x68f1_3), (Value.int .i64 x74_3), (Value.int .u32 x79_3)] = 7 ∧ (∀ c ∈ [(Value.int .i64 slot_), (Value.int .u64 x63_3), (Value.int .u64 x67_3), (Value.int .i64 x68f0_3), (Value.int .i64 x68f1_3), (Value.int .i64 x74_3), (Value.int .u32 x79_3)], c.oneCell' = true) ∧ wrAt hp_47 b_6 0 7 ∧ ∀ hp_48, hp_48 = setsH hp_47 b_6 0 [(Value.int .i64 slot_), (Value.int .u64 x63_3), (Value.int .u64 x67_3), (Value.int .i64 x68f0_3), (Value.int .i64 x68f1_3), (Value.int .i64 x74_3), (Value.int .u32 x79_3)] →
        Cv_3 hp_48 ∧
        (((decide (x58r1_ = (0 : Int))) = true →
          ∃ x86f0_3 : Int, ∃ x86f1_3 : Int, ∃ x86f2_3 : Int, ∃ x86f3_3 : Int, ∃ x86f4_3 : Int, cellsAt hp_48 b_6 (0 + 0) [(Value.int .i64 x86f0_3), (Value.int .u64 x86f1_3), (Value.int .u64 x86f2_3), (Value.int .i64 x86f3_3), (Value.int .i64 x86f4_3)] ∧
          CallsH Tryz.prog 73 #[(Value.pointer d_), (Value.agg #[(Value.int .i64 x86f0_3), (Value.int .u64 x86f1_3), (Value.int .u64 x86f2_3), (Value.int .i64 x86f3_3), (Value.int .i64 x86f4_3)])] hp_48 fun en_23 hp_49 =>
          ∃ x87_3 : Bool, en_23 = .returned (Value.bool x87_3) ∧
          ((x87_3 = true →
            ∃ x91_3 : Int, cellsAt hp_49 b_6 (0 + 5) [(Value.int .i64 x91_3)] ∧
            ∃ x93_3 : Int, cellsAt hp_49 b_2 (0 + 0) [(Value.int .i64 x93_3)] ∧
            CallsH Tryz.prog 74 #[(Value.int .i64 x91_3), (Value.int .i64 x93_3)] hp_49 fun en_24 hp_50 =>
            ∃ x94_3 : Bool, en_24 = .returned (Value.bool x94_3) ∧
            ∃ x96f0_9 : Int, ∃ x96f1_9 : Int, ∃ x96f2_9 : Int, ∃ x96f3_9 : Int, ∃ x96f4_9 : Int, ∃ x96f5_9 : Int, ∃ x96f6_9 : Int, cellsAt hp_50 b_6 0 [(Value.int .i64 x96f0_9), (Value.int .u64 x96f1_9), (Value.int .u64 x96f2_9), (Value.int .i64 x96f3_9), (Value.int .i64 x96f4_9), (Value.int .i64 x96f5_9), (Value.int .u32 x96f6_9)] ∧
            List.length [(Value.int .i64 x96f0_9), (Value.int .u64 x96f1_9), (Value.int .u64 x96f2_9), (Value.int .i64 x96f3_9), (Value.int .i64 x96f4_9), (Value.int .i64 x96f5_9), (Value.int .u32 x96f6_9)] = 7 ∧ (∀ c ∈ [(Value.int .i64 x96f0_9), (Value.int .u64 x96f1_9), (Value.int .u64 x96f2_9), (Value.int .i64 x96f3_9), (Value.int .i64 x96f4_9), (Value.int .i64 x96f5_9), (Value.int .u32 x96f6_9)], c.oneCell' = true) ∧ wrAt hp_50 b_ 0 7 ∧ ∀ hp_51, hp_51 = setsH hp_50 b_ 0 [(Value.int .i64 x96f0_9), (Value.int .u64 x96f1_9), (Value.int .u64 x96f2_9), (Value.int .i64 x96f3_9), (Value.int .i64 x96f4_9), (Value.int .i64 x96f5_9), (Value.int .u32 x96f6_9)] →
            ∃ resf0_12 : Int, ∃ resf1_12 : Int, ∃ resf2_12 : Int, ∃ resf3_12 : Int, ∃ resf4_12 : Int, ∃ resf5_12 : Int, ∃ resf6_12 : Int, cellsAt hp_51 b_ 0 [(Value.int .i64 resf0_12), (Value.int .u64 resf1_12), (Value.int .u64 resf2_12), (Value.int .i64 resf3_12), (Value.int .i64 resf4_12), (Value.int .i64 resf5_12), (Value.int .u32 resf6_12)] ∧
            R (.returned (Value.tuple #[(Value.agg #[(Value.int .i64 resf0_12), (Value.int .u64 resf1_12), (Value.int .u64 resf2_12), (Value.int .i64 resf3_12), (Value.int .i64 resf4_12), (Value.int .i64 resf5_12), (Value.int .u32 resf6_12)]), (Value.bool x94_3), (Value.int .i64 (0 : Int))])) hp_51) ∧
           (x87_3 = false →
            ∃ x96f0_10 : Int, ∃ x96f1_10 : Int, ∃ x96f2_10 : Int, ∃ x96f3_10 : Int, ∃ x96f4_10 : Int, ∃ x96f5_10 : Int, ∃ x96f6_10 : Int, cellsAt hp_49 b_6 0 [(Value.int .i64 x96f0_10), (Value.int .u64 x96f1_10), (Value.int .u64 x96f2_10), (Value.int .i64 x96f3_10), (Value.int .i64 x96f4_10), (Value.int .i64 x96f5_10), (Value.int .u32 x96f6_10)] ∧
            List.length [(Value.int .i64 x96f0_10), (Value.int .u64 x96f1_10), (Value.int .u64 x96f2_10), (Value.int .i64 x96f3_10), (Value.int .i64 x96f4_10), (Value.int .i64 x96f5_10), (Value.int .u32 x96f6_10)] = 7 ∧ (∀ c ∈ [(Value.int .i64 x96f0_10), (Value.int .u64 x96f1_10), (Value.int .u64 x96f2_10), (Value.int .i64 x96f3_10), (Value.int .i64 x96f4_10), (Value.int .i64 x96f5_10), (Value.int .u32 x96f6_10)], c.oneCell' = true) ∧ wrAt hp_49 b_ 0 7 ∧ ∀ hp_52, hp_52 = setsH hp_49 b_ 0 [(Value.int .i64 x96f0_10), (Value.int .u64 x96f1_10), (Value.int .u64 x96f2_10), (Value.int .i64 x96f3_10), (Value.int .i64 x96f4_10), (Value.int .i64 x96f5_10), (Value.int .u32 x96f6_10)] →
            ∃ resf0_13 : Int, ∃ resf1_13 : Int, ∃ resf2_13 : Int, ∃ resf3_13 : Int, ∃ resf4_13 : Int, ∃ resf5_13 : Int, ∃ resf6_13 : Int, cellsAt hp_52 b_ 0 [(Value.int .i64 resf0_13), (Value.int .u64 resf1_13), (Value.int .u64 resf2_13), (Value.int .i64 resf3_13), (Value.int .i64 resf4_13), (Value.int .i64 resf5_13), (Value.int .u32 resf6_13)] ∧
            R (.returned (Value.tuple #[(Value.agg #[(Value.int .i64 resf0_13), (Value.int .u64 resf1_13), (Value.int .u64 resf2_13), (Value.int .i64 resf3_13), (Value.int .i64 resf4_13), (Value.int .i64 resf5_13), (Value.int .u32 resf6_13)]), (Value.bool false), (Value.int .i64 (0 : Int))])) hp_52))) ∧
         ((decide (x58r1_ = (0 : Int))) = false →
          ∃ x96f0_11 : Int, ∃ x96f1_11 : Int, ∃ x96f2_11 : Int, ∃ x96f3_11 : Int, ∃ x96f4_11 : Int, ∃ x96f5_11 : Int, ∃ x96f6_11 : Int, cellsAt hp_48 b_6 0 [(Value.int .i64 x96f0_11), (Value.int .u64 x96f1_11), (Value.int .u64 x96f2_11), (Value.int .i64 x96f3_11), (Value.int .i64 x96f4_11), (Value.int .i64 x96f5_11), (Value.int .u32 x96f6_11)] ∧
          List.length [(Value.int .i64 x96f0_11), (Value.int .u64 x96f1_11), (Value.int .u64 x96f2_11), (Value.int .i64 x96f3_11), (Value.int .i64 x96f4_11), (Value.int .i64 x96f5_11), (Value.int .u32 x96f6_11)] = 7 ∧ (∀ c ∈ [(Value.int .i64 x96f0_11), (Value.int .u64 x96f1_11), (Value.int .u64 x96f2_11), (Value.int .i64 x96f3_11), (Value.int .i64 x96f4_11), (Value.int .i64 x96f5_11), (Value.int .u32 x96f6_11)], c.oneCell' = true) ∧ wrAt hp_48 b_ 0 7 ∧ ∀ hp_53, hp_53 = setsH hp_48 b_ 0 [(Value.int .i64 x96f0_11), (Value.int .u64 x96f1_11), (Value.int .u64 x96f2_11), (Value.int .i64 x96f3_11), (Value.int .i64 x96f4_11), (Value.int .i64 x96f5_11), (Value.int .u32 x96f6_11)] →
          ∃ resf0_14 : Int, ∃ resf1_14 : Int, ∃ resf2_14 : Int, ∃ resf3_14 : Int, ∃ resf4_14 : Int, ∃ resf5_14 : Int, ∃ resf6_14 : Int, cellsAt hp_53 b_ 0 [(Value.int .i64 resf0_14), (Value.int .u64 resf1_14), (Value.int .u64 resf2_14), (Value.int .i64 resf3_14), (Value.int .i64 resf4_14), (Value.int .i64 resf5_14), (Value.int .u32 resf6_14)] ∧
          R (.returned (Value.tuple #[(Value.agg #[(Value.int .i64 resf0_14), (Value.int .u64 resf1_14), (Value.int .u64 resf2_14), (Value.int .i64 resf3_14), (Value.int .i64 resf4_14), (Value.int .i64 resf5_14), (Value.int .u32 resf6_14)]), (Value.bool false), (Value.int .i64 (0 : Int))])) hp_53))))))))) :
  CallsH Tryz.prog 80 #[(Value.pointer d_), (Value.int .i64 slot_)] h R := calls_vc fine false Tryz.func80 (ann := A80) (args := [(Value.pointer d_), (Value.int .i64 slot_)]) (by kernel_rfl) (Eq.mpr (by kernel_rfl) H)
/-- turnout/turnoutref05.Open -/
def A81 : Ann := (.seq .nil (.seq (.seq .nil (.cond (.seq .nil .nil) .nil)) (.seq (.seq .nil (.cond (.seq .nil .nil) .nil)) (.seq (.seq .nil (.cond (.seq .nil .nil) .nil)) (.seq .nil (.cut (.seq .nil (.cond (.seq .nil .nil) .nil)) [] (.seq (.seq .nil (.block (.loop [(6, (.int .i64))] (.seq (.seq .nil (.cond .nil .nil)) (.seq (.block (.seq .nil (.cond (.seq .nil .nil) .nil))) .nil))))) (.seq .nil .nil))))))))
theorem V81 (s_ : ByteArray) (h : Hp) (R : Ending → Hp → Prop) (H :
  ∀ b_ hp_, b_ = Array.size h → hp_ = Array.push h (.cells (zeros Tryz.prog 95) 95) → (∃ i z, Tryz.prog.info? 95 = some i ∧ i.zero = some z) ∧
  (((decide ((ByteArray.size s_ : Int) ≠ (512 : Int))) = true →
    List.length [(Value.int .i64 (0 : Int)), (Value.int .u64 (0 : Int)), (Value.int .i64 (0 : Int)), (Value.string (⟨#[]⟩ : ByteArray))] = 4 ∧ (∀ c ∈ [(Value.int .i64 (0 : Int)), (Value.int .u64 (0 : Int)), (Value.int .i64 (0 : Int)), (Value.string (⟨#[]⟩ : ByteArray))], c.oneCell' = true) ∧ wrAt hp_ b_ 0 4 ∧ ∀ hp_1, hp_1 = setsH hp_ b_ 0 [(Value.int .i64 (0 : Int)), (Value.int .u64 (0 : Int)), (Value.int .i64 (0 : Int)), (Value.string (⟨#[]⟩ : ByteArray))] →
    ∃ resf0_ : Int, ∃ resf1_ : Int, ∃ resf2_ : Int, ∃ resf3_ : ByteArray, cellsAt hp_1 b_ 0 [(Value.int .i64 resf0_), (Value.int .u64 resf1_), (Value.int .i64 resf2_), (Value.string resf3_)] ∧
    R (.returned (Value.tuple #[(Value.agg #[(Value.int .i64 resf0_), (Value.int .u64 resf1_), (Value.int .i64 resf2_), (Value.string resf3_)]), (Value.int .i64 (0 : Int)), (Value.int .i64 (42 : Int))])) hp_1) ∧
   ((decide ((ByteArray.size s_ : Int) ≠ (512 : Int))) = false →
    0 ≤ (0 : Int) ∧ ∃ x12_ : UInt8, s_[Int.toNat (0 : Int)]? = some x12_ ∧
    0 ≤ (511 : Int) ∧ ∃ x14_ : UInt8, s_[Int.toNat (511 : Int)]? = some x14_ ∧
    (((decide ((x12_.toNat : Int) ≠ (x14_.toNat : Int))) = true →
      List.length [(Value.int .i64 (0 : Int)), (Value.int .u64 (0 : Int)), (Value.int .i64 (0 : Int)), (Value.string (⟨#[]⟩ : ByteArray))] = 4 ∧ (∀ c ∈ [(Value.int .i64 (0 : Int)), (Value.int .u64 (0 : Int)), (Value.int .i64 (0 : Int)), (Value.string (⟨#[]⟩ : ByteArray))], c.oneCell' = true) ∧ wrAt hp_ b_ 0 4 ∧ ∀ hp_2, hp_2 = setsH hp_ b_ 0 [(Value.int .i64 (0 : Int)), (Value.int .u64 (0 : Int)), (Value.int .i64 (0 : Int)), (Value.string (⟨#[]⟩ : ByteArray))] →
      ∃ resf0_1 : Int, ∃ resf1_1 : Int, ∃ resf2_1 : Int, ∃ resf3_1 : ByteArray, cellsAt hp_2 b_ 0 [(Value.int .i64 resf0_1), (Value.int .u64 resf1_1), (Value.int .i64 resf2_1), (Value.string resf3_1)] ∧
      R (.returned (Value.tuple #[(Value.agg #[(Value.int .i64 resf0_1), (Value.int .u64 resf1_1), (Value.int .i64 resf2_1), (Value.string resf3_1)]), (Value.int .i64 (0 : Int)), (Value.int .i64 (50 : Int))])) hp_2) ∧
     ((decide ((x12_.toNat : Int) ≠ (x14_.toNat : Int))) = false →
      ∃ l_ : Nat, (507 : Int) = (l_ : Int) ∧
      ∃ u_ : Nat, (511 : Int) = (u_ : Int) ∧
      l_ ≤ u_ ∧ u_ ≤ ByteArray.size s_ ∧ ∃ x18_, ByteArray.extract s_ l_ u_ = x18_ ∧
      ∃ l_1 : Nat, (1 : Int) = (l_1 : Int) ∧
      ∃ u_1 : Nat, (507 : Int) = (u_1 : Int) ∧
      l_1 ≤ u_1 ∧ u_1 ≤ ByteArray.size s_ ∧ ∃ x20_, ByteArray.extract s_ l_1 u_1 = x20_ ∧
      CallsH Tryz.prog 95 #[(Value.string x20_)] hp_ fun en_ hp_3 =>
      ∃ x21_ : ByteArray, en_ = .returned (Value.string x21_) ∧
      (((decide (x18_ ≠ x21_)) = true →
        List.length [(Value.int .i64 (0 : Int)), (Value.int .u64 (0 : Int)), (Value.int .i64 (0 : Int)), (Value.string (⟨#[]⟩ : ByteArray))] = 4 ∧ (∀ c ∈ [(Value.int .i64 (0 : Int)), (Value.int .u64 (0 : Int)), (Value.int .i64 (0 : Int)), (Value.string (⟨#[]⟩ : ByteArray))], c.oneCell' = true) ∧ wrAt hp_3 b_ 0 4 ∧ ∀ hp_4, hp_4 = setsH hp_3 b_ 0 [(Value.int .i64 (0 : Int)), (Value.int .u64 (0 : Int)), (Value.int .i64 (0 : Int)), (Value.string (⟨#[]⟩ : ByteArray))] →
        ∃ resf0_2 : Int, ∃ resf1_2 : Int, ∃ resf2_2 : Int, ∃ resf3_2 : ByteArray, cellsAt hp_4 b_ 0 [(Value.int .i64 resf0_2), (Value.int .u64 resf1_2), (Value.int .i64 resf2_2), (Value.string resf3_2)] ∧
        R (.returned (Value.tuple #[(Value.agg #[(Value.int .i64 resf0_2), (Value.int .u64 resf1_2), (Value.int .i64 resf2_2), (Value.string resf3_2)]), (Value.int .i64 (0 : Int)), (Value.int .i64 (51 : Int))])) hp_4) ∧
       ((decide (x18_ ≠ x21_)) = false →
        ∃ l_2 : Nat, (14 : Int) = (l_2 : Int) ∧
        ∃ u_2 : Nat, (16 : Int) = (u_2 : Int) ∧
        l_2 ≤ u_2 ∧ u_2 ≤ ByteArray.size s_ ∧ ∃ x25_, ByteArray.extract s_ l_2 u_2 = x25_ ∧
        CallsH Tryz.prog 96 #[(Value.string x25_)] hp_3 fun en_1 hp_5 =>
        ∃ x26_ : Int, en_1 = .returned (Value.int .u64 x26_) ∧
        ∃ x27_, IntKind.i64.wrap x26_ = x27_ ∧
        ∃ Jv_ : List Value → Hp → Prop,
        (0 ≤ (1 : Int) ∧ ∃ x29_ : UInt8, s_[Int.toNat (1 : Int)]? = some x29_ ∧
         (((decide ((x29_.toNat : Int) = (0 : Int))) = true →
           List.length [(Value.int .i64 (0 : Int)), (Value.int .u64 (0 : Int)), (Value.int .i64 (0 : Int)), (Value.string (⟨#[]⟩ : ByteArray))] = 4 ∧ (∀ c ∈ [(Value.int .i64 (0 : Int)), (Value.int .u64 (0 : Int)), (Value.int .i64 (0 : Int)), (Value.string (⟨#[]⟩ : ByteArray))], c.oneCell' = true) ∧ wrAt hp_5 b_ 0 4 ∧ ∀ hp_6, hp_6 = setsH hp_5 b_ 0 [(Value.int .i64 (0 : Int)), (Value.int .u64 (0 : Int)), (Value.int .i64 (0 : Int)), (Value.string (⟨#[]⟩ : ByteArray))] →
           ∃ resf0_3 : Int, ∃ resf1_3 : Int, ∃ resf2_3 : Int, ∃ resf3_3 : ByteArray, cellsAt hp_6 b_ 0 [(Value.int .i64 resf0_3), (Value.int .u64 resf1_3), (Value.int .i64 resf2_3), (Value.string resf3_3)] ∧
           R (.returned (Value.tuple #[(Value.agg #[(Value.int .i64 resf0_3), (Value.int .u64 resf1_3), (Value.int .i64 resf2_3), (Value.string resf3_3)]), (Value.int .i64 (0 : Int)), (Value.int .i64 (52 : Int))])) hp_6) ∧
          ((decide ((x29_.toNat : Int) = (0 : Int))) = false →
           ∃ l_3 : Nat, (10 : Int) = (l_3 : Int) ∧
           ∃ u_3 : Nat, (14 : Int) = (u_3 : Int) ∧
           l_3 ≤ u_3 ∧ u_3 ≤ ByteArray.size s_ ∧ ∃ x33_, ByteArray.extract s_ l_3 u_3 = x33_ ∧
           CallsH Tryz.prog 96 #[(Value.string x33_)] hp_5 fun en_2 hp_7 =>
           ∃ x34_ : Int, en_2 = .returned (Value.int .u64 x34_) ∧
           (((decide ((2147483647 : Int) < x34_)) = true →
             List.length [(Value.int .i64 (0 : Int)), (Value.int .u64 (0 : Int)), (Value.int .i64 (0 : Int)), (Value.string (⟨#[]⟩ : ByteArray))] = 4 ∧ (∀ c ∈ [(Value.int .i64 (0 : Int)), (Value.int .u64 (0 : Int)), (Value.int .i64 (0 : Int)), (Value.string (⟨#[]⟩ : ByteArray))], c.oneCell' = true) ∧ wrAt hp_7 b_ 0 4 ∧ ∀ hp_8, hp_8 = setsH hp_7 b_ 0 [(Value.int .i64 (0 : Int)), (Value.int .u64 (0 : Int)), (Value.int .i64 (0 : Int)), (Value.string (⟨#[]⟩ : ByteArray))] →
             ∃ resf0_4 : Int, ∃ resf1_4 : Int, ∃ resf2_4 : Int, ∃ resf3_4 : ByteArray, cellsAt hp_8 b_ 0 [(Value.int .i64 resf0_4), (Value.int .u64 resf1_4), (Value.int .i64 resf2_4), (Value.string resf3_4)] ∧
             R (.returned (Value.tuple #[(Value.agg #[(Value.int .i64 resf0_4), (Value.int .u64 resf1_4), (Value.int .i64 resf2_4), (Value.string resf3_4)]), (Value.int .i64 (0 : Int)), (Value.int .i64 (52 : Int))])) hp_8) ∧
            ((decide ((2147483647 : Int) < x34_)) = false →
             (((decide ((491 : Int) < x27_)) = true →
               List.length [(Value.int .i64 (0 : Int)), (Value.int .u64 (0 : Int)), (Value.int .i64 (0 : Int)), (Value.string (⟨#[]⟩ : ByteArray))] = 4 ∧ (∀ c ∈ [(Value.int .i64 (0 : Int)), (Value.int .u64 (0 : Int)), (Value.int .i64 (0 : Int)), (Value.string (⟨#[]⟩ : ByteArray))], c.oneCell' = true) ∧ wrAt hp_7 b_ 0 4 ∧ ∀ hp_9, hp_9 = setsH hp_7 b_ 0 [(Value.int .i64 (0 : Int)), (Value.int .u64 (0 : Int)), (Value.int .i64 (0 : Int)), (Value.string (⟨#[]⟩ : ByteArray))] →
               ∃ resf0_5 : Int, ∃ resf1_5 : Int, ∃ resf2_5 : Int, ∃ resf3_5 : ByteArray, cellsAt hp_9 b_ 0 [(Value.int .i64 resf0_5), (Value.int .u64 resf1_5), (Value.int .i64 resf2_5), (Value.string resf3_5)] ∧
               R (.returned (Value.tuple #[(Value.agg #[(Value.int .i64 resf0_5), (Value.int .u64 resf1_5), (Value.int .i64 resf2_5), (Value.string resf3_5)]), (Value.int .i64 (0 : Int)), (Value.int .i64 (52 : Int))])) hp_9) ∧
              ((decide ((491 : Int) < x27_)) = false →
               Jv_ [] hp_7))))))) ∧
        (∀  hp_10, Jv_ [] hp_10 →
         ∃ x43_, IntKind.i64.wrap ((16 : Int) + x27_) = x43_ ∧
         ∃ (Iv_ : List Value → Hp → Prop) (m_ : List Value → Hp → Nat), Iv_ [(Value.int .i64 x43_)] hp_10 ∧
         (∀ (i_ : Int) hp_11, Iv_ [(Value.int .i64 i_)] hp_11 →
          (((decide (i_ < (507 : Int))) = true →
            0 ≤ i_ ∧ ∃ x50_ : UInt8, s_[Int.toNat i_]? = some x50_ ∧
            (((decide ((x50_.toNat : Int) ≠ (0 : Int))) = true →
              List.length [(Value.int .i64 (0 : Int)), (Value.int .u64 (0 : Int)), (Value.int .i64 (0 : Int)), (Value.string (⟨#[]⟩ : ByteArray))] = 4 ∧ (∀ c ∈ [(Value.int .i64 (0 : Int)), (Value.int .u64 (0 : Int)), (Value.int .i64 (0 : Int)), (Value.string (⟨#[]⟩ : ByteArray))], c.oneCell' = true) ∧ wrAt hp_11 b_ 0 4 ∧ ∀ hp_12, hp_12 = setsH hp_11 b_ 0 [(Value.int .i64 (0 : Int)), (Value.int .u64 (0 : Int)), (Value.int .i64 (0 : Int)), (Value.string (⟨#[]⟩ : ByteArray))] →
              ∃ resf0_6 : Int, ∃ resf1_6 : Int, ∃ resf2_6 : Int, ∃ resf3_6 : ByteArray, cellsAt hp_12 b_ 0 [(Value.int .i64 resf0_6), (Value.int .u64 resf1_6), (Value.int .i64 resf2_6), (Value.string resf3_6)] ∧
              R (.returned (Value.tuple #[(Value.agg #[(Value.int .i64 resf0_6), (Value.int .u64 resf1_6), (Value.int .i64 resf2_6), (Value.string resf3_6)]), (Value.int .i64 (0 : Int)), (Value.int .i64 (52 : Int))])) hp_12) ∧
             ((decide ((x50_.toNat : Int) ≠ (0 : Int))) = false →
              ∃ x47_, IntKind.i64.wrap (i_ + (1 : Int)) = x47_ ∧
              (Iv_ [(Value.int .i64 x47_)] hp_11 ∧ m_ [(Value.int .i64 x47_)] hp_11 < m_ [(Value.int .i64 i_)] hp_11)))) ∧
           ((decide (i_ < (507 : Int))) = false →
            0 ≤ (1 : Int) ∧ ∃ x54_ : UInt8, s_[Int.toNat (1 : Int)]? = some x54_ ∧
            ∃ x55_, IntKind.i64.wrap (x54_.toNat : Int) = x55_ ∧
            ∃ l_4 : Nat, (2 : Int) = (l_4 : Int) ∧
            ∃ u_4 : Nat, (10 : Int) = (u_4 : Int) ∧
            l_4 ≤ u_4 ∧ u_4 ≤ ByteArray.size s_ ∧ ∃ x57_, ByteArray.extract s_ l_4 u_4 = x57_ ∧
            CallsH Tryz.prog 96 #[(Value.string x57_)] hp_11 fun en_3 hp_13 =>
            ∃ x58_ : Int, en_3 = .returned (Value.int .u64 x58_) ∧
            ∃ l_5 : Nat, (10 : Int) = (l_5 : Int) ∧
            ∃ u_5 : Nat, (14 : Int) = (u_5 : Int) ∧
            l_5 ≤ u_5 ∧ u_5 ≤ ByteArray.size s_ ∧ ∃ x60_, ByteArray.extract s_ l_5 u_5 = x60_ ∧
            CallsH Tryz.prog 96 #[(Value.string x60_)] hp_13 fun en_4 hp_14 =>
            ∃ x61_ : Int, en_4 = .returned (Value.int .u64 x61_) ∧
            ∃ x62_, IntKind.i64.wrap x61_ = x62_ ∧
            ∃ x65_, IntKind.i64.wrap ((16 : Int) + x27_) = x65_ ∧
            ∃ l_6 : Nat, (16 : Int) = (l_6 : Int) ∧
            ∃ u_6 : Nat, x65_ = (u_6 : Int) ∧
            l_6 ≤ u_6 ∧ u_6 ≤ ByteArray.size s_ ∧ ∃ x66_, ByteArray.extract s_ l_6 u_6 = x66_ ∧
            0 ≤ (0 : Int) ∧ ∃ x69_ : UInt8, s_[Int.toNat (0 : Int)]? = some x69_ ∧
            ∃ x70_, IntKind.i64.wrap (x69_.toNat : Int) = x70_ ∧
            List.length [(Value.int .i64 x55_), (Value.int .u64 x58_), (Value.int .i64 x62_), (Value.string x66_)] = 4 ∧ (∀ c ∈ [(Value.int .i64 x55_), (Value.int .u64 x58_), (Value.int .i64 x62_), (Value.string x66_)], c.oneCell' = true) ∧ wrAt hp_14 b_ 0 4 ∧ ∀ hp_15, hp_15 = setsH hp_14 b_ 0 [(Value.int .i64 x55_), (Value.int .u64 x58_), (Value.int .i64 x62_), (Value.string x66_)] →
            ∃ resf0_7 : Int, ∃ resf1_7 : Int, ∃ resf2_7 : Int, ∃ resf3_7 : ByteArray, cellsAt hp_15 b_ 0 [(Value.int .i64 resf0_7), (Value.int .u64 resf1_7), (Value.int .i64 resf2_7), (Value.string resf3_7)] ∧
            R (.returned (Value.tuple #[(Value.agg #[(Value.int .i64 resf0_7), (Value.int .u64 resf1_7), (Value.int .i64 resf2_7), (Value.string resf3_7)]), (Value.int .i64 x70_), (Value.int .i64 (0 : Int))])) hp_15))))))))))) :
  CallsH Tryz.prog 81 #[(Value.string s_)] h R := calls_vc fine false Tryz.func81 (ann := A81) (args := [(Value.string s_)]) (by kernel_rfl) (Eq.mpr (by kernel_rfl) H)
/-- turnout/turnoutref02.takes -/
def A82 : Ann := (.seq .nil (.seq (.seq .nil (.block (.loop [(0, (.int .u32)), (5, (.int .i64))] (.seq (.seq .nil (.cond .nil .nil)) (.seq (.block (.seq .nil (.seq .nil (.block (.loop [(0, (.int .u32)), (6, (.int .i64))] (.seq (.seq .nil (.cond .nil .nil)) (.seq (.block .nil) .nil))))))) .nil))))) (.seq .nil .nil)))
theorem V82 (r_ : Int) (b_ : ByteArray) (h : Hp) (R : Ending → Hp → Prop) (H :
  ∃ (Iv_ : List Value → Hp → Prop) (m_ : List Value → Hp → Nat), Iv_ [(Value.int .u32 r_), (Value.int .i64 (0 : Int))] h ∧
  (∀ (r_1 : Int) (i_ : Int) hp_, Iv_ [(Value.int .u32 r_1), (Value.int .i64 i_)] hp_ →
   (((decide (i_ < (ByteArray.size b_ : Int))) = true →
     0 ≤ i_ ∧ ∃ x16_ : UInt8, b_[Int.toNat i_]? = some x16_ ∧
     ∃ x17_, IntKind.u32.wrap (x16_.toNat : Int) = x17_ ∧
     ∃ x18_, xorI .u32 r_1 x17_ = x18_ ∧
     ∃ (Iv_1 : List Value → Hp → Prop) (m_1 : List Value → Hp → Nat), Iv_1 [(Value.int .u32 x18_), (Value.int .i64 (0 : Int))] hp_ ∧
     (∀ (r_2 : Int) (k_ : Int) hp_1, Iv_1 [(Value.int .u32 r_2), (Value.int .i64 k_)] hp_1 →
      (((decide (k_ < (8 : Int))) = true →
        CallsH Tryz.prog 97 #[(Value.int .u32 r_2)] hp_1 fun en_ hp_2 =>
        ∃ x24_ : Int, en_ = .returned (Value.int .u32 x24_) ∧
        ∃ x22_, IntKind.i64.wrap (k_ + (1 : Int)) = x22_ ∧
        (Iv_1 [(Value.int .u32 x24_), (Value.int .i64 x22_)] hp_2 ∧ m_1 [(Value.int .u32 x24_), (Value.int .i64 x22_)] hp_2 < m_1 [(Value.int .u32 r_2), (Value.int .i64 k_)] hp_1)) ∧
       ((decide (k_ < (8 : Int))) = false →
        ∃ x12_, IntKind.i64.wrap (i_ + (1 : Int)) = x12_ ∧
        (Iv_ [(Value.int .u32 r_2), (Value.int .i64 x12_)] hp_1 ∧ m_ [(Value.int .u32 r_2), (Value.int .i64 x12_)] hp_1 < m_ [(Value.int .u32 r_1), (Value.int .i64 i_)] hp_))))) ∧
    ((decide (i_ < (ByteArray.size b_ : Int))) = false →
     R (.returned (Value.int .u32 r_1)) hp_)))) :
  CallsH Tryz.prog 82 #[(Value.int .u32 r_), (Value.string b_)] h R := calls_vc fine false Tryz.func82 (ann := A82) (args := [(Value.int .u32 r_), (Value.string b_)]) (by kernel_rfl) (Eq.mpr (by kernel_rfl) H)
/-- turnout/turnoutref02.over -/
def A83 : Ann := (.seq .nil (.seq .nil .nil))
theorem V83 (r_ : Int) (h : Hp) (R : Ending → Hp → Prop) (H :
  ∃ x4_, IntKind.u32.wrap ((4294967295 : Int) - r_) = x4_ ∧
  R (.returned (Value.int .u32 x4_)) h) :
  CallsH Tryz.prog 83 #[(Value.int .u32 r_)] h R := calls_vc fine false Tryz.func83 (ann := A83) (args := [(Value.int .u32 r_)]) (by kernel_rfl) (Eq.mpr (by kernel_rfl) H)
/-- (*turnout/pack.Writer).ready -/
def A84 : Ann := (.seq .nil (.seq (.join 2) .nil))
theorem V84 (w_ : Option Addr) (h : Hp) (R : Ending → Hp → Prop) (H :
  ∃ B_ : Bool, (∃ x4_, EqV Tryz.prog 118 (Value.pointer w_) (Value.pointer none) x4_ ∧
   (((!x4_) = true →
     ∃ b_ o_, w_ = some ⟨b_, o_, none⟩ ∧
     ∃ x9_ : Int, cellsAt h b_ (o_ + 1) [(Value.int .i64 x9_)] ∧
     h = h ∧ B_ = (decide (x9_ = (0 : Int)))) ∧
    ((!x4_) = false →
     h = h ∧ B_ = false))) ∧
  R (.returned (Value.bool B_)) h) :
  CallsH Tryz.prog 84 #[(Value.pointer w_)] h R := calls_vc fine false Tryz.func84 (ann := A84) (args := [(Value.pointer w_)]) (by kernel_rfl) (Eq.mpr (by kernel_rfl) H)
/-- turnout/frame.lay -/
def A85 : Ann := (.seq .nil (.block (.loop [(1, (.int .u64)), (4, (.int .i64))] (.seq (.seq .nil (.cond .nil .nil)) (.seq (.block (.seq .nil .nil)) .nil)))))
theorem V85 (bp_ : Option Addr) (bn_ bc_ : Nat) (n_ : Int) (h : Hp) (R : Ending → Hp → Prop) (H :
  ∃ x7_, IntKind.i64.wrap (((bn_ : Nat) : Int) - (1 : Int)) = x7_ ∧
  ∃ (Iv_ : List Value → Hp → Prop) (m_ : List Value → Hp → Nat), Iv_ [(Value.int .u64 n_), (Value.int .i64 x7_)] h ∧
  (∀ (n_1 : Int) (i_ : Int) hp_, Iv_ [(Value.int .u64 n_1), (Value.int .i64 i_)] hp_ →
   (((decide ((0 : Int) ≤ i_)) = true →
     ∃ x15_, IntKind.u8.wrap n_1 = x15_ ∧
     ∃ b_ o_, bp_ = some ⟨b_, o_, none⟩ ∧ 0 ≤ i_ ∧ i_ < (bn_ : Int) ∧
     Value.oneCell' (Value.int .u8 x15_) = true ∧ wrAt hp_ b_ (o_ + Int.toNat i_ * 1) 1 ∧ ∀ hp_1, hp_1 = setsH hp_ b_ (o_ + Int.toNat i_ * 1) [(Value.int .u8 x15_)] →
     0 ≤ (8 : Int) ∧ ∃ x18_, shrI .u64 n_1 (8 : Int) = x18_ ∧
     ∃ x11_, IntKind.i64.wrap (i_ - (1 : Int)) = x11_ ∧
     (Iv_ [(Value.int .u64 x18_), (Value.int .i64 x11_)] hp_1 ∧ m_ [(Value.int .u64 x18_), (Value.int .i64 x11_)] hp_1 < m_ [(Value.int .u64 n_1), (Value.int .i64 i_)] hp_)) ∧
    ((decide ((0 : Int) ≤ i_)) = false →
     R (.returned (Value.tuple #[])) hp_)))) :
  CallsH Tryz.prog 85 #[(Value.slice bp_ bn_ bc_), (Value.int .u64 n_)] h R := calls_vc fine false Tryz.func85 (ann := A85) (args := [(Value.slice bp_ bn_ bc_), (Value.int .u64 n_)]) (by kernel_rfl) (Eq.mpr (by kernel_rfl) H)
/-- turnout/pack.Open -/
def A86 : Ann := (.seq .nil (.seq .nil .nil))
theorem V86 (b_ : ByteArray) (h : Hp) (R : Ending → Hp → Prop) (H :
  ∀ b_1 hp_, b_1 = Array.size h → hp_ = Array.push h (.cells #[(Value.string b_), (Value.int .i64 (0 : Int)), (Value.int .i64 (0 : Int)), (Value.int .i64 (0 : Int))] 153) →
  R (.returned (Value.pointer (some ⟨b_1, 0, none⟩))) hp_) :
  CallsH Tryz.prog 86 #[(Value.string b_)] h R := calls_vc fine false Tryz.func86 (ann := A86) (args := [(Value.string b_)]) (by kernel_rfl) (Eq.mpr (by kernel_rfl) H)
/-- (*turnout/pack.Reader).Fixed -/
def A87 : Ann := (.seq .nil (.seq (.seq .nil (.cond (.seq .nil .nil) .nil)) (.seq .nil (.seq .nil (.cut (.seq (.join 21) (.cond .nil .nil)) [] (.seq .nil (.seq (.seq .nil (.block (.loop [(4, (.int .u64)), (29, (.int .i64))] (.seq .nil (.seq (.cond .nil .nil) (.seq (.block (.seq .nil .nil)) .nil)))))) (.seq .nil .nil))))))))
theorem V87 (r_ : Option Addr) (bytes_ : Int) (h : Hp) (R : Ending → Hp → Prop) (H :
  ∀ b_ hp_, b_ = Array.size h → hp_ = Array.push h (.cells #[(Value.pointer r_)] 142) →
  ∃ x8_ : Option Addr, cellsAt hp_ b_ 0 [(Value.pointer x8_)] ∧
  CallsH Tryz.prog 98 #[(Value.pointer x8_)] hp_ fun en_ hp_1 =>
  ∃ x9_ : Bool, en_ = .returned (Value.bool x9_) ∧
  (((!x9_) = true →
    R (.returned (Value.int .u64 (0 : Int))) hp_1) ∧
   ((!x9_) = false →
    ∃ x11_ : Option Addr, cellsAt hp_1 b_ 0 [(Value.pointer x11_)] ∧
    ∃ b_1 o_, x11_ = some ⟨b_1, o_, none⟩ ∧
    ∃ x14_ : Int, cellsAt hp_1 b_1 (o_ + 1) [(Value.int .i64 x14_)] ∧
    ∀ b_2 hp_2, b_2 = Array.size hp_1 → hp_2 = Array.push hp_1 (.cells (zeros Tryz.prog 3) 3) → (∃ i z, Tryz.prog.info? 3 = some i ∧ i.zero = some z) ∧
    Value.oneCell' (Value.int .i64 x14_) = true ∧ wrAt hp_2 b_2 0 1 ∧ ∀ hp_3, hp_3 = setsH hp_2 b_2 0 [(Value.int .i64 x14_)] →
    ∃ Jv_ : List Value → Hp → Prop,
    (∃ B_ : Bool, ((((decide (bytes_ < (1 : Int))) = true →
        hp_3 = hp_3 ∧ B_ = true) ∧
       ((decide (bytes_ < (1 : Int))) = false →
        hp_3 = hp_3 ∧ B_ = (decide ((8 : Int) < bytes_))))) ∧
     ((B_ = true →
       DefH Tryz.prog 99 #[(Value.pointer (some ⟨b_, 0, none⟩)), (Value.pointer (some ⟨b_2, 0, none⟩))] (.panicking [{ v := (Value.iface 27 (Value.int .i64 (1 : Int))), recovered := false }]) hp_3 fun md_ hp_4 =>
       settle md_ = .returning ∧
       R (.returned (Value.int .u64 (0 : Int))) hp_4) ∧
      (B_ = false →
       Jv_ [] hp_3))) ∧
    (∀  hp_5, Jv_ [] hp_5 →
     ∃ x23_ : Option Addr, cellsAt hp_5 b_ 0 [(Value.pointer x23_)] ∧
     ∃ x25_, IntKind.u64.wrap bytes_ = x25_ ∧
     CallsH Tryz.prog 101 #[(Value.pointer x23_), (Value.int .u64 x25_)] hp_5 fun en_1 hp_6 =>
     ((∃ x26_ : ByteArray, en_1 = .returned (Value.string x26_) ∧
       ∃ (Iv_ : List Value → Hp → Prop) (m_ : List Value → Hp → Nat), Iv_ [(Value.int .u64 (0 : Int)), (Value.int .i64 (0 : Int))] hp_6 ∧
       (∀ (n_ : Int) (x29_ : Int) hp_7, Iv_ [(Value.int .u64 n_), (Value.int .i64 x29_)] hp_7 →
        (((decide (x29_ < (ByteArray.size x26_ : Int))) = true →
          0 ≤ (8 : Int) ∧ ∃ x33_, shlI .u64 n_ (8 : Int) = x33_ ∧
          0 ≤ x29_ ∧ ∃ x36_ : UInt8, x26_[Int.toNat x29_]? = some x36_ ∧
          ∃ x37_, IntKind.u64.wrap (x36_.toNat : Int) = x37_ ∧
          ∃ x38_, orI .u64 x33_ x37_ = x38_ ∧
          ∃ x39_, IntKind.i64.wrap (x29_ + (1 : Int)) = x39_ ∧
          (Iv_ [(Value.int .u64 x38_), (Value.int .i64 x39_)] hp_7 ∧ m_ [(Value.int .u64 x38_), (Value.int .i64 x39_)] hp_7 < m_ [(Value.int .u64 n_), (Value.int .i64 x29_)] hp_7)) ∧
         ((decide (x29_ < (ByteArray.size x26_ : Int))) = false →
          DefH Tryz.prog 99 #[(Value.pointer (some ⟨b_, 0, none⟩)), (Value.pointer (some ⟨b_2, 0, none⟩))] .returning hp_7 fun md_1 hp_8 =>
          settle md_1 = .returning ∧
          R (.returned (Value.int .u64 n_)) hp_8)))) ∨
      ∃ c_, en_1 = .panicked c_ ∧ DefH Tryz.prog 99 #[(Value.pointer (some ⟨b_, 0, none⟩)), (Value.pointer (some ⟨b_2, 0, none⟩))] (.panicking c_) hp_6 fun md_2 hp_9 =>
      settle md_2 = .returning ∧
      R (.returned (Value.int .u64 (0 : Int))) hp_9))))) :
  CallsH Tryz.prog 87 #[(Value.pointer r_), (Value.int .i64 bytes_)] h R := calls_vcG fine true Tryz.func87 (ann := A87) (args := [(Value.pointer r_), (Value.int .i64 bytes_)]) (by kernel_rfl) (Eq.mpr (by kernel_rfl) H)
/-- turnout/frame.Open$1 -/
def A88n : Ann := (.seq .nil (.cond .nil .nil))
theorem V88n (a0_ : Option Addr) (a1_ : Option Addr) (a2_ : Option Addr) (u u' : FrameMode) (hx : recU u = (Value.nilIface, u')) (h : Hp) (K : FrameMode → Hp → Prop) (H :
  K u' h) :
  DefH Tryz.prog 88 #[(Value.pointer a0_), (Value.pointer a1_), (Value.pointer a2_)] u h K := calls_vcR fine Tryz.func88 (ann := A88n) (args := [(Value.pointer a0_), (Value.pointer a1_), (Value.pointer a2_)]) hx (by kernel_rfl) (Eq.mpr (by kernel_rfl) H)
def A88p : Ann := (.seq .nil (.cond .nil .nil))
theorem V88p (a0_ : Option Addr) (a1_ : Option Addr) (a2_ : Option Addr) (code_ : Int) (u u' : FrameMode) (hx : recU u = ((Value.iface 146 (Value.agg #[(Value.int .i64 code_)])), u')) (h : Hp) (K : FrameMode → Hp → Prop) (H :
  ∃ b_ o_, a0_ = some ⟨b_, o_, none⟩ ∧
  List.length [(Value.int .i64 (0 : Int)), (Value.int .u64 (0 : Int)), (Value.int .i64 (0 : Int)), (Value.string (⟨#[]⟩ : ByteArray))] = 4 ∧ (∀ c ∈ [(Value.int .i64 (0 : Int)), (Value.int .u64 (0 : Int)), (Value.int .i64 (0 : Int)), (Value.string (⟨#[]⟩ : ByteArray))], c.oneCell' = true) ∧ wrAt h b_ o_ 4 ∧ ∀ hp_, hp_ = setsH h b_ o_ [(Value.int .i64 (0 : Int)), (Value.int .u64 (0 : Int)), (Value.int .i64 (0 : Int)), (Value.string (⟨#[]⟩ : ByteArray))] →
  ∃ b_1 o_1, a1_ = some ⟨b_1, o_1, none⟩ ∧
  Value.oneCell' (Value.int .i64 (0 : Int)) = true ∧ wrAt hp_ b_1 o_1 1 ∧ ∀ hp_1, hp_1 = setsH hp_ b_1 o_1 [(Value.int .i64 (0 : Int))] →
  ∃ b_2 o_2, a2_ = some ⟨b_2, o_2, none⟩ ∧
  Value.oneCell' (Value.int .i64 code_) = true ∧ wrAt hp_1 b_2 o_2 1 ∧ ∀ hp_2, hp_2 = setsH hp_1 b_2 o_2 [(Value.int .i64 code_)] →
  K u' hp_2) :
  DefH Tryz.prog 88 #[(Value.pointer a0_), (Value.pointer a1_), (Value.pointer a2_)] u h K := calls_vcR fine Tryz.func88 (ann := A88p) (args := [(Value.pointer a0_), (Value.pointer a1_), (Value.pointer a2_)]) hx (by kernel_rfl) (Eq.mpr (by kernel_rfl) H)
/-- turnout/frame.want -/
def A89 : Ann := (.seq .nil (.cond .nil .nil))
theorem V89 (ok_ : Bool) (code_ : Int) (h : Hp) (R : Ending → Hp → Prop) (H :
  (((!ok_) = true →
    R (.panicked [{ v := (Value.iface 146 (Value.agg #[(Value.int .i64 code_)])), recovered := false }]) h) ∧
   ((!ok_) = false →
    R (.returned (Value.tuple #[])) h))) :
  CallsH Tryz.prog 89 #[(Value.bool ok_), (Value.int .i64 code_)] h R := calls_vc fine true Tryz.func89 (ann := A89) (args := [(Value.bool ok_), (Value.int .i64 code_)]) (by kernel_rfl) (Eq.mpr (by kernel_rfl) H)
/-- turnout/frame.said -/
def A90 : Ann := (.seq .nil (.seq .nil (.seq (.seq .nil (.block (.loop [(3, (.int .u64)), (7, (.int .i64))] (.seq .nil (.seq (.cond .nil .nil) (.seq (.block (.seq .nil .nil)) .nil)))))) (.seq .nil .nil))))
theorem V90 (s_ : ByteArray) (h : Hp) (R : Ending → Hp → Prop) (H :
  ∃ (Iv_ : List Value → Hp → Prop) (m_ : List Value → Hp → Nat), Iv_ [(Value.int .u64 (0 : Int)), (Value.int .i64 (0 : Int))] h ∧
  (∀ (n_ : Int) (x7_ : Int) hp_, Iv_ [(Value.int .u64 n_), (Value.int .i64 x7_)] hp_ →
   (((decide (x7_ < (ByteArray.size s_ : Int))) = true →
     0 ≤ (8 : Int) ∧ ∃ x11_, shlI .u64 n_ (8 : Int) = x11_ ∧
     0 ≤ x7_ ∧ ∃ x14_ : UInt8, s_[Int.toNat x7_]? = some x14_ ∧
     ∃ x15_, IntKind.u64.wrap (x14_.toNat : Int) = x15_ ∧
     ∃ x16_, orI .u64 x11_ x15_ = x16_ ∧
     ∃ x17_, IntKind.i64.wrap (x7_ + (1 : Int)) = x17_ ∧
     (Iv_ [(Value.int .u64 x16_), (Value.int .i64 x17_)] hp_ ∧ m_ [(Value.int .u64 x16_), (Value.int .i64 x17_)] hp_ < m_ [(Value.int .u64 n_), (Value.int .i64 x7_)] hp_)) ∧
    ((decide (x7_ < (ByteArray.size s_ : Int))) = false →
     R (.returned (Value.int .u64 n_)) hp_)))) :
  CallsH Tryz.prog 90 #[(Value.string s_)] h R := calls_vc fine false Tryz.func90 (ann := A90) (args := [(Value.string s_)]) (by kernel_rfl) (Eq.mpr (by kernel_rfl) H)
/-- turnout/turnoutref20.Lay -/
def A91 : Ann := (.seq .nil (.cut (.seq (.join 15) (.cond (.seq .nil .nil) .nil)) [] (.cut (.seq (.join 26) (.cond (.seq .nil .nil) .nil)) [] (.seq .nil .nil))))
theorem V91 (n_ : Int) (slot_ : Int) (h : Hp) (R : Ending → Hp → Prop) (H :
  ∀ b_ hp_, b_ = Array.size h → hp_ = Array.push h (.cells (zeros Tryz.prog 37) 37) → (∃ i z, Tryz.prog.info? 37 = some i ∧ i.zero = some z) ∧
  ∃ Jv_ : List Value → Hp → Prop,
  (∃ B_ : Bool, ((((decide (n_ < (1 : Int))) = true →
      hp_ = hp_ ∧ B_ = true) ∧
     ((decide (n_ < (1 : Int))) = false →
      (((decide ((4096 : Int) < n_)) = true →
        hp_ = hp_ ∧ B_ = true) ∧
       ((decide ((4096 : Int) < n_)) = false →
        hp_ = hp_ ∧ B_ = (decide (slot_ < (1 : Int)))))))) ∧
   ((B_ = true →
     List.length [(Value.int .i64 (0 : Int)), (Value.int .i64 (0 : Int))] = 2 ∧ (∀ c ∈ [(Value.int .i64 (0 : Int)), (Value.int .i64 (0 : Int))], c.oneCell' = true) ∧ wrAt hp_ b_ 0 2 ∧ ∀ hp_1, hp_1 = setsH hp_ b_ 0 [(Value.int .i64 (0 : Int)), (Value.int .i64 (0 : Int))] →
     ∃ resf0_ : Int, ∃ resf1_ : Int, cellsAt hp_1 b_ 0 [(Value.int .i64 resf0_), (Value.int .i64 resf1_)] ∧
     R (.returned (Value.tuple #[(Value.agg #[(Value.int .i64 resf0_), (Value.int .i64 resf1_)]), (Value.int .i64 (1 : Int))])) hp_1) ∧
    (B_ = false →
     Jv_ [] hp_))) ∧
  (∀  hp_2, Jv_ [] hp_2 →
   ∃ Jv_1 : List Value → Hp → Prop,
   (∃ B_1 : Bool, ((((decide ((4096 : Int) < slot_)) = true →
       hp_2 = hp_2 ∧ B_1 = true) ∧
      ((decide ((4096 : Int) < slot_)) = false →
       ∃ x21_, IntKind.i64.wrap (n_ - (2 : Int)) = x21_ ∧
       ∃ x23_, IntKind.i64.wrap ((2 : Int) * slot_) = x23_ ∧
       ∃ x24_, IntKind.i64.wrap (x21_ - x23_) = x24_ ∧
       hp_2 = hp_2 ∧ B_1 = (decide (x24_ < (1 : Int)))))) ∧
    ((B_1 = true →
      List.length [(Value.int .i64 (0 : Int)), (Value.int .i64 (0 : Int))] = 2 ∧ (∀ c ∈ [(Value.int .i64 (0 : Int)), (Value.int .i64 (0 : Int))], c.oneCell' = true) ∧ wrAt hp_2 b_ 0 2 ∧ ∀ hp_3, hp_3 = setsH hp_2 b_ 0 [(Value.int .i64 (0 : Int)), (Value.int .i64 (0 : Int))] →
      ∃ resf0_1 : Int, ∃ resf1_1 : Int, cellsAt hp_3 b_ 0 [(Value.int .i64 resf0_1), (Value.int .i64 resf1_1)] ∧
      R (.returned (Value.tuple #[(Value.agg #[(Value.int .i64 resf0_1), (Value.int .i64 resf1_1)]), (Value.int .i64 (202 : Int))])) hp_3) ∧
     (B_1 = false →
      Jv_1 [] hp_2))) ∧
   (∀  hp_4, Jv_1 [] hp_4 →
    ∃ x30_, IntKind.i64.wrap (n_ - (2 : Int)) = x30_ ∧
    ∃ x32_, IntKind.i64.wrap ((2 : Int) * slot_) = x32_ ∧
    ∃ x33_, IntKind.i64.wrap (x30_ - x32_) = x33_ ∧
    List.length [(Value.int .i64 slot_), (Value.int .i64 x33_)] = 2 ∧ (∀ c ∈ [(Value.int .i64 slot_), (Value.int .i64 x33_)], c.oneCell' = true) ∧ wrAt hp_4 b_ 0 2 ∧ ∀ hp_5, hp_5 = setsH hp_4 b_ 0 [(Value.int .i64 slot_), (Value.int .i64 x33_)] →
    ∃ resf0_2 : Int, ∃ resf1_2 : Int, cellsAt hp_5 b_ 0 [(Value.int .i64 resf0_2), (Value.int .i64 resf1_2)] ∧
    R (.returned (Value.tuple #[(Value.agg #[(Value.int .i64 resf0_2), (Value.int .i64 resf1_2)]), (Value.int .i64 (0 : Int))])) hp_5))) :
  CallsH Tryz.prog 91 #[(Value.int .i64 n_), (Value.int .i64 slot_)] h R := calls_vc fine false Tryz.func91 (ann := A91) (args := [(Value.int .i64 n_), (Value.int .i64 slot_)]) (by kernel_rfl) (Eq.mpr (by kernel_rfl) H)
/-- turnout/turnoutref05.Wrong -/
def A92 : Ann := (.seq .nil (.seq (.seq (.join 20) (.cond (.seq .nil .nil) .nil)) (.seq (.seq .nil (.cond (.seq .nil .nil) .nil)) (.seq .nil .nil))))
theorem V92 (ff0_ : Int) (ff1_ : Int) (ff2_ : Int) (ff3_ : ByteArray) (h : Hp) (R : Ending → Hp → Prop) (H :
  ∀ b_ hp_, b_ = Array.size h → hp_ = Array.push h (.cells #[(Value.int .i64 ff0_), (Value.int .u64 ff1_), (Value.int .i64 ff2_), (Value.string ff3_)] 95) →
  ∃ B_ : Bool, (∃ x4_ : Int, cellsAt hp_ b_ (0 + 0) [(Value.int .i64 x4_)] ∧
   (((decide (x4_ < (1 : Int))) = true →
     hp_ = hp_ ∧ B_ = true) ∧
    ((decide (x4_ < (1 : Int))) = false →
     ∃ x8_ : Int, cellsAt hp_ b_ (0 + 0) [(Value.int .i64 x8_)] ∧
     (((decide ((255 : Int) < x8_)) = true →
       hp_ = hp_ ∧ B_ = true) ∧
      ((decide ((255 : Int) < x8_)) = false →
       ∃ x13_ : Int, cellsAt hp_ b_ (0 + 2) [(Value.int .i64 x13_)] ∧
       (((decide (x13_ < (0 : Int))) = true →
         hp_ = hp_ ∧ B_ = true) ∧
        ((decide (x13_ < (0 : Int))) = false →
         ∃ x18_ : Int, cellsAt hp_ b_ (0 + 2) [(Value.int .i64 x18_)] ∧
         hp_ = hp_ ∧ B_ = (decide ((2147483647 : Int) < x18_))))))))) ∧
  ((B_ = true →
    R (.returned (Value.int .i64 (1 : Int))) hp_) ∧
   (B_ = false →
    ∃ x22_ : ByteArray, cellsAt hp_ b_ (0 + 3) [(Value.string x22_)] ∧
    (((decide ((491 : Int) < (ByteArray.size x22_ : Int))) = true →
      R (.returned (Value.int .i64 (2 : Int))) hp_) ∧
     ((decide ((491 : Int) < (ByteArray.size x22_ : Int))) = false →
      R (.returned (Value.int .i64 (0 : Int))) hp_))))) :
  CallsH Tryz.prog 92 #[(Value.agg #[(Value.int .i64 ff0_), (Value.int .u64 ff1_), (Value.int .i64 ff2_), (Value.string ff3_)])] h R := calls_vc fine false Tryz.func92 (ann := A92) (args := [(Value.agg #[(Value.int .i64 ff0_), (Value.int .u64 ff1_), (Value.int .i64 ff2_), (Value.string ff3_)])]) (by kernel_rfl) (Eq.mpr (by kernel_rfl) H)
/-- turnout/turnoutref05.Seal -/
def A93 : Ann := (.seq .nil (.cut (.seq (.join 14) (.cond (.seq .nil .nil) .nil)) [] (.seq .nil (.seq (.seq .nil (.cond (.seq .nil .nil) .nil)) (.seq (.drawLast [5, 9, 14, 20]) (.seq .nil (.seq .nil (.seq .nil .nil))))))))
theorem V93 (ff0_ : Int) (ff1_ : Int) (ff2_ : Int) (ff3_ : ByteArray) (mark_ : Int) (h : Hp) (R : Ending → Hp → Prop) (H :
  ∀ b_ hp_, b_ = Array.size h → hp_ = Array.push h (.cells #[(Value.int .i64 ff0_), (Value.int .u64 ff1_), (Value.int .i64 ff2_), (Value.string ff3_)] 95) →
  ∃ Jv_ : List Value → Hp → Prop,
  (∃ B_ : Bool, ((((decide (mark_ < (0 : Int))) = true →
      hp_ = hp_ ∧ B_ = true) ∧
     ((decide (mark_ < (0 : Int))) = false →
      hp_ = hp_ ∧ B_ = (decide ((255 : Int) < mark_))))) ∧
   ((B_ = true →
     R (.returned (Value.tuple #[(Value.string (⟨#[]⟩ : ByteArray)), (Value.int .i64 (1 : Int))])) hp_) ∧
    (B_ = false →
     Jv_ [] hp_))) ∧
  (∀  hp_1, Jv_ [] hp_1 →
   ∃ x15f0_ : Int, ∃ x15f1_ : Int, ∃ x15f2_ : Int, ∃ x15f3_ : ByteArray, cellsAt hp_1 b_ 0 [(Value.int .i64 x15f0_), (Value.int .u64 x15f1_), (Value.int .i64 x15f2_), (Value.string x15f3_)] ∧
   CallsH Tryz.prog 92 #[(Value.agg #[(Value.int .i64 x15f0_), (Value.int .u64 x15f1_), (Value.int .i64 x15f2_), (Value.string x15f3_)])] hp_1 fun en_ hp_2 =>
   ∃ x16_ : Int, en_ = .returned (Value.int .i64 x16_) ∧
   (((decide (x16_ ≠ (0 : Int))) = true →
     R (.returned (Value.tuple #[(Value.string (⟨#[]⟩ : ByteArray)), (Value.int .i64 x16_)])) hp_2) ∧
    ((decide (x16_ ≠ (0 : Int))) = false →
     ∃ Cv_ : Hp → Prop, Cv_ hp_2 ∧
     ∃ x21_ : Int, cellsAt hp_2 b_ (0 + 0) [(Value.int .i64 x21_)] ∧
     ∃ x22_, IntKind.u64.wrap x21_ = x22_ ∧
     CallsH Tryz.prog 102 #[(Value.int .u64 x22_), (Value.int .i64 (1 : Int))] hp_2 fun en_1 hp_3 =>
     ∃ x23_ : ByteArray, en_1 = .returned (Value.string x23_) ∧
     Cv_ hp_3 ∧
     ∃ x25_ : Int, (∀ h', Cv_ h' → cellsAt h' b_ (0 + 1) [(Value.int .u64 x25_)]) ∧
     CallsH Tryz.prog 102 #[(Value.int .u64 x25_), (Value.int .i64 (8 : Int))] hp_3 fun en_2 hp_4 =>
     ∃ x26_ : ByteArray, en_2 = .returned (Value.string x26_) ∧
     Cv_ hp_4 ∧
     ByteArray.size x23_ + ByteArray.size x26_ ≤ 9223372036854775807 ∧ ∃ x27_, x23_ ++ x26_ = x27_ ∧
     ∃ x29_ : Int, (∀ h', Cv_ h' → cellsAt h' b_ (0 + 2) [(Value.int .i64 x29_)]) ∧
     ∃ x30_, IntKind.u64.wrap x29_ = x30_ ∧
     CallsH Tryz.prog 102 #[(Value.int .u64 x30_), (Value.int .i64 (4 : Int))] hp_4 fun en_3 hp_5 =>
     ∃ x31_ : ByteArray, en_3 = .returned (Value.string x31_) ∧
     Cv_ hp_5 ∧
     ByteArray.size x27_ + ByteArray.size x31_ ≤ 9223372036854775807 ∧ ∃ x32_, x27_ ++ x31_ = x32_ ∧
     ∃ x34_ : ByteArray, (∀ h', Cv_ h' → cellsAt h' b_ (0 + 3) [(Value.string x34_)]) ∧
     ∃ x36_, IntKind.u64.wrap (ByteArray.size x34_ : Int) = x36_ ∧
     CallsH Tryz.prog 102 #[(Value.int .u64 x36_), (Value.int .i64 (2 : Int))] hp_5 fun en_4 hp_6 =>
     ∃ x37_ : ByteArray, en_4 = .returned (Value.string x37_) ∧
     Cv_ hp_6 ∧
     ByteArray.size x32_ + ByteArray.size x37_ ≤ 9223372036854775807 ∧ ∃ x38_, x32_ ++ x37_ = x38_ ∧
     ∃ x40_ : ByteArray, (∀ h', Cv_ h' → cellsAt h' b_ (0 + 3) [(Value.string x40_)]) ∧
     ByteArray.size x38_ + ByteArray.size x40_ ≤ 9223372036854775807 ∧ ∃ x41_, x38_ ++ x40_ = x41_ ∧
     ∃ x44_ : ByteArray, cellsAt hp_6 b_ (0 + 3) [(Value.string x44_)] ∧
     ∃ x46_, IntKind.i64.wrap ((491 : Int) - (ByteArray.size x44_ : Int)) = x46_ ∧
     SemH Tryz.prog (Instr.makeSlice 56 (Value.int .i64 x46_) (Value.int .i64 x46_)) hp_6 fun v_ hp_7 =>
     ∃ (x47p_ : Option Addr) (x47n_ x47c_ : Nat), v_ = (Value.slice x47p_ x47n_ x47c_) ∧
     SemH Tryz.prog (convert 56 9 (Value.slice x47p_ x47n_ x47c_)) hp_7 fun v_1 hp_8 =>
     ∃ x48_ : ByteArray, v_1 = (Value.string x48_) ∧
     ByteArray.size x41_ + ByteArray.size x48_ ≤ 9223372036854775807 ∧ ∃ x49_, x41_ ++ x48_ = x49_ ∧
     ∃ x51_, IntKind.u64.wrap mark_ = x51_ ∧
     CallsH Tryz.prog 102 #[(Value.int .u64 x51_), (Value.int .i64 (1 : Int))] hp_8 fun en_5 hp_9 =>
     ∃ x52_ : ByteArray, en_5 = .returned (Value.string x52_) ∧
     ByteArray.size x52_ + ByteArray.size x49_ ≤ 9223372036854775807 ∧ ∃ x55_, x52_ ++ x49_ = x55_ ∧
     CallsH Tryz.prog 95 #[(Value.string x49_)] hp_9 fun en_6 hp_10 =>
     ∃ x57_ : ByteArray, en_6 = .returned (Value.string x57_) ∧
     ByteArray.size x55_ + ByteArray.size x57_ ≤ 9223372036854775807 ∧ ∃ x58_, x55_ ++ x57_ = x58_ ∧
     ByteArray.size x58_ + ByteArray.size x52_ ≤ 9223372036854775807 ∧ ∃ x60_, x58_ ++ x52_ = x60_ ∧
     R (.returned (Value.tuple #[(Value.string x60_), (Value.int .i64 (0 : Int))])) hp_10)))) :
  CallsH Tryz.prog 93 #[(Value.agg #[(Value.int .i64 ff0_), (Value.int .u64 ff1_), (Value.int .i64 ff2_), (Value.string ff3_)]), (Value.int .i64 mark_)] h R := calls_vc fine false Tryz.func93 (ann := A93) (args := [(Value.agg #[(Value.int .i64 ff0_), (Value.int .u64 ff1_), (Value.int .i64 ff2_), (Value.string ff3_)]), (Value.int .i64 mark_)]) (by kernel_rfl) (Eq.mpr (by kernel_rfl) H)
/-- turnout/turnoutref20.said -/
def A94 : Ann := (.seq .nil (.seq .nil (.seq (.seq .nil (.block (.loop [(3, (.int .u64)), (4, (.int .i64))] (.seq (.seq .nil (.cond .nil .nil)) (.seq (.block .nil) .nil))))) (.seq .nil .nil))))
theorem V94 (s_ : ByteArray) (h : Hp) (R : Ending → Hp → Prop) (H :
  ∃ (Iv_ : List Value → Hp → Prop) (m_ : List Value → Hp → Nat), Iv_ [(Value.int .u64 (0 : Int)), (Value.int .i64 (0 : Int))] h ∧
  (∀ (n_ : Int) (i_ : Int) hp_, Iv_ [(Value.int .u64 n_), (Value.int .i64 i_)] hp_ →
   (((decide (i_ < (ByteArray.size s_ : Int))) = true →
     ∃ x12_, IntKind.u64.wrap ((256 : Int) * n_) = x12_ ∧
     0 ≤ i_ ∧ ∃ x15_ : UInt8, s_[Int.toNat i_]? = some x15_ ∧
     ∃ x16_, IntKind.u64.wrap (x15_.toNat : Int) = x16_ ∧
     ∃ x17_, IntKind.u64.wrap (x12_ + x16_) = x17_ ∧
     ∃ x10_, IntKind.i64.wrap (i_ + (1 : Int)) = x10_ ∧
     (Iv_ [(Value.int .u64 x17_), (Value.int .i64 x10_)] hp_ ∧ m_ [(Value.int .u64 x17_), (Value.int .i64 x10_)] hp_ < m_ [(Value.int .u64 n_), (Value.int .i64 i_)] hp_)) ∧
    ((decide (i_ < (ByteArray.size s_ : Int))) = false →
     R (.returned (Value.int .u64 n_)) hp_)))) :
  CallsH Tryz.prog 94 #[(Value.string s_)] h R := calls_vc fine false Tryz.func94 (ann := A94) (args := [(Value.string s_)]) (by kernel_rfl) (Eq.mpr (by kernel_rfl) H)
/-- turnout/turnoutref05.Sum -/
def A95 : Ann := (.seq .nil (.seq .nil (.seq .nil .nil)))
theorem V95 (s_ : ByteArray) (h : Hp) (R : Ending → Hp → Prop) (H :
  CallsH Tryz.prog 61 #[(Value.int .u32 (0 : Int)), (Value.string s_)] h fun en_ hp_ =>
  ∃ x5_ : Int, en_ = .returned (Value.int .u32 x5_) ∧
  ∃ x6_, IntKind.u64.wrap x5_ = x6_ ∧
  CallsH Tryz.prog 102 #[(Value.int .u64 x6_), (Value.int .i64 (4 : Int))] hp_ fun en_1 hp_1 =>
  ∃ x7_ : ByteArray, en_1 = .returned (Value.string x7_) ∧
  ∃ l_ : Nat, (3 : Int) = (l_ : Int) ∧
  l_ ≤ (ByteArray.size x7_) ∧ (ByteArray.size x7_) ≤ ByteArray.size x7_ ∧ ∃ x9_, ByteArray.extract x7_ l_ (ByteArray.size x7_) = x9_ ∧
  ∃ l_1 : Nat, (2 : Int) = (l_1 : Int) ∧
  ∃ u_ : Nat, (3 : Int) = (u_ : Int) ∧
  l_1 ≤ u_ ∧ u_ ≤ ByteArray.size x7_ ∧ ∃ x11_, ByteArray.extract x7_ l_1 u_ = x11_ ∧
  ByteArray.size x9_ + ByteArray.size x11_ ≤ 9223372036854775807 ∧ ∃ x12_, x9_ ++ x11_ = x12_ ∧
  ∃ l_2 : Nat, (1 : Int) = (l_2 : Int) ∧
  ∃ u_1 : Nat, (2 : Int) = (u_1 : Int) ∧
  l_2 ≤ u_1 ∧ u_1 ≤ ByteArray.size x7_ ∧ ∃ x14_, ByteArray.extract x7_ l_2 u_1 = x14_ ∧
  ByteArray.size x12_ + ByteArray.size x14_ ≤ 9223372036854775807 ∧ ∃ x15_, x12_ ++ x14_ = x15_ ∧
  ∃ u_2 : Nat, (1 : Int) = (u_2 : Int) ∧
  0 ≤ u_2 ∧ u_2 ≤ ByteArray.size x7_ ∧ ∃ x17_, ByteArray.extract x7_ 0 u_2 = x17_ ∧
  ByteArray.size x15_ + ByteArray.size x17_ ≤ 9223372036854775807 ∧ ∃ x18_, x15_ ++ x17_ = x18_ ∧
  R (.returned (Value.string x18_)) hp_1) :
  CallsH Tryz.prog 95 #[(Value.string s_)] h R := calls_vc fine false Tryz.func95 (ann := A95) (args := [(Value.string s_)]) (by kernel_rfl) (Eq.mpr (by kernel_rfl) H)
/-- turnout/turnoutref05.number -/
def A96 : Ann := (.seq .nil (.seq .nil (.seq (.seq .nil (.block (.loop [(3, (.int .u64)), (4, (.int .i64))] (.seq (.seq .nil (.cond .nil .nil)) (.seq (.block .nil) .nil))))) (.seq .nil .nil))))
theorem V96 (s_ : ByteArray) (h : Hp) (R : Ending → Hp → Prop) (H :
  ∃ (Iv_ : List Value → Hp → Prop) (m_ : List Value → Hp → Nat), Iv_ [(Value.int .u64 (0 : Int)), (Value.int .i64 (0 : Int))] h ∧
  (∀ (n_ : Int) (i_ : Int) hp_, Iv_ [(Value.int .u64 n_), (Value.int .i64 i_)] hp_ →
   (((decide (i_ < (ByteArray.size s_ : Int))) = true →
     ∃ x12_, IntKind.u64.wrap ((256 : Int) * n_) = x12_ ∧
     0 ≤ i_ ∧ ∃ x15_ : UInt8, s_[Int.toNat i_]? = some x15_ ∧
     ∃ x16_, IntKind.u64.wrap (x15_.toNat : Int) = x16_ ∧
     ∃ x17_, IntKind.u64.wrap (x12_ + x16_) = x17_ ∧
     ∃ x10_, IntKind.i64.wrap (i_ + (1 : Int)) = x10_ ∧
     (Iv_ [(Value.int .u64 x17_), (Value.int .i64 x10_)] hp_ ∧ m_ [(Value.int .u64 x17_), (Value.int .i64 x10_)] hp_ < m_ [(Value.int .u64 n_), (Value.int .i64 i_)] hp_)) ∧
    ((decide (i_ < (ByteArray.size s_ : Int))) = false →
     R (.returned (Value.int .u64 n_)) hp_)))) :
  CallsH Tryz.prog 96 #[(Value.string s_)] h R := calls_vc fine false Tryz.func96 (ann := A96) (args := [(Value.string s_)]) (by kernel_rfl) (Eq.mpr (by kernel_rfl) H)
/-- turnout/turnoutref02.turn -/
def A97 : Ann := (.seq .nil (.seq (.seq .nil (.cond (.seq .nil .nil) .nil)) (.seq .nil .nil)))
theorem V97 (r_ : Int) (h : Hp) (R : Ending → Hp → Prop) (H :
  (2 : Int) ≠ 0 ∧ ∃ x4_, Int.tmod r_ (2 : Int) = x4_ ∧
  (((decide (x4_ = (1 : Int))) = true →
    (2 : Int) ≠ 0 ∧ ∃ x7_, IntKind.u32.wrap (Int.tdiv r_ (2 : Int)) = x7_ ∧
    ∃ x8_, xorI .u32 x7_ (3988292384 : Int) = x8_ ∧
    R (.returned (Value.int .u32 x8_)) h) ∧
   ((decide (x4_ = (1 : Int))) = false →
    (2 : Int) ≠ 0 ∧ ∃ x10_, IntKind.u32.wrap (Int.tdiv r_ (2 : Int)) = x10_ ∧
    R (.returned (Value.int .u32 x10_)) h))) :
  CallsH Tryz.prog 97 #[(Value.int .u32 r_)] h R := calls_vc fine false Tryz.func97 (ann := A97) (args := [(Value.int .u32 r_)]) (by kernel_rfl) (Eq.mpr (by kernel_rfl) H)
/-- (*turnout/pack.Reader).begin -/
def A98 : Ann := (.seq .nil (.seq (.join 2) .nil))
theorem V98 (r_ : Option Addr) (h : Hp) (R : Ending → Hp → Prop) (H :
  ∃ B_ : Bool, (∃ x4_, EqV Tryz.prog 142 (Value.pointer r_) (Value.pointer none) x4_ ∧
   (((!x4_) = true →
     ∃ b_ o_, r_ = some ⟨b_, o_, none⟩ ∧
     ∃ x9_ : Int, cellsAt h b_ (o_ + 2) [(Value.int .i64 x9_)] ∧
     h = h ∧ B_ = (decide (x9_ = (0 : Int)))) ∧
    ((!x4_) = false →
     h = h ∧ B_ = false))) ∧
  R (.returned (Value.bool B_)) h) :
  CallsH Tryz.prog 98 #[(Value.pointer r_)] h R := calls_vc fine false Tryz.func98 (ann := A98) (args := [(Value.pointer r_)]) (by kernel_rfl) (Eq.mpr (by kernel_rfl) H)
/-- (*turnout/pack.Reader).Fixed$1 -/
theorem V99 (a0_ : Option Addr) (a1_ : Option Addr) (X_ : Value) (u u' : FrameMode) (hx : recU u = (X_, u')) (h : Hp) (K : FrameMode → Hp → Prop) (H :
  ∃ b_ o_, a0_ = some ⟨b_, o_, none⟩ ∧
  ∃ x_ : Option Addr, cellsAt h b_ o_ [(Value.pointer x_)] ∧
  ∃ b_1 o_1, a1_ = some ⟨b_1, o_1, none⟩ ∧
  ∃ y_ : Int, cellsAt h b_1 o_1 [(Value.int .i64 y_)] ∧
  CallsH Tryz.prog 100 #[(Value.pointer x_), (Value.int .i64 y_), X_] h fun en_ hp_ =>
  en_ = .returned (Value.tuple #[]) ∧
  K u' hp_) :
  DefH Tryz.prog 99 #[(Value.pointer a0_), (Value.pointer a1_)] u h K := calls_vcRD fine Tryz.func99 (args := [(Value.pointer a0_), (Value.pointer a1_)]) hx (by kernel_rfl) (Eq.mpr (by kernel_rfl) H)
/-- (*turnout/pack.Reader).caught -/
def A100n : Ann := (.seq .nil (.seq .nil (.cond .nil (.seq .nil (.cond .nil .nil)))))
theorem V100n (r_ : Option Addr) (fromv_ : Int) (h : Hp) (R : Ending → Hp → Prop) (H :
  ((false = true →
    ∃ b_ o_, r_ = some ⟨b_, o_, none⟩ ∧
    Value.oneCell' (Value.int .i64 (0 : Int)) = true ∧ wrAt h b_ (o_ + 2) 1 ∧ ∀ hp_, hp_ = setsH h b_ (o_ + 2) [(Value.int .i64 (0 : Int))] →
    ∃ b_1 o_1, r_ = some ⟨b_1, o_1, none⟩ ∧
    Value.oneCell' (Value.int .i64 fromv_) = true ∧ wrAt hp_ b_1 (o_1 + 1) 1 ∧ ∀ hp_1, hp_1 = setsH hp_ b_1 (o_1 + 1) [(Value.int .i64 fromv_)] →
    ∃ b_2 o_2, r_ = some ⟨b_2, o_2, none⟩ ∧
    Value.oneCell' (Value.int .i64 fromv_) = true ∧ wrAt hp_1 b_2 (o_2 + 3) 1 ∧ ∀ hp_2, hp_2 = setsH hp_1 b_2 (o_2 + 3) [(Value.int .i64 fromv_)] →
    R (.returned (Value.tuple #[])) hp_2) ∧
   (false = false →
    R (.returned (Value.tuple #[])) h))) :
  CallsH Tryz.prog 100 #[(Value.pointer r_), (Value.int .i64 fromv_), Value.nilIface] h R := calls_vc fine true Tryz.func100 (ann := A100n) (args := [(Value.pointer r_), (Value.int .i64 fromv_), Value.nilIface]) (by kernel_rfl) (Eq.mpr (by kernel_rfl) H)
def A100p : Ann := (.seq .nil (.seq .nil (.cond .nil (.seq .nil (.cond .nil .nil)))))
theorem V100p (r_ : Option Addr) (fromv_ : Int) (code_ : Int) (h : Hp) (R : Ending → Hp → Prop) (H :
  ((true = true →
    ∃ b_ o_, r_ = some ⟨b_, o_, none⟩ ∧
    Value.oneCell' (Value.int .i64 code_) = true ∧ wrAt h b_ (o_ + 2) 1 ∧ ∀ hp_, hp_ = setsH h b_ (o_ + 2) [(Value.int .i64 code_)] →
    ∃ b_1 o_1, r_ = some ⟨b_1, o_1, none⟩ ∧
    Value.oneCell' (Value.int .i64 fromv_) = true ∧ wrAt hp_ b_1 (o_1 + 1) 1 ∧ ∀ hp_1, hp_1 = setsH hp_ b_1 (o_1 + 1) [(Value.int .i64 fromv_)] →
    ∃ b_2 o_2, r_ = some ⟨b_2, o_2, none⟩ ∧
    Value.oneCell' (Value.int .i64 fromv_) = true ∧ wrAt hp_1 b_2 (o_2 + 3) 1 ∧ ∀ hp_2, hp_2 = setsH hp_1 b_2 (o_2 + 3) [(Value.int .i64 fromv_)] →
    R (.returned (Value.tuple #[])) hp_2) ∧
   (true = false →
    R (.panicked [{ v := (Value.iface 27 (Value.int .i64 code_)), recovered := false }]) h))) :
  CallsH Tryz.prog 100 #[(Value.pointer r_), (Value.int .i64 fromv_), (Value.iface 27 (Value.int .i64 code_))] h R := calls_vc fine true Tryz.func100 (ann := A100p) (args := [(Value.pointer r_), (Value.int .i64 fromv_), (Value.iface 27 (Value.int .i64 code_))]) (by kernel_rfl) (Eq.mpr (by kernel_rfl) H)
/-- (*turnout/pack.Reader).take -/
def A101 : Ann := (.seq .nil (.cut (.seq .nil (.cond .nil .nil)) [] (.seq .nil (.seq .nil (.seq .nil .nil)))))
theorem V101 (r_ : Option Addr) (n_ : Int) (h : Hp) (R : Ending → Hp → Prop) (H :
  ∃ Jv_ : List Value → Hp → Prop,
  (∃ b_ o_, r_ = some ⟨b_, o_, none⟩ ∧
   ∃ x10_ : ByteArray, cellsAt h b_ (o_ + 0) [(Value.string x10_)] ∧
   ∃ b_1 o_1, r_ = some ⟨b_1, o_1, none⟩ ∧
   ∃ x15_ : Int, cellsAt h b_1 (o_1 + 1) [(Value.int .i64 x15_)] ∧
   ∃ x16_, IntKind.i64.wrap ((ByteArray.size x10_ : Int) - x15_) = x16_ ∧
   ∃ x17_, IntKind.u64.wrap x16_ = x17_ ∧
   (((decide (x17_ < n_)) = true →
     R (.panicked [{ v := (Value.iface 27 (Value.int .i64 (3 : Int))), recovered := false }]) h) ∧
    ((decide (x17_ < n_)) = false →
     Jv_ [] h))) ∧
  (∀  hp_, Jv_ [] hp_ →
   ∃ b_2 o_2, r_ = some ⟨b_2, o_2, none⟩ ∧
   ∃ x23_ : ByteArray, cellsAt hp_ b_2 (o_2 + 0) [(Value.string x23_)] ∧
   ∃ b_3 o_3, r_ = some ⟨b_3, o_3, none⟩ ∧
   ∃ x27_ : Int, cellsAt hp_ b_3 (o_3 + 1) [(Value.int .i64 x27_)] ∧
   ∃ b_4 o_4, r_ = some ⟨b_4, o_4, none⟩ ∧
   ∃ x31_ : Int, cellsAt hp_ b_4 (o_4 + 1) [(Value.int .i64 x31_)] ∧
   ∃ x33_, IntKind.i64.wrap n_ = x33_ ∧
   ∃ x34_, IntKind.i64.wrap (x31_ + x33_) = x34_ ∧
   ∃ l_ : Nat, x27_ = (l_ : Int) ∧
   ∃ u_ : Nat, x34_ = (u_ : Int) ∧
   l_ ≤ u_ ∧ u_ ≤ ByteArray.size x23_ ∧ ∃ x35_, ByteArray.extract x23_ l_ u_ = x35_ ∧
   ∃ b_5 o_5, r_ = some ⟨b_5, o_5, none⟩ ∧
   ∃ x39_ : Int, cellsAt hp_ b_5 (o_5 + 1) [(Value.int .i64 x39_)] ∧
   ∃ x41_, IntKind.i64.wrap n_ = x41_ ∧
   ∃ x42_, IntKind.i64.wrap (x39_ + x41_) = x42_ ∧
   ∃ b_6 o_6, r_ = some ⟨b_6, o_6, none⟩ ∧
   Value.oneCell' (Value.int .i64 x42_) = true ∧ wrAt hp_ b_6 (o_6 + 1) 1 ∧ ∀ hp_1, hp_1 = setsH hp_ b_6 (o_6 + 1) [(Value.int .i64 x42_)] →
   R (.returned (Value.string x35_)) hp_1)) :
  CallsH Tryz.prog 101 #[(Value.pointer r_), (Value.int .u64 n_)] h R := calls_vc fine true Tryz.func101 (ann := A101) (args := [(Value.pointer r_), (Value.int .u64 n_)]) (by kernel_rfl) (Eq.mpr (by kernel_rfl) H)
/-- turnout/turnoutref05.bytes -/
def A102 : Ann := (.seq .nil (.seq .nil (.seq (.seq .nil (.block (.loop [(0, (.int .u64)), (5, .str), (6, (.int .i64))] (.seq (.seq .nil (.cond .nil .nil)) (.seq (.block (.seq .nil .nil)) .nil))))) (.seq .nil .nil))))
theorem V102 (n_ : Int) (many_ : Int) (h : Hp) (R : Ending → Hp → Prop) (H :
  ∃ (Iv_ : List Value → Hp → Prop) (m_ : List Value → Hp → Nat), Iv_ [(Value.int .u64 n_), (Value.string (⟨#[]⟩ : ByteArray)), (Value.int .i64 (0 : Int))] h ∧
  (∀ (n_1 : Int) (s_ : ByteArray) (i_ : Int) hp_, Iv_ [(Value.int .u64 n_1), (Value.string s_), (Value.int .i64 i_)] hp_ →
   (((decide (i_ < many_)) = true →
     (256 : Int) ≠ 0 ∧ ∃ x13_, Int.tmod n_1 (256 : Int) = x13_ ∧
     ∃ x14_, IntKind.u8.wrap x13_ = x14_ ∧
     SemH Tryz.prog (Instr.buildSlice 56 1 #[(0, (Value.int .u8 x14_))]) hp_ fun v_ hp_1 =>
     ∃ (x15p_ : Option Addr) (x15n_ x15c_ : Nat), v_ = (Value.slice x15p_ x15n_ x15c_) ∧
     SemH Tryz.prog (convert 56 9 (Value.slice x15p_ x15n_ x15c_)) hp_1 fun v_1 hp_2 =>
     ∃ x16_ : ByteArray, v_1 = (Value.string x16_) ∧
     ByteArray.size x16_ + ByteArray.size s_ ≤ 9223372036854775807 ∧ ∃ x18_, x16_ ++ s_ = x18_ ∧
     (256 : Int) ≠ 0 ∧ ∃ x20_, IntKind.u64.wrap (Int.tdiv n_1 (256 : Int)) = x20_ ∧
     ∃ x11_, IntKind.i64.wrap (i_ + (1 : Int)) = x11_ ∧
     (Iv_ [(Value.int .u64 x20_), (Value.string x18_), (Value.int .i64 x11_)] hp_2 ∧ m_ [(Value.int .u64 x20_), (Value.string x18_), (Value.int .i64 x11_)] hp_2 < m_ [(Value.int .u64 n_1), (Value.string s_), (Value.int .i64 i_)] hp_)) ∧
    ((decide (i_ < many_)) = false →
     R (.returned (Value.string s_)) hp_)))) :
  CallsH Tryz.prog 102 #[(Value.int .u64 n_), (Value.int .i64 many_)] h R := calls_vc fine false Tryz.func102 (ann := A102) (args := [(Value.int .u64 n_), (Value.int .i64 many_)]) (by kernel_rfl) (Eq.mpr (by kernel_rfl) H)
end Go.Vc
