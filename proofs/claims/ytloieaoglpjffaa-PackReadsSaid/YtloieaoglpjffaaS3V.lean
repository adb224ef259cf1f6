import Derived.Test.YtloieaoglpjffaaVcL
import Derived.Test.YtloieaoglpjffaaProg
set_option maxRecDepth 10000
namespace Go.Vc
open Go Go.Proofs
set_option maxRecDepth 100000
theorem fine : Fine Try.prog := fine_of (by kernel_rfl) (by kernel_rfl)
/-- turnout/turnoutlaw03.PackWrites -/
def A3 : Ann := (.seq .nil (.seq .nil (.seq (.seq .nil (.cond (.seq .nil .nil) .nil)) (.seq .nil (.seq .nil (.cut (.seq (.join 28) (.cond (.seq .nil .nil) .nil)) [] (.seq .nil (.seq .nil (.seq (.seq .nil (.block (.loop [(8, (.int .i64))] (.seq (.seq .nil (.cond .nil .nil)) (.seq (.block (.seq .nil (.seq (.seq .nil (.cond .nil .nil)) (.seq .nil (.cond (.seq .nil .nil) .nil))))) .nil))))) (.seq .nil (.seq .nil (.seq (.join 2) .nil))))))))))))
theorem V3 (scriptp_ : Option Addr) (scriptn_ scriptc_ : Nat) (h : Hp) (R : Ending → Hp → Prop) (H :
  CallsH Try.prog 8 #[] h fun en_ hp_ =>
  ∃ x12_ : Bool, en_ = .returned (Value.bool x12_) ∧
  CallsH Try.prog 9 #[(Value.slice scriptp_ scriptn_ scriptc_)] hp_ fun en_1 hp_1 =>
  ∃ x14_ : Bool, en_1 = .returned (Value.bool x14_) ∧
  (((!x14_) = true →
    R (.returned (Value.bool x12_)) hp_1) ∧
   ((!x14_) = false →
    CallsH Try.prog 10 #[] hp_1 fun en_2 hp_2 =>
    ∃ x17_ : Option Addr, en_2 = .returned (Value.pointer x17_) ∧
    CallsH Try.prog 10 #[] hp_2 fun en_3 hp_3 =>
    ∃ x18_ : Option Addr, en_3 = .returned (Value.pointer x18_) ∧
    ∃ Jv_ : List Value → Hp → Prop,
    (∃ B_ : Bool, ((((!x12_) = true →
        hp_3 = hp_3 ∧ B_ = true) ∧
       ((!x12_) = false →
        ∃ x23_, EqV Try.prog 25 (Value.pointer x17_) (Value.pointer none) x23_ ∧
        ((x23_ = true →
          hp_3 = hp_3 ∧ B_ = true) ∧
         (x23_ = false →
          ∃ x27_, EqV Try.prog 25 (Value.pointer x18_) (Value.pointer none) x27_ ∧
          hp_3 = hp_3 ∧ B_ = x27_))))) ∧
     ((B_ = true →
       R (.returned (Value.bool false)) hp_3) ∧
      (B_ = false →
       Jv_ [] hp_3))) ∧
    (∀  hp_4, Jv_ [] hp_4 →
     ∀ b_ hp_5, b_ = Array.size hp_4 → hp_5 = Array.push hp_4 (.cells #[(Value.slice none 0 0), (Value.int .i64 (0 : Int))] 31) →
     ∀ b_1 hp_6, b_1 = Array.size hp_5 → hp_6 = Array.push hp_5 (.cells #[(Value.slice none 0 0), (Value.int .i64 (0 : Int))] 31) →
     ∃ (Iv_ : List Value → Hp → Prop) (m_ : List Value → Hp → Nat), Iv_ [(Value.int .i64 (0 : Int))] hp_6 ∧
     (∀ (i_ : Int) hp_7, Iv_ [(Value.int .i64 i_)] hp_7 →
      (((decide (i_ < ((scriptn_ : Nat) : Int))) = true →
        ∃ b_2 o_, scriptp_ = some ⟨b_2, o_, none⟩ ∧ 0 ≤ i_ ∧ i_ < (scriptn_ : Int) ∧
        ∃ x43_ : Bool, cellsAt hp_7 b_2 ((o_ + Int.toNat i_ * 7) + 0) [(Value.bool x43_)] ∧
        ((x43_ = true →
          ∃ b_3 o_1, scriptp_ = some ⟨b_3, o_1, none⟩ ∧ 0 ≤ i_ ∧ i_ < (scriptn_ : Int) ∧
          ∃ x49f0_ : Bool, ∃ x49f1_ : Int, ∃ x49f2_ : Int, ∃ x49f3_ : Int, ∃ x49f4_ : ByteArray, ∃ x49f5_ : Int, ∃ x49f6_ : Int, cellsAt hp_7 b_3 (o_1 + Int.toNat i_ * 7) [(Value.bool x49f0_), (Value.int .i64 x49f1_), (Value.int .u64 x49f2_), (Value.int .i64 x49f3_), (Value.string x49f4_), (Value.int .u64 x49f5_), (Value.int .u64 x49f6_)] ∧
          CallsH Try.prog 11 #[(Value.pointer x18_), (Value.pointer (some ⟨b_1, 0, none⟩)), (Value.agg #[(Value.bool x49f0_), (Value.int .i64 x49f1_), (Value.int .u64 x49f2_), (Value.int .i64 x49f3_), (Value.string x49f4_), (Value.int .u64 x49f5_), (Value.int .u64 x49f6_)])] hp_7 fun en_4 hp_8 =>
          ∃ x50_ : Bool, en_4 = .returned (Value.bool x50_) ∧
          (((!x50_) = true →
            R (.returned (Value.bool false)) hp_8) ∧
           ((!x50_) = false →
            ∃ x38_, IntKind.i64.wrap (i_ + (1 : Int)) = x38_ ∧
            (Iv_ [(Value.int .i64 x38_)] hp_8 ∧ m_ [(Value.int .i64 x38_)] hp_8 < m_ [(Value.int .i64 i_)] hp_7)))) ∧
         (x43_ = false →
          ∃ b_4 o_2, scriptp_ = some ⟨b_4, o_2, none⟩ ∧ 0 ≤ i_ ∧ i_ < (scriptn_ : Int) ∧
          ∃ x56f0_ : Bool, ∃ x56f1_ : Int, ∃ x56f2_ : Int, ∃ x56f3_ : Int, ∃ x56f4_ : ByteArray, ∃ x56f5_ : Int, ∃ x56f6_ : Int, cellsAt hp_7 b_4 (o_2 + Int.toNat i_ * 7) [(Value.bool x56f0_), (Value.int .i64 x56f1_), (Value.int .u64 x56f2_), (Value.int .i64 x56f3_), (Value.string x56f4_), (Value.int .u64 x56f5_), (Value.int .u64 x56f6_)] ∧
          CallsH Try.prog 11 #[(Value.pointer x17_), (Value.pointer (some ⟨b_, 0, none⟩)), (Value.agg #[(Value.bool x56f0_), (Value.int .i64 x56f1_), (Value.int .u64 x56f2_), (Value.int .i64 x56f3_), (Value.string x56f4_), (Value.int .u64 x56f5_), (Value.int .u64 x56f6_)])] hp_7 fun en_5 hp_9 =>
          ∃ x57_ : Bool, en_5 = .returned (Value.bool x57_) ∧
          (((!x57_) = true →
            R (.returned (Value.bool false)) hp_9) ∧
           ((!x57_) = false →
            ∃ x38_1, IntKind.i64.wrap (i_ + (1 : Int)) = x38_1 ∧
            (Iv_ [(Value.int .i64 x38_1)] hp_9 ∧ m_ [(Value.int .i64 x38_1)] hp_9 < m_ [(Value.int .i64 i_)] hp_7)))))) ∧
       ((decide (i_ < ((scriptn_ : Nat) : Int))) = false →
        CallsH Try.prog 11 #[(Value.pointer x17_), (Value.pointer (some ⟨b_, 0, none⟩)), (Value.agg #[(Value.bool false), (Value.int .i64 (6 : Int)), (Value.int .u64 (0 : Int)), (Value.int .i64 (0 : Int)), (Value.string (⟨#[]⟩ : ByteArray)), (Value.int .u64 (0 : Int)), (Value.int .u64 (0 : Int))])] hp_7 fun en_6 hp_10 =>
        ∃ x63_ : Bool, en_6 = .returned (Value.bool x63_) ∧
        CallsH Try.prog 11 #[(Value.pointer x18_), (Value.pointer (some ⟨b_1, 0, none⟩)), (Value.agg #[(Value.bool false), (Value.int .i64 (6 : Int)), (Value.int .u64 (0 : Int)), (Value.int .i64 (0 : Int)), (Value.string (⟨#[]⟩ : ByteArray)), (Value.int .u64 (0 : Int)), (Value.int .u64 (0 : Int))])] hp_10 fun en_7 hp_11 =>
        ∃ x67_ : Bool, en_7 = .returned (Value.bool x67_) ∧
        ∃ B_1 : Bool, (((x63_ = true →
           hp_11 = hp_11 ∧ B_1 = x67_) ∧
          (x63_ = false →
           hp_11 = hp_11 ∧ B_1 = false))) ∧
        R (.returned (Value.bool B_1)) hp_11))))))) :
  CallsH Try.prog 3 #[(Value.slice scriptp_ scriptn_ scriptc_)] h R := calls_vc fine false Try.func3 (ann := A3) (args := [(Value.slice scriptp_ scriptn_ scriptc_)]) (by kernel_rfl) (Eq.mpr (by kernel_rfl) H)
/-- turnout/turnoutlaw03.PackReads -/
def A4 : Ann := (.seq .nil (.seq .nil (.seq .nil (.seq .nil (.cut (.seq (.join 30) (.cond (.seq .nil .nil) .nil)) [] (.seq .nil (.seq .nil (.seq (.seq .nil (.block (.loop [(12, (.int .i64))] (.seq (.seq .nil (.cond .nil .nil)) (.seq (.block (.seq .nil (.seq (.seq .nil (.cond .nil .nil)) (.seq .nil (.cond (.seq .nil .nil) .nil))))) .nil))))) (.seq .nil (.seq .nil (.seq (.join 6) .nil)))))))))))
theorem V4 (one_ : ByteArray) (two_ : ByteArray) (scriptp_ : Option Addr) (scriptn_ scriptc_ : Nat) (h : Hp) (R : Ending → Hp → Prop) (H :
  CallsH Try.prog 8 #[] h fun en_ hp_ =>
  ∃ x16_ : Bool, en_ = .returned (Value.bool x16_) ∧
  CallsH Try.prog 12 #[(Value.string one_)] hp_ fun en_1 hp_1 =>
  ∃ x18_ : Option Addr, en_1 = .returned (Value.pointer x18_) ∧
  CallsH Try.prog 12 #[(Value.string two_)] hp_1 fun en_2 hp_2 =>
  ∃ x20_ : Option Addr, en_2 = .returned (Value.pointer x20_) ∧
  ∃ Jv_ : List Value → Hp → Prop,
  (∃ B_ : Bool, ((((!x16_) = true →
      hp_2 = hp_2 ∧ B_ = true) ∧
     ((!x16_) = false →
      ∃ x25_, EqV Try.prog 39 (Value.pointer x18_) (Value.pointer none) x25_ ∧
      ((x25_ = true →
        hp_2 = hp_2 ∧ B_ = true) ∧
       (x25_ = false →
        ∃ x29_, EqV Try.prog 39 (Value.pointer x20_) (Value.pointer none) x29_ ∧
        hp_2 = hp_2 ∧ B_ = x29_))))) ∧
   ((B_ = true →
     R (.returned (Value.bool false)) hp_2) ∧
    (B_ = false →
     Jv_ [] hp_2))) ∧
  (∀  hp_3, Jv_ [] hp_3 →
   ∀ b_ hp_4, b_ = Array.size hp_3 → hp_4 = Array.push hp_3 (.cells #[(Value.string one_), (Value.int .i64 (0 : Int)), (Value.int .i64 (0 : Int)), (Value.int .i64 (0 : Int))] 43) →
   ∀ b_1 hp_5, b_1 = Array.size hp_4 → hp_5 = Array.push hp_4 (.cells #[(Value.string two_), (Value.int .i64 (0 : Int)), (Value.int .i64 (0 : Int)), (Value.int .i64 (0 : Int))] 43) →
   ∃ (Iv_ : List Value → Hp → Prop) (m_ : List Value → Hp → Nat), Iv_ [(Value.int .i64 (0 : Int))] hp_5 ∧
   (∀ (i_ : Int) hp_6, Iv_ [(Value.int .i64 i_)] hp_6 →
    (((decide (i_ < ((scriptn_ : Nat) : Int))) = true →
      ∃ b_2 o_, scriptp_ = some ⟨b_2, o_, none⟩ ∧ 0 ≤ i_ ∧ i_ < (scriptn_ : Int) ∧
      ∃ x47_ : Bool, cellsAt hp_6 b_2 ((o_ + Int.toNat i_ * 4) + 0) [(Value.bool x47_)] ∧
      ((x47_ = true →
        ∃ b_3 o_1, scriptp_ = some ⟨b_3, o_1, none⟩ ∧ 0 ≤ i_ ∧ i_ < (scriptn_ : Int) ∧
        ∃ x53f0_ : Bool, ∃ x53f1_ : Int, ∃ x53f2_ : Int, ∃ x53f3_ : Int, cellsAt hp_6 b_3 (o_1 + Int.toNat i_ * 4) [(Value.bool x53f0_), (Value.int .i64 x53f1_), (Value.int .u64 x53f2_), (Value.int .i64 x53f3_)] ∧
        CallsH Try.prog 13 #[(Value.pointer x20_), (Value.pointer (some ⟨b_1, 0, none⟩)), (Value.agg #[(Value.bool x53f0_), (Value.int .i64 x53f1_), (Value.int .u64 x53f2_), (Value.int .i64 x53f3_)])] hp_6 fun en_3 hp_7 =>
        ∃ x54_ : Bool, en_3 = .returned (Value.bool x54_) ∧
        (((!x54_) = true →
          R (.returned (Value.bool false)) hp_7) ∧
         ((!x54_) = false →
          ∃ x42_, IntKind.i64.wrap (i_ + (1 : Int)) = x42_ ∧
          (Iv_ [(Value.int .i64 x42_)] hp_7 ∧ m_ [(Value.int .i64 x42_)] hp_7 < m_ [(Value.int .i64 i_)] hp_6)))) ∧
       (x47_ = false →
        ∃ b_4 o_2, scriptp_ = some ⟨b_4, o_2, none⟩ ∧ 0 ≤ i_ ∧ i_ < (scriptn_ : Int) ∧
        ∃ x60f0_ : Bool, ∃ x60f1_ : Int, ∃ x60f2_ : Int, ∃ x60f3_ : Int, cellsAt hp_6 b_4 (o_2 + Int.toNat i_ * 4) [(Value.bool x60f0_), (Value.int .i64 x60f1_), (Value.int .u64 x60f2_), (Value.int .i64 x60f3_)] ∧
        CallsH Try.prog 13 #[(Value.pointer x18_), (Value.pointer (some ⟨b_, 0, none⟩)), (Value.agg #[(Value.bool x60f0_), (Value.int .i64 x60f1_), (Value.int .u64 x60f2_), (Value.int .i64 x60f3_)])] hp_6 fun en_4 hp_8 =>
        ∃ x61_ : Bool, en_4 = .returned (Value.bool x61_) ∧
        (((!x61_) = true →
          R (.returned (Value.bool false)) hp_8) ∧
         ((!x61_) = false →
          ∃ x42_1, IntKind.i64.wrap (i_ + (1 : Int)) = x42_1 ∧
          (Iv_ [(Value.int .i64 x42_1)] hp_8 ∧ m_ [(Value.int .i64 x42_1)] hp_8 < m_ [(Value.int .i64 i_)] hp_6)))))) ∧
     ((decide (i_ < ((scriptn_ : Nat) : Int))) = false →
      CallsH Try.prog 13 #[(Value.pointer x18_), (Value.pointer (some ⟨b_, 0, none⟩)), (Value.agg #[(Value.bool false), (Value.int .i64 (0 : Int)), (Value.int .u64 (0 : Int)), (Value.int .i64 (0 : Int))])] hp_6 fun en_5 hp_9 =>
      ∃ x67_ : Bool, en_5 = .returned (Value.bool x67_) ∧
      CallsH Try.prog 13 #[(Value.pointer x20_), (Value.pointer (some ⟨b_1, 0, none⟩)), (Value.agg #[(Value.bool false), (Value.int .i64 (0 : Int)), (Value.int .u64 (0 : Int)), (Value.int .i64 (0 : Int))])] hp_9 fun en_6 hp_10 =>
      ∃ x71_ : Bool, en_6 = .returned (Value.bool x71_) ∧
      ∃ B_1 : Bool, (((x67_ = true →
         hp_10 = hp_10 ∧ B_1 = x71_) ∧
        (x67_ = false →
         hp_10 = hp_10 ∧ B_1 = false))) ∧
      R (.returned (Value.bool B_1)) hp_10))))) :
  CallsH Try.prog 4 #[(Value.string one_), (Value.string two_), (Value.slice scriptp_ scriptn_ scriptc_)] h R := calls_vc fine false Try.func4 (ann := A4) (args := [(Value.string one_), (Value.string two_), (Value.slice scriptp_ scriptn_ scriptc_)]) (by kernel_rfl) (Eq.mpr (by kernel_rfl) H)
/-- turnout/turnoutlaw03.PackBack -/
def A5 : Ann := (.seq .nil (.seq .nil (.seq (.seq .nil (.cond (.seq .nil .nil) .nil)) (.seq .nil (.cut (.seq (.join 27) (.cond (.seq .nil .nil) .nil)) [] (.seq (.seq .nil (.block (.loop [(5, (.int .i64))] (.seq (.seq .nil (.cond .nil .nil)) (.seq (.block (.seq .nil (.seq .nil (.cond (.seq .nil .nil) .nil)))) .nil))))) (.seq .nil (.seq .nil (.cut (.seq .nil (.cond (.seq .nil .nil) .nil)) [] (.seq (.seq .nil (.block (.loop [(10, (.int .i64))] (.seq (.seq .nil (.cond .nil .nil)) (.seq (.block (.seq .nil (.seq .nil (.cond (.seq .nil .nil) .nil)))) .nil))))) (.seq .nil (.cut (.seq .nil (.cond (.seq .nil .nil) .nil)) [] (.seq (.seq .nil (.cond (.seq .nil .nil) .nil)) (.seq .nil (.seq (.seq .nil (.cond (.seq .nil .nil) .nil)) (.seq (.seq .nil (.block (.loop [(15, (.int .i64))] (.seq (.seq .nil (.cond .nil .nil)) (.seq (.block .nil) .nil))))) (.seq .nil .nil)))))))))))))))))
theorem V5 (itemsp_ : Option Addr) (itemsn_ itemsc_ : Nat) (h : Hp) (R : Ending → Hp → Prop) (H :
  CallsH Try.prog 8 #[] h fun en_ hp_ =>
  ∃ x16_ : Bool, en_ = .returned (Value.bool x16_) ∧
  CallsH Try.prog 9 #[(Value.slice itemsp_ itemsn_ itemsc_)] hp_ fun en_1 hp_1 =>
  ∃ x18_ : Bool, en_1 = .returned (Value.bool x18_) ∧
  (((!x18_) = true →
    R (.returned (Value.bool x16_)) hp_1) ∧
   ((!x18_) = false →
    CallsH Try.prog 10 #[] hp_1 fun en_2 hp_2 =>
    ∃ x21_ : Option Addr, en_2 = .returned (Value.pointer x21_) ∧
    ∃ Jv_ : List Value → Hp → Prop,
    (∃ B_ : Bool, ((((!x16_) = true →
        hp_2 = hp_2 ∧ B_ = true) ∧
       ((!x16_) = false →
        ∃ x26_, EqV Try.prog 25 (Value.pointer x21_) (Value.pointer none) x26_ ∧
        hp_2 = hp_2 ∧ B_ = x26_))) ∧
     ((B_ = true →
       R (.returned (Value.bool false)) hp_2) ∧
      (B_ = false →
       Jv_ [] hp_2))) ∧
    (∀  hp_3, Jv_ [] hp_3 →
     ∃ (Iv_ : List Value → Hp → Prop) (m_ : List Value → Hp → Nat), Iv_ [(Value.int .i64 (0 : Int))] hp_3 ∧
     (∀ (i_ : Int) hp_4, Iv_ [(Value.int .i64 i_)] hp_4 →
      (((decide (i_ < ((itemsn_ : Nat) : Int))) = true →
        ∃ b_ o_, itemsp_ = some ⟨b_, o_, none⟩ ∧ 0 ≤ i_ ∧ i_ < (itemsn_ : Int) ∧
        ∃ x38f0_ : Bool, ∃ x38f1_ : Int, ∃ x38f2_ : Int, ∃ x38f3_ : Int, ∃ x38f4_ : ByteArray, ∃ x38f5_ : Int, ∃ x38f6_ : Int, cellsAt hp_4 b_ (o_ + Int.toNat i_ * 7) [(Value.bool x38f0_), (Value.int .i64 x38f1_), (Value.int .u64 x38f2_), (Value.int .i64 x38f3_), (Value.string x38f4_), (Value.int .u64 x38f5_), (Value.int .u64 x38f6_)] ∧
        CallsH Try.prog 14 #[(Value.pointer x21_), (Value.agg #[(Value.bool x38f0_), (Value.int .i64 x38f1_), (Value.int .u64 x38f2_), (Value.int .i64 x38f3_), (Value.string x38f4_), (Value.int .u64 x38f5_), (Value.int .u64 x38f6_)])] hp_4 fun en_3 hp_5 =>
        ∃ x39_ : Bool, en_3 = .returned (Value.bool x39_) ∧
        (((!x39_) = true →
          R (.returned (Value.bool false)) hp_5) ∧
         ((!x39_) = false →
          ∃ x33_, IntKind.i64.wrap (i_ + (1 : Int)) = x33_ ∧
          (Iv_ [(Value.int .i64 x33_)] hp_5 ∧ m_ [(Value.int .i64 x33_)] hp_5 < m_ [(Value.int .i64 i_)] hp_4)))) ∧
       ((decide (i_ < ((itemsn_ : Nat) : Int))) = false →
        CallsH Try.prog 15 #[(Value.pointer x21_)] hp_4 fun en_4 hp_6 =>
        ∃ x44r0_ : ByteArray, ∃ x44r1_ : Int, en_4 = .returned (Value.tuple #[(Value.string x44r0_), (Value.int .i64 x44r1_)]) ∧
        CallsH Try.prog 12 #[(Value.string x44r0_)] hp_6 fun en_5 hp_7 =>
        ∃ x48_ : Option Addr, en_5 = .returned (Value.pointer x48_) ∧
        ∃ Jv_1 : List Value → Hp → Prop,
        ((((decide (x44r1_ ≠ (0 : Int))) = true →
           R (.returned (Value.bool false)) hp_7) ∧
          ((decide (x44r1_ ≠ (0 : Int))) = false →
           ∃ x53_, EqV Try.prog 39 (Value.pointer x48_) (Value.pointer none) x53_ ∧
           ((x53_ = true →
             R (.returned (Value.bool false)) hp_7) ∧
            (x53_ = false →
             CallsH Try.prog 16 #[(Value.pointer x21_)] hp_7 fun en_6 hp_8 =>
             ∃ x57_ : Int, en_6 = .returned (Value.int .i64 x57_) ∧
             (((decide (x57_ ≠ (ByteArray.size x44r0_ : Int))) = true →
               R (.returned (Value.bool false)) hp_8) ∧
              ((decide (x57_ ≠ (ByteArray.size x44r0_ : Int))) = false →
               Jv_1 [] hp_8))))))) ∧
        (∀  hp_9, Jv_1 [] hp_9 →
         ∃ (Iv_1 : List Value → Hp → Prop) (m_1 : List Value → Hp → Nat), Iv_1 [(Value.int .i64 (0 : Int))] hp_9 ∧
         (∀ (i_1 : Int) hp_10, Iv_1 [(Value.int .i64 i_1)] hp_10 →
          (((decide (i_1 < ((itemsn_ : Nat) : Int))) = true →
            ∃ b_1 o_1, itemsp_ = some ⟨b_1, o_1, none⟩ ∧ 0 ≤ i_1 ∧ i_1 < (itemsn_ : Int) ∧
            ∃ x72f0_ : Bool, ∃ x72f1_ : Int, ∃ x72f2_ : Int, ∃ x72f3_ : Int, ∃ x72f4_ : ByteArray, ∃ x72f5_ : Int, ∃ x72f6_ : Int, cellsAt hp_10 b_1 (o_1 + Int.toNat i_1 * 7) [(Value.bool x72f0_), (Value.int .i64 x72f1_), (Value.int .u64 x72f2_), (Value.int .i64 x72f3_), (Value.string x72f4_), (Value.int .u64 x72f5_), (Value.int .u64 x72f6_)] ∧
            CallsH Try.prog 17 #[(Value.pointer x48_), (Value.agg #[(Value.bool x72f0_), (Value.int .i64 x72f1_), (Value.int .u64 x72f2_), (Value.int .i64 x72f3_), (Value.string x72f4_), (Value.int .u64 x72f5_), (Value.int .u64 x72f6_)])] hp_10 fun en_7 hp_11 =>
            ∃ x73_ : Bool, en_7 = .returned (Value.bool x73_) ∧
            (((!x73_) = true →
              R (.returned (Value.bool false)) hp_11) ∧
             ((!x73_) = false →
              ∃ x67_, IntKind.i64.wrap (i_1 + (1 : Int)) = x67_ ∧
              (Iv_1 [(Value.int .i64 x67_)] hp_11 ∧ m_1 [(Value.int .i64 x67_)] hp_11 < m_1 [(Value.int .i64 i_1)] hp_10)))) ∧
           ((decide (i_1 < ((itemsn_ : Nat) : Int))) = false →
            CallsH Try.prog 18 #[(Value.pointer x48_)] hp_10 fun en_8 hp_12 =>
            ∃ x78r0_ : Int, ∃ x78r1_ : Int, en_8 = .returned (Value.tuple #[(Value.int .i64 x78r0_), (Value.int .i64 x78r1_)]) ∧
            ∃ Jv_2 : List Value → Hp → Prop,
            ((((decide (x78r0_ ≠ (0 : Int))) = true →
               R (.returned (Value.bool false)) hp_12) ∧
              ((decide (x78r0_ ≠ (0 : Int))) = false →
               (((decide (x78r1_ ≠ (0 : Int))) = true →
                 R (.returned (Value.bool false)) hp_12) ∧
                ((decide (x78r1_ ≠ (0 : Int))) = false →
                 CallsH Try.prog 19 #[(Value.pointer x48_)] hp_12 fun en_9 hp_13 =>
                 ∃ x89_ : Int, en_9 = .returned (Value.int .i64 x89_) ∧
                 (((decide (x89_ ≠ (ByteArray.size x44r0_ : Int))) = true →
                   R (.returned (Value.bool false)) hp_13) ∧
                  ((decide (x89_ ≠ (ByteArray.size x44r0_ : Int))) = false →
                   CallsH Try.prog 20 #[(Value.pointer x48_)] hp_13 fun en_10 hp_14 =>
                   ∃ x96_ : Int, en_10 = .returned (Value.int .i64 x96_) ∧
                   (((decide (x96_ ≠ (0 : Int))) = true →
                     R (.returned (Value.bool false)) hp_14) ∧
                    ((decide (x96_ ≠ (0 : Int))) = false →
                     Jv_2 [] hp_14))))))))) ∧
            (∀  hp_15, Jv_2 [] hp_15 →
             (((decide ((ByteArray.size x44r0_ : Int) = (0 : Int))) = true →
               R (.returned (Value.bool true)) hp_15) ∧
              ((decide ((ByteArray.size x44r0_ : Int) = (0 : Int))) = false →
               ∃ x105_, IntKind.i64.wrap ((ByteArray.size x44r0_ : Int) - (1 : Int)) = x105_ ∧
               ∃ u_ : Nat, x105_ = (u_ : Int) ∧
               0 ≤ u_ ∧ u_ ≤ ByteArray.size x44r0_ ∧ ∃ x106_, ByteArray.extract x44r0_ 0 u_ = x106_ ∧
               CallsH Try.prog 12 #[(Value.string x106_)] hp_15 fun en_11 hp_16 =>
               ∃ x107_ : Option Addr, en_11 = .returned (Value.pointer x107_) ∧
               ∃ x109_, EqV Try.prog 39 (Value.pointer x107_) (Value.pointer none) x109_ ∧
               ((x109_ = true →
                 R (.returned (Value.bool false)) hp_16) ∧
                (x109_ = false →
                 ∃ (Iv_2 : List Value → Hp → Prop) (m_2 : List Value → Hp → Nat), Iv_2 [(Value.int .i64 (0 : Int))] hp_16 ∧
                 (∀ (i_2 : Int) hp_17, Iv_2 [(Value.int .i64 i_2)] hp_17 →
                  (((decide (i_2 < ((itemsn_ : Nat) : Int))) = true →
                    ∃ b_2 o_2, itemsp_ = some ⟨b_2, o_2, none⟩ ∧ 0 ≤ i_2 ∧ i_2 < (itemsn_ : Int) ∧
                    ∃ x120f0_ : Bool, ∃ x120f1_ : Int, ∃ x120f2_ : Int, ∃ x120f3_ : Int, ∃ x120f4_ : ByteArray, ∃ x120f5_ : Int, ∃ x120f6_ : Int, cellsAt hp_17 b_2 (o_2 + Int.toNat i_2 * 7) [(Value.bool x120f0_), (Value.int .i64 x120f1_), (Value.int .u64 x120f2_), (Value.int .i64 x120f3_), (Value.string x120f4_), (Value.int .u64 x120f5_), (Value.int .u64 x120f6_)] ∧
                    CallsH Try.prog 17 #[(Value.pointer x107_), (Value.agg #[(Value.bool x120f0_), (Value.int .i64 x120f1_), (Value.int .u64 x120f2_), (Value.int .i64 x120f3_), (Value.string x120f4_), (Value.int .u64 x120f5_), (Value.int .u64 x120f6_)])] hp_17 fun en_12 hp_18 =>
                    ∃ x121_ : Bool, en_12 = .returned (Value.bool x121_) ∧
                    ∃ x115_, IntKind.i64.wrap (i_2 + (1 : Int)) = x115_ ∧
                    (Iv_2 [(Value.int .i64 x115_)] hp_18 ∧ m_2 [(Value.int .i64 x115_)] hp_18 < m_2 [(Value.int .i64 i_2)] hp_17)) ∧
                   ((decide (i_2 < ((itemsn_ : Nat) : Int))) = false →
                    CallsH Try.prog 20 #[(Value.pointer x107_)] hp_17 fun en_13 hp_19 =>
                    ∃ x123_ : Int, en_13 = .returned (Value.int .i64 x123_) ∧
                    R (.returned (Value.bool (decide (x123_ = (3 : Int))))) hp_19))))))))))))))))))) :
  CallsH Try.prog 5 #[(Value.slice itemsp_ itemsn_ itemsc_)] h R := calls_vc fine false Try.func5 (ann := A5) (args := [(Value.slice itemsp_ itemsn_ itemsc_)]) (by kernel_rfl) (Eq.mpr (by kernel_rfl) H)
/-- turnout/turnoutlaw03.PackForms -/
def A6 : Ann := (.seq .nil (.seq .nil (.seq .nil (.seq .nil (.cut (.seq (.join 32) (.cond (.seq .nil .nil) .nil)) [] (.seq (.seq .nil (.block (.loop [(8, (.int .i64))] (.seq (.seq .nil (.cond .nil .nil)) (.seq (.block (.seq .nil (.seq .nil (.seq .nil (.seq .nil (.cut (.seq .nil (.block (.seq .nil (.cond .nil (.seq .nil (.cond .nil (.seq .nil (.cond .nil (.seq .nil (.cond .nil (.seq .nil (.cond .nil .nil)))))))))))) [(10, (.int .u64)), (11, .str)] (.seq .nil (.seq (.seq .nil (.cond (.seq .nil (.seq .nil .nil)) .nil)) (.cut (.seq .nil (.block (.seq .nil (.cond .nil (.seq .nil (.cond .nil (.seq .nil (.cond .nil (.seq .nil (.cond .nil (.seq .nil (.cond .nil .nil)))))))))))) [] (.seq .nil (.cond (.seq .nil .nil) .nil))))))))))) .nil))))) (.seq .nil (.seq .nil .nil))))))))
theorem V6 (b_ : ByteArray) (scriptp_ : Option Addr) (scriptn_ scriptc_ : Nat) (h : Hp) (R : Ending → Hp → Prop) (H :
  CallsH Try.prog 8 #[] h fun en_ hp_ =>
  ∃ x19_ : Bool, en_ = .returned (Value.bool x19_) ∧
  CallsH Try.prog 10 #[] hp_ fun en_1 hp_1 =>
  ∃ x20_ : Option Addr, en_1 = .returned (Value.pointer x20_) ∧
  CallsH Try.prog 12 #[(Value.string b_)] hp_1 fun en_2 hp_2 =>
  ∃ x22_ : Option Addr, en_2 = .returned (Value.pointer x22_) ∧
  ∃ Jv_ : List Value → Hp → Prop,
  (∃ B_ : Bool, ((((!x19_) = true →
      hp_2 = hp_2 ∧ B_ = true) ∧
     ((!x19_) = false →
      ∃ x27_, EqV Try.prog 25 (Value.pointer x20_) (Value.pointer none) x27_ ∧
      ((x27_ = true →
        hp_2 = hp_2 ∧ B_ = true) ∧
       (x27_ = false →
        ∃ x31_, EqV Try.prog 39 (Value.pointer x22_) (Value.pointer none) x31_ ∧
        hp_2 = hp_2 ∧ B_ = x31_))))) ∧
   ((B_ = true →
     R (.returned (Value.bool false)) hp_2) ∧
    (B_ = false →
     Jv_ [] hp_2))) ∧
  (∀  hp_3, Jv_ [] hp_3 →
   ∃ (Iv_ : List Value → Hp → Prop) (m_ : List Value → Hp → Nat), Iv_ [(Value.int .i64 (0 : Int))] hp_3 ∧
   (∀ (i_ : Int) hp_4, Iv_ [(Value.int .i64 i_)] hp_4 →
    (((decide (i_ < ((scriptn_ : Nat) : Int))) = true →
      CallsH Try.prog 19 #[(Value.pointer x22_)] hp_4 fun en_3 hp_5 =>
      ∃ x40_ : Int, en_3 = .returned (Value.int .i64 x40_) ∧
      ∀ b_1 hp_6, b_1 = Array.size hp_5 → hp_6 = Array.push hp_5 (.cells (zeros Try.prog 34) 34) → (∃ i z, Try.prog.info? 34 = some i ∧ i.zero = some z) ∧
      List.length [(Value.int .u64 (0 : Int)), (Value.int .u64 (0 : Int))] = 2 ∧ (∀ c ∈ [(Value.int .u64 (0 : Int)), (Value.int .u64 (0 : Int))], c.oneCell' = true) ∧ wrAt hp_6 b_1 0 2 ∧ ∀ hp_7, hp_7 = setsH hp_6 b_1 0 [(Value.int .u64 (0 : Int)), (Value.int .u64 (0 : Int))] →
      ∃ Jv_1 : List Value → Hp → Prop,
      (∃ b_2 o_, scriptp_ = some ⟨b_2, o_, none⟩ ∧ 0 ≤ i_ ∧ i_ < (scriptn_ : Int) ∧
       ∃ x46_ : Int, cellsAt hp_7 b_2 ((o_ + Int.toNat i_ * 4) + 1) [(Value.int .i64 x46_)] ∧
       (((decide (x46_ = (1 : Int))) = true →
         ∃ b_3 o_1, scriptp_ = some ⟨b_3, o_1, none⟩ ∧ 0 ≤ i_ ∧ i_ < (scriptn_ : Int) ∧
         ∃ x54_ : Int, cellsAt hp_7 b_3 ((o_1 + Int.toNat i_ * 4) + 2) [(Value.int .u64 x54_)] ∧
         CallsH Try.prog 21 #[(Value.pointer x22_), (Value.int .u64 x54_)] hp_7 fun en_4 hp_8 =>
         ∃ x55_ : Int, en_4 = .returned (Value.int .u64 x55_) ∧
         Jv_1 [(Value.int .u64 x55_), (Value.string (⟨#[]⟩ : ByteArray))] hp_8) ∧
        ((decide (x46_ = (1 : Int))) = false →
         (((decide (x46_ = (2 : Int))) = true →
           ∃ b_4 o_2, scriptp_ = some ⟨b_4, o_2, none⟩ ∧ 0 ≤ i_ ∧ i_ < (scriptn_ : Int) ∧
           ∃ x63_ : Int, cellsAt hp_7 b_4 ((o_2 + Int.toNat i_ * 4) + 3) [(Value.int .i64 x63_)] ∧
           CallsH Try.prog 22 #[(Value.pointer x22_), (Value.int .i64 x63_)] hp_7 fun en_5 hp_9 =>
           ∃ x64_ : Int, en_5 = .returned (Value.int .u64 x64_) ∧
           Jv_1 [(Value.int .u64 x64_), (Value.string (⟨#[]⟩ : ByteArray))] hp_9) ∧
          ((decide (x46_ = (2 : Int))) = false →
           (((decide (x46_ = (3 : Int))) = true →
             ∃ b_5 o_3, scriptp_ = some ⟨b_5, o_3, none⟩ ∧ 0 ≤ i_ ∧ i_ < (scriptn_ : Int) ∧
             ∃ x72_ : Int, cellsAt hp_7 b_5 ((o_3 + Int.toNat i_ * 4) + 3) [(Value.int .i64 x72_)] ∧
             CallsH Try.prog 23 #[(Value.pointer x22_), (Value.int .i64 x72_)] hp_7 fun en_6 hp_10 =>
             ∃ x73_ : ByteArray, en_6 = .returned (Value.string x73_) ∧
             Jv_1 [(Value.int .u64 (0 : Int)), (Value.string x73_)] hp_10) ∧
            ((decide (x46_ = (3 : Int))) = false →
             (((decide (x46_ = (4 : Int))) = true →
               ∃ b_6 o_4, scriptp_ = some ⟨b_6, o_4, none⟩ ∧ 0 ≤ i_ ∧ i_ < (scriptn_ : Int) ∧
               ∃ x81_ : Int, cellsAt hp_7 b_6 ((o_4 + Int.toNat i_ * 4) + 3) [(Value.int .i64 x81_)] ∧
               CallsH Try.prog 24 #[(Value.pointer x22_), (Value.int .i64 x81_)] hp_7 fun en_7 hp_11 =>
               ∃ x82f0_ : Int, ∃ x82f1_ : Int, en_7 = .returned (Value.agg #[(Value.int .u64 x82f0_), (Value.int .u64 x82f1_)]) ∧
               List.length [(Value.int .u64 x82f0_), (Value.int .u64 x82f1_)] = 2 ∧ (∀ c ∈ [(Value.int .u64 x82f0_), (Value.int .u64 x82f1_)], c.oneCell' = true) ∧ wrAt hp_11 b_1 0 2 ∧ ∀ hp_12, hp_12 = setsH hp_11 b_1 0 [(Value.int .u64 x82f0_), (Value.int .u64 x82f1_)] →
               Jv_1 [(Value.int .u64 (0 : Int)), (Value.string (⟨#[]⟩ : ByteArray))] hp_12) ∧
              ((decide (x46_ = (4 : Int))) = false →
               (((decide (x46_ = (5 : Int))) = true →
                 ∃ b_7 o_5, scriptp_ = some ⟨b_7, o_5, none⟩ ∧ 0 ≤ i_ ∧ i_ < (scriptn_ : Int) ∧
                 ∃ x90_ : Int, cellsAt hp_7 b_7 ((o_5 + Int.toNat i_ * 4) + 3) [(Value.int .i64 x90_)] ∧
                 CallsH Try.prog 25 #[(Value.pointer x22_), (Value.int .i64 x90_)] hp_7 fun en_8 hp_13 =>
                 ∃ x91_ : ByteArray, en_8 = .returned (Value.string x91_) ∧
                 Jv_1 [(Value.int .u64 (0 : Int)), (Value.string x91_)] hp_13) ∧
                ((decide (x46_ = (5 : Int))) = false →
                 Jv_1 [(Value.int .u64 (0 : Int)), (Value.string (⟨#[]⟩ : ByteArray))] hp_7))))))))))) ∧
      (∀ (n_ : Int) (s_ : ByteArray) hp_14, Jv_1 [(Value.int .u64 n_), (Value.string s_)] hp_14 →
       CallsH Try.prog 18 #[(Value.pointer x22_)] hp_14 fun en_9 hp_15 =>
       ∃ x94r0_ : Int, ∃ x94r1_ : Int, en_9 = .returned (Value.tuple #[(Value.int .i64 x94r0_), (Value.int .i64 x94r1_)]) ∧
       (((decide (x94r0_ ≠ (0 : Int))) = true →
         CallsH Try.prog 15 #[(Value.pointer x20_)] hp_15 fun en_10 hp_16 =>
         ∃ x101r0_ : ByteArray, ∃ x101r1_ : Int, en_10 = .returned (Value.tuple #[(Value.string x101r0_), (Value.int .i64 x101r1_)]) ∧
         (((decide (x101r1_ = (0 : Int))) = true →
           ∃ u_ : Nat, x40_ = (u_ : Int) ∧
           0 ≤ u_ ∧ u_ ≤ ByteArray.size b_ ∧ ∃ x110_, ByteArray.extract b_ 0 u_ = x110_ ∧
           (((decide (x101r0_ = x110_)) = true →
             (((decide (x94r1_ = x40_)) = true →
               CallsH Try.prog 19 #[(Value.pointer x22_)] hp_16 fun en_11 hp_17 =>
               ∃ x120_ : Int, en_11 = .returned (Value.int .i64 x120_) ∧
               (((decide (x120_ = x40_)) = true →
                 (((decide (n_ = (0 : Int))) = true →
                   (((decide (s_ = (⟨#[]⟩ : ByteArray))) = true →
                     ∃ x133f0_ : Int, ∃ x133f1_ : Int, cellsAt hp_17 b_1 0 [(Value.int .u64 x133f0_), (Value.int .u64 x133f1_)] ∧
                     ∃ x135_, EqV Try.prog 34 (Value.agg #[(Value.int .u64 x133f0_), (Value.int .u64 x133f1_)]) (Value.agg #[(Value.int .u64 (0 : Int)), (Value.int .u64 (0 : Int))]) x135_ ∧
                     ((x135_ = true →
                       CallsH Try.prog 20 #[(Value.pointer x22_)] hp_17 fun en_12 hp_18 =>
                       ∃ x139_ : Int, en_12 = .returned (Value.int .i64 x139_) ∧
                       R (.returned (Value.bool (decide (x139_ = x94r0_)))) hp_18) ∧
                      (x135_ = false →
                       R (.returned (Value.bool false)) hp_17))) ∧
                    ((decide (s_ = (⟨#[]⟩ : ByteArray))) = false →
                     R (.returned (Value.bool false)) hp_17))) ∧
                  ((decide (n_ = (0 : Int))) = false →
                   R (.returned (Value.bool false)) hp_17))) ∧
                ((decide (x120_ = x40_)) = false →
                 R (.returned (Value.bool false)) hp_17))) ∧
              ((decide (x94r1_ = x40_)) = false →
               R (.returned (Value.bool false)) hp_16))) ∧
            ((decide (x101r0_ = x110_)) = false →
             R (.returned (Value.bool false)) hp_16))) ∧
          ((decide (x101r1_ = (0 : Int))) = false →
           R (.returned (Value.bool false)) hp_16))) ∧
        ((decide (x94r0_ ≠ (0 : Int))) = false →
         ∃ Jv_2 : List Value → Hp → Prop,
         (∃ b_8 o_6, scriptp_ = some ⟨b_8, o_6, none⟩ ∧ 0 ≤ i_ ∧ i_ < (scriptn_ : Int) ∧
          ∃ x147_ : Int, cellsAt hp_15 b_8 ((o_6 + Int.toNat i_ * 4) + 1) [(Value.int .i64 x147_)] ∧
          (((decide (x147_ = (1 : Int))) = true →
            CallsH Try.prog 26 #[(Value.pointer x20_), (Value.int .u64 n_)] hp_15 fun en_13 hp_19 =>
            en_13 = .returned (Value.tuple #[]) ∧
            Jv_2 [] hp_19) ∧
           ((decide (x147_ = (1 : Int))) = false →
            (((decide (x147_ = (2 : Int))) = true →
              ∃ b_9 o_7, scriptp_ = some ⟨b_9, o_7, none⟩ ∧ 0 ≤ i_ ∧ i_ < (scriptn_ : Int) ∧
              ∃ x161_ : Int, cellsAt hp_15 b_9 ((o_7 + Int.toNat i_ * 4) + 3) [(Value.int .i64 x161_)] ∧
              CallsH Try.prog 27 #[(Value.pointer x20_), (Value.int .u64 n_), (Value.int .i64 x161_)] hp_15 fun en_14 hp_20 =>
              en_14 = .returned (Value.tuple #[]) ∧
              Jv_2 [] hp_20) ∧
             ((decide (x147_ = (2 : Int))) = false →
              (((decide (x147_ = (3 : Int))) = true →
                CallsH Try.prog 28 #[(Value.pointer x20_), (Value.string s_)] hp_15 fun en_15 hp_21 =>
                en_15 = .returned (Value.tuple #[]) ∧
                Jv_2 [] hp_21) ∧
               ((decide (x147_ = (3 : Int))) = false →
                (((decide (x147_ = (4 : Int))) = true →
                  ∃ x171f0_ : Int, ∃ x171f1_ : Int, cellsAt hp_15 b_1 0 [(Value.int .u64 x171f0_), (Value.int .u64 x171f1_)] ∧
                  ∃ b_10 o_8, scriptp_ = some ⟨b_10, o_8, none⟩ ∧ 0 ≤ i_ ∧ i_ < (scriptn_ : Int) ∧
                  ∃ x176_ : Int, cellsAt hp_15 b_10 ((o_8 + Int.toNat i_ * 4) + 3) [(Value.int .i64 x176_)] ∧
                  CallsH Try.prog 29 #[(Value.pointer x20_), (Value.agg #[(Value.int .u64 x171f0_), (Value.int .u64 x171f1_)]), (Value.int .i64 x176_)] hp_15 fun en_16 hp_22 =>
                  en_16 = .returned (Value.tuple #[]) ∧
                  Jv_2 [] hp_22) ∧
                 ((decide (x147_ = (4 : Int))) = false →
                  (((decide (x147_ = (5 : Int))) = true →
                    CallsH Try.prog 30 #[(Value.pointer x20_), (Value.string s_)] hp_15 fun en_17 hp_23 =>
                    en_17 = .returned (Value.tuple #[]) ∧
                    Jv_2 [] hp_23) ∧
                   ((decide (x147_ = (5 : Int))) = false →
                    Jv_2 [] hp_15))))))))))) ∧
         (∀  hp_24, Jv_2 [] hp_24 →
          CallsH Try.prog 19 #[(Value.pointer x22_)] hp_24 fun en_18 hp_25 =>
          ∃ x184_ : Int, en_18 = .returned (Value.int .i64 x184_) ∧
          (((decide (x184_ < x40_)) = true →
            R (.returned (Value.bool false)) hp_25) ∧
           ((decide (x184_ < x40_)) = false →
            CallsH Try.prog 19 #[(Value.pointer x22_)] hp_25 fun en_19 hp_26 =>
            ∃ x189_ : Int, en_19 = .returned (Value.int .i64 x189_) ∧
            (((decide ((ByteArray.size b_ : Int) < x189_)) = true →
              R (.returned (Value.bool false)) hp_26) ∧
             ((decide ((ByteArray.size b_ : Int) < x189_)) = false →
              CallsH Try.prog 16 #[(Value.pointer x20_)] hp_26 fun en_20 hp_27 =>
              ∃ x196_ : Int, en_20 = .returned (Value.int .i64 x196_) ∧
              CallsH Try.prog 19 #[(Value.pointer x22_)] hp_27 fun en_21 hp_28 =>
              ∃ x198_ : Int, en_21 = .returned (Value.int .i64 x198_) ∧
              (((decide (x196_ ≠ x198_)) = true →
                R (.returned (Value.bool false)) hp_28) ∧
               ((decide (x196_ ≠ x198_)) = false →
                ∃ x38_, IntKind.i64.wrap (i_ + (1 : Int)) = x38_ ∧
                (Iv_ [(Value.int .i64 x38_)] hp_28 ∧ m_ [(Value.int .i64 x38_)] hp_28 < m_ [(Value.int .i64 i_)] hp_4)))))))))))) ∧
     ((decide (i_ < ((scriptn_ : Nat) : Int))) = false →
      CallsH Try.prog 15 #[(Value.pointer x20_)] hp_4 fun en_22 hp_29 =>
      ∃ x203r0_ : ByteArray, ∃ x203r1_ : Int, en_22 = .returned (Value.tuple #[(Value.string x203r0_), (Value.int .i64 x203r1_)]) ∧
      (((decide (x203r1_ = (0 : Int))) = true →
        CallsH Try.prog 19 #[(Value.pointer x22_)] hp_29 fun en_23 hp_30 =>
        ∃ x212_ : Int, en_23 = .returned (Value.int .i64 x212_) ∧
        ∃ u_1 : Nat, x212_ = (u_1 : Int) ∧
        0 ≤ u_1 ∧ u_1 ≤ ByteArray.size b_ ∧ ∃ x213_, ByteArray.extract b_ 0 u_1 = x213_ ∧
        (((decide (x203r0_ = x213_)) = true →
          CallsH Try.prog 20 #[(Value.pointer x22_)] hp_30 fun en_24 hp_31 =>
          ∃ x218_ : Int, en_24 = .returned (Value.int .i64 x218_) ∧
          CallsH Try.prog 19 #[(Value.pointer x22_)] hp_31 fun en_25 hp_32 =>
          ∃ x221_ : Int, en_25 = .returned (Value.int .i64 x221_) ∧
          ∃ x225_, EqV Try.prog 4 (Value.bool (decide (x218_ = (0 : Int)))) (Value.bool (decide (x221_ = (ByteArray.size b_ : Int)))) x225_ ∧
          R (.returned (Value.bool x225_)) hp_32) ∧
         ((decide (x203r0_ = x213_)) = false →
          R (.returned (Value.bool false)) hp_30))) ∧
       ((decide (x203r1_ = (0 : Int))) = false →
        R (.returned (Value.bool false)) hp_29))))))) :
  CallsH Try.prog 6 #[(Value.string b_), (Value.slice scriptp_ scriptn_ scriptc_)] h R := calls_vc fine false Try.func6 (ann := A6) (args := [(Value.string b_), (Value.slice scriptp_ scriptn_ scriptc_)]) (by kernel_rfl) (Eq.mpr (by kernel_rfl) H)
/-- turnout/turnoutlaw03.PackNil -/
def A7 : Ann := (.seq .nil (.seq .nil (.seq .nil (.seq .nil (.seq .nil (.seq .nil (.seq .nil (.seq .nil (.seq .nil (.seq .nil (.seq .nil (.seq .nil (.seq .nil (.seq .nil (.seq .nil (.seq .nil (.seq .nil (.cut .nil [(18, .bool)] (.seq .nil .nil)))))))))))))))))))
theorem V7 (if0_ : Bool) (if1_ : Int) (if2_ : Int) (if3_ : Int) (if4_ : ByteArray) (if5_ : Int) (if6_ : Int) (xf0_ : Bool) (xf1_ : Int) (xf2_ : Int) (xf3_ : Int) (h : Hp) (R : Ending → Hp → Prop) (H :
  ∀ b_ hp_, b_ = Array.size h → hp_ = Array.push h (.cells #[(Value.bool if0_), (Value.int .i64 if1_), (Value.int .u64 if2_), (Value.int .i64 if3_), (Value.string if4_), (Value.int .u64 if5_), (Value.int .u64 if6_)] 36) →
  ∀ b_1 hp_1, b_1 = Array.size hp_ → hp_1 = Array.push hp_ (.cells #[(Value.bool xf0_), (Value.int .i64 xf1_), (Value.int .u64 xf2_), (Value.int .i64 xf3_)] 45) →
  CallsH Try.prog 8 #[] hp_1 fun en_ hp_2 =>
  ∃ x19_ : Bool, en_ = .returned (Value.bool x19_) ∧
  ∃ x22_ : Int, cellsAt hp_2 b_ (0 + 2) [(Value.int .u64 x22_)] ∧
  CallsH Try.prog 26 #[(Value.pointer none), (Value.int .u64 x22_)] hp_2 fun en_1 hp_3 =>
  en_1 = .returned (Value.tuple #[]) ∧
  ∃ x26_ : Int, cellsAt hp_3 b_ (0 + 2) [(Value.int .u64 x26_)] ∧
  ∃ x28_ : Int, cellsAt hp_3 b_ (0 + 3) [(Value.int .i64 x28_)] ∧
  CallsH Try.prog 27 #[(Value.pointer none), (Value.int .u64 x26_), (Value.int .i64 x28_)] hp_3 fun en_2 hp_4 =>
  en_2 = .returned (Value.tuple #[]) ∧
  ∃ x32_ : ByteArray, cellsAt hp_4 b_ (0 + 4) [(Value.string x32_)] ∧
  CallsH Try.prog 28 #[(Value.pointer none), (Value.string x32_)] hp_4 fun en_3 hp_5 =>
  en_3 = .returned (Value.tuple #[]) ∧
  ∃ x36f0_ : Int, ∃ x36f1_ : Int, cellsAt hp_5 b_ (0 + 5) [(Value.int .u64 x36f0_), (Value.int .u64 x36f1_)] ∧
  ∃ x38_ : Int, cellsAt hp_5 b_ (0 + 3) [(Value.int .i64 x38_)] ∧
  CallsH Try.prog 29 #[(Value.pointer none), (Value.agg #[(Value.int .u64 x36f0_), (Value.int .u64 x36f1_)]), (Value.int .i64 x38_)] hp_5 fun en_4 hp_6 =>
  en_4 = .returned (Value.tuple #[]) ∧
  ∃ x42_ : ByteArray, cellsAt hp_6 b_ (0 + 4) [(Value.string x42_)] ∧
  CallsH Try.prog 30 #[(Value.pointer none), (Value.string x42_)] hp_6 fun en_5 hp_7 =>
  en_5 = .returned (Value.tuple #[]) ∧
  CallsH Try.prog 15 #[(Value.pointer none)] hp_7 fun en_6 hp_8 =>
  ∃ x46r0_ : ByteArray, ∃ x46r1_ : Int, en_6 = .returned (Value.tuple #[(Value.string x46r0_), (Value.int .i64 x46r1_)]) ∧
  ∃ x51_ : Int, cellsAt hp_8 b_1 (0 + 2) [(Value.int .u64 x51_)] ∧
  CallsH Try.prog 21 #[(Value.pointer none), (Value.int .u64 x51_)] hp_8 fun en_7 hp_9 =>
  ∃ x52_ : Int, en_7 = .returned (Value.int .u64 x52_) ∧
  ∃ x55_ : Int, cellsAt hp_9 b_1 (0 + 3) [(Value.int .i64 x55_)] ∧
  CallsH Try.prog 22 #[(Value.pointer none), (Value.int .i64 x55_)] hp_9 fun en_8 hp_10 =>
  ∃ x56_ : Int, en_8 = .returned (Value.int .u64 x56_) ∧
  ∃ x59_ : Int, cellsAt hp_10 b_1 (0 + 3) [(Value.int .i64 x59_)] ∧
  CallsH Try.prog 23 #[(Value.pointer none), (Value.int .i64 x59_)] hp_10 fun en_9 hp_11 =>
  ∃ x60_ : ByteArray, en_9 = .returned (Value.string x60_) ∧
  ∃ x63_ : Int, cellsAt hp_11 b_1 (0 + 3) [(Value.int .i64 x63_)] ∧
  CallsH Try.prog 24 #[(Value.pointer none), (Value.int .i64 x63_)] hp_11 fun en_10 hp_12 =>
  ∃ x64f0_ : Int, ∃ x64f1_ : Int, en_10 = .returned (Value.agg #[(Value.int .u64 x64f0_), (Value.int .u64 x64f1_)]) ∧
  ∀ b_2 hp_13, b_2 = Array.size hp_12 → hp_13 = Array.push hp_12 (.cells (zeros Try.prog 34) 34) → (∃ i z, Try.prog.info? 34 = some i ∧ i.zero = some z) ∧
  List.length [(Value.int .u64 x64f0_), (Value.int .u64 x64f1_)] = 2 ∧ (∀ c ∈ [(Value.int .u64 x64f0_), (Value.int .u64 x64f1_)], c.oneCell' = true) ∧ wrAt hp_13 b_2 0 2 ∧ ∀ hp_14, hp_14 = setsH hp_13 b_2 0 [(Value.int .u64 x64f0_), (Value.int .u64 x64f1_)] →
  ∃ x67_ : Int, cellsAt hp_14 b_1 (0 + 3) [(Value.int .i64 x67_)] ∧
  CallsH Try.prog 25 #[(Value.pointer none), (Value.int .i64 x67_)] hp_14 fun en_11 hp_15 =>
  ∃ x68_ : ByteArray, en_11 = .returned (Value.string x68_) ∧
  CallsH Try.prog 18 #[(Value.pointer none)] hp_15 fun en_12 hp_16 =>
  ∃ x71r0_ : Int, ∃ x71r1_ : Int, en_12 = .returned (Value.tuple #[(Value.int .i64 x71r0_), (Value.int .i64 x71r1_)]) ∧
  CallsH Try.prog 20 #[(Value.pointer none)] hp_16 fun en_13 hp_17 =>
  ∃ x75_ : Int, en_13 = .returned (Value.int .i64 x75_) ∧
  ∃ Jv_ : List Value → Hp → Prop,
  (CallsH Try.prog 16 #[(Value.pointer none)] hp_17 fun en_14 hp_18 =>
   ∃ x77_ : Int, en_14 = .returned (Value.int .i64 x77_) ∧
   (((decide (x77_ = (0 : Int))) = true →
     (((decide (x46r0_ = (⟨#[]⟩ : ByteArray))) = true →
       Jv_ [(Value.bool (decide (x46r1_ = (1 : Int))))] hp_18) ∧
      ((decide (x46r0_ = (⟨#[]⟩ : ByteArray))) = false →
       Jv_ [(Value.bool false)] hp_18))) ∧
    ((decide (x77_ = (0 : Int))) = false →
     Jv_ [(Value.bool false)] hp_18))) ∧
  (∀ (one_ : Bool) hp_19, Jv_ [(Value.bool one_)] hp_19 →
   ((x19_ = true →
     ((one_ = true →
       (((decide (x52_ = (0 : Int))) = true →
         (((decide (x56_ = (0 : Int))) = true →
           (((decide (x60_ = (⟨#[]⟩ : ByteArray))) = true →
             ∃ x104f0_ : Int, ∃ x104f1_ : Int, cellsAt hp_19 b_2 0 [(Value.int .u64 x104f0_), (Value.int .u64 x104f1_)] ∧
             ∃ x106_, EqV Try.prog 34 (Value.agg #[(Value.int .u64 x104f0_), (Value.int .u64 x104f1_)]) (Value.agg #[(Value.int .u64 (0 : Int)), (Value.int .u64 (0 : Int))]) x106_ ∧
             ((x106_ = true →
               (((decide (x68_ = (⟨#[]⟩ : ByteArray))) = true →
                 CallsH Try.prog 19 #[(Value.pointer none)] hp_19 fun en_15 hp_20 =>
                 ∃ x114_ : Int, en_15 = .returned (Value.int .i64 x114_) ∧
                 (((decide (x114_ = (0 : Int))) = true →
                   (((decide (x71r0_ = (1 : Int))) = true →
                     (((decide (x71r1_ = (0 : Int))) = true →
                       R (.returned (Value.bool (decide (x75_ = (1 : Int))))) hp_20) ∧
                      ((decide (x71r1_ = (0 : Int))) = false →
                       R (.returned (Value.bool false)) hp_20))) ∧
                    ((decide (x71r0_ = (1 : Int))) = false →
                     R (.returned (Value.bool false)) hp_20))) ∧
                  ((decide (x114_ = (0 : Int))) = false →
                   R (.returned (Value.bool false)) hp_20))) ∧
                ((decide (x68_ = (⟨#[]⟩ : ByteArray))) = false →
                 R (.returned (Value.bool false)) hp_19))) ∧
              (x106_ = false →
               R (.returned (Value.bool false)) hp_19))) ∧
            ((decide (x60_ = (⟨#[]⟩ : ByteArray))) = false →
             R (.returned (Value.bool false)) hp_19))) ∧
          ((decide (x56_ = (0 : Int))) = false →
           R (.returned (Value.bool false)) hp_19))) ∧
        ((decide (x52_ = (0 : Int))) = false →
         R (.returned (Value.bool false)) hp_19))) ∧
      (one_ = false →
       R (.returned (Value.bool false)) hp_19))) ∧
    (x19_ = false →
     R (.returned (Value.bool false)) hp_19)))) :
  CallsH Try.prog 7 #[(Value.agg #[(Value.bool if0_), (Value.int .i64 if1_), (Value.int .u64 if2_), (Value.int .i64 if3_), (Value.string if4_), (Value.int .u64 if5_), (Value.int .u64 if6_)]), (Value.agg #[(Value.bool xf0_), (Value.int .i64 xf1_), (Value.int .u64 xf2_), (Value.int .i64 xf3_)])] h R := calls_vc fine false Try.func7 (ann := A7) (args := [(Value.agg #[(Value.bool if0_), (Value.int .i64 if1_), (Value.int .u64 if2_), (Value.int .i64 if3_), (Value.string if4_), (Value.int .u64 if5_), (Value.int .u64 if6_)]), (Value.agg #[(Value.bool xf0_), (Value.int .i64 xf1_), (Value.int .u64 xf2_), (Value.int .i64 xf3_)])]) (by kernel_rfl) (Eq.mpr (by kernel_rfl) H)
/-- turnout/turnoutlaw03.awake -/
def A8 : Ann := (.seq .nil (.seq .nil (.seq (.seq .nil (.cond (.seq .nil .nil) .nil)) (.seq .nil (.seq .nil (.seq .nil (.seq .nil (.seq .nil (.seq .nil (.seq (.seq .nil (.cond (.seq .nil .nil) .nil)) (.seq .nil (.seq .nil (.seq (.join 0) .nil)))))))))))))
theorem V8  (h : Hp) (R : Ending → Hp → Prop) (H :
  CallsH Try.prog 10 #[] h fun en_ hp_ =>
  ∃ x7_ : Option Addr, en_ = .returned (Value.pointer x7_) ∧
  ∃ x9_, EqV Try.prog 25 (Value.pointer x7_) (Value.pointer none) x9_ ∧
  ((x9_ = true →
    R (.returned (Value.bool false)) hp_) ∧
   (x9_ = false →
    CallsH Try.prog 26 #[(Value.pointer x7_), (Value.int .u64 (300 : Int))] hp_ fun en_1 hp_1 =>
    en_1 = .returned (Value.tuple #[]) ∧
    CallsH Try.prog 27 #[(Value.pointer x7_), (Value.int .u64 (258 : Int)), (Value.int .i64 (2 : Int))] hp_1 fun en_2 hp_2 =>
    en_2 = .returned (Value.tuple #[]) ∧
    CallsH Try.prog 28 #[(Value.pointer x7_), (Value.string (⟨#[97, 98]⟩ : ByteArray))] hp_2 fun en_3 hp_3 =>
    en_3 = .returned (Value.tuple #[]) ∧
    CallsH Try.prog 29 #[(Value.pointer x7_), (Value.agg #[(Value.int .u64 (0 : Int)), (Value.int .u64 (258 : Int))]), (Value.int .i64 (12 : Int))] hp_3 fun en_4 hp_4 =>
    en_4 = .returned (Value.tuple #[]) ∧
    CallsH Try.prog 15 #[(Value.pointer x7_)] hp_4 fun en_5 hp_5 =>
    ∃ x21r0_ : ByteArray, ∃ x21r1_ : Int, en_5 = .returned (Value.tuple #[(Value.string x21r0_), (Value.int .i64 x21r1_)]) ∧
    CallsH Try.prog 12 #[(Value.string (⟨#[172, 2, 7]⟩ : ByteArray))] hp_5 fun en_6 hp_6 =>
    ∃ x24_ : Option Addr, en_6 = .returned (Value.pointer x24_) ∧
    ∃ x26_, EqV Try.prog 39 (Value.pointer x24_) (Value.pointer none) x26_ ∧
    ((x26_ = true →
      R (.returned (Value.bool false)) hp_6) ∧
     (x26_ = false →
      CallsH Try.prog 21 #[(Value.pointer x24_), (Value.int .u64 (300 : Int))] hp_6 fun en_7 hp_7 =>
      ∃ x28_ : Int, en_7 = .returned (Value.int .u64 x28_) ∧
      CallsH Try.prog 20 #[(Value.pointer x24_)] hp_7 fun en_8 hp_8 =>
      ∃ x30_ : Int, en_8 = .returned (Value.int .i64 x30_) ∧
      ∃ B_ : Bool, ((((decide (x21r0_ = (⟨#[172, 2, 1, 2, 2, 97, 98, 1, 2]⟩ : ByteArray))) = true →
         (((decide (x21r1_ = (0 : Int))) = true →
           (((decide (x28_ = (300 : Int))) = true →
             hp_8 = hp_8 ∧ B_ = (decide (x30_ = (31 : Int)))) ∧
            ((decide (x28_ = (300 : Int))) = false →
             hp_8 = hp_8 ∧ B_ = false))) ∧
          ((decide (x21r1_ = (0 : Int))) = false →
           hp_8 = hp_8 ∧ B_ = false))) ∧
        ((decide (x21r0_ = (⟨#[172, 2, 1, 2, 2, 97, 98, 1, 2]⟩ : ByteArray))) = false →
         hp_8 = hp_8 ∧ B_ = false))) ∧
      R (.returned (Value.bool B_)) hp_8))))) :
  CallsH Try.prog 8 #[] h R := calls_vc fine false Try.func8 (ann := A8) (args := []) (by kernel_rfl) (Eq.mpr (by kernel_rfl) H)
/-- turnout/turnoutlaw03.light -/
def A9 : Ann := (.seq .nil (.seq .nil (.seq .nil (.seq (.seq .nil (.block (.loop [(4, (.int .i64)), (5, (.int .i64))] (.cut (.seq .nil (.cond .nil .nil)) [] (.seq (.block (.seq .nil (.seq .nil (.cond .nil .nil)))) .nil))))) (.seq .nil .nil)))))
theorem V9 (lp_ : Option Addr) (ln_ lc_ : Nat) (h : Hp) (R : Ending → Hp → Prop) (H :
  CallsH Try.prog 31 #[] h fun en_ hp_ =>
  ∃ x6_ : Option Addr, en_ = .returned (Value.pointer x6_) ∧
  ∃ (Iv_ : List Value → Hp → Prop) (m_ : List Value → Hp → Nat), Iv_ [(Value.int .i64 (0 : Int)), (Value.int .i64 (0 : Int))] hp_ ∧
  (∀ (all_ : Int) (i_ : Int) hp_1, Iv_ [(Value.int .i64 all_), (Value.int .i64 i_)] hp_1 →
   ∃ Jv_ : List Value → Hp → Prop,
   ((((decide (i_ < ((ln_ : Nat) : Int))) = true →
      ∃ b_ o_, lp_ = some ⟨b_, o_, none⟩ ∧ 0 ≤ i_ ∧ i_ < (ln_ : Int) ∧
      ∃ x17_ : ByteArray, cellsAt hp_1 b_ ((o_ + Int.toNat i_ * 7) + 4) [(Value.string x17_)] ∧
      CallsH Try.prog 32 #[(Value.pointer x6_), (Value.string x17_)] hp_1 fun en_1 hp_2 =>
      ∃ x18_ : Bool, en_1 = .returned (Value.bool x18_) ∧
      ((x18_ = true →
        Jv_ [] hp_2) ∧
       (x18_ = false →
        CallsH Try.prog 34 #[(Value.pointer x6_)] hp_2 fun en_2 hp_3 =>
        ∃ x42_ : Bool, en_2 = .returned (Value.bool x42_) ∧
        R (.returned (Value.bool x42_)) hp_3))) ∧
     ((decide (i_ < ((ln_ : Nat) : Int))) = false →
      CallsH Try.prog 34 #[(Value.pointer x6_)] hp_1 fun en_3 hp_4 =>
      ∃ x42_1 : Bool, en_3 = .returned (Value.bool x42_1) ∧
      R (.returned (Value.bool x42_1)) hp_4))) ∧
   (∀  hp_5, Jv_ [] hp_5 →
    ∃ x23_, IntKind.i64.wrap (all_ + (20 : Int)) = x23_ ∧
    ∃ b_1 o_1, lp_ = some ⟨b_1, o_1, none⟩ ∧ 0 ≤ i_ ∧ i_ < (ln_ : Int) ∧
    ∃ x28_ : ByteArray, cellsAt hp_5 b_1 ((o_1 + Int.toNat i_ * 7) + 4) [(Value.string x28_)] ∧
    ∃ x30_, IntKind.i64.wrap (x23_ + (ByteArray.size x28_ : Int)) = x30_ ∧
    ∃ b_2 o_2, lp_ = some ⟨b_2, o_2, none⟩ ∧ 0 ≤ i_ ∧ i_ < (ln_ : Int) ∧
    ∃ x35_ : Int, cellsAt hp_5 b_2 ((o_2 + Int.toNat i_ * 7) + 1) [(Value.int .i64 x35_)] ∧
    (((decide (x35_ = (6 : Int))) = true →
      (16 : Int) ≠ 0 ∧ ∃ x39_, IntKind.i64.wrap (Int.tdiv x30_ (16 : Int)) = x39_ ∧
      CallsH Try.prog 33 #[(Value.pointer x6_), (Value.int .i64 x39_)] hp_5 fun en_4 hp_6 =>
      ∃ x40_ : Bool, en_4 = .returned (Value.bool x40_) ∧
      ∃ x21_, IntKind.i64.wrap (i_ + (1 : Int)) = x21_ ∧
      (Iv_ [(Value.int .i64 x30_), (Value.int .i64 x21_)] hp_6 ∧ m_ [(Value.int .i64 x30_), (Value.int .i64 x21_)] hp_6 < m_ [(Value.int .i64 all_), (Value.int .i64 i_)] hp_1)) ∧
     ((decide (x35_ = (6 : Int))) = false →
      ∃ x21_1, IntKind.i64.wrap (i_ + (1 : Int)) = x21_1 ∧
      (Iv_ [(Value.int .i64 x30_), (Value.int .i64 x21_1)] hp_5 ∧ m_ [(Value.int .i64 x30_), (Value.int .i64 x21_1)] hp_5 < m_ [(Value.int .i64 all_), (Value.int .i64 i_)] hp_1)))))) :
  CallsH Try.prog 9 #[(Value.slice lp_ ln_ lc_)] h R := calls_vc fine false Try.func9 (ann := A9) (args := [(Value.slice lp_ ln_ lc_)]) (by kernel_rfl) (Eq.mpr (by kernel_rfl) H)
/-- turnout/pack.New -/
def A10 : Ann := (.seq .nil (.seq .nil .nil))
theorem V10  (h : Hp) (R : Ending → Hp → Prop) (H :
  ∀ b_ hp_, b_ = Array.size h → hp_ = Array.push h (.cells #[(Value.slice none 0 0), (Value.int .i64 (0 : Int))] 71) →
  R (.returned (Value.pointer (some ⟨b_, 0, none⟩))) hp_) :
  CallsH Try.prog 10 #[] h R := calls_vc fine false Try.func10 (ann := A10) (args := []) (by kernel_rfl) (Eq.mpr (by kernel_rfl) H)
/-- turnout/turnoutlaw03.writes -/
def A11 : Ann := (.seq .nil (.cut (.seq .nil (.block (.seq .nil (.cond (.seq .nil .nil) (.seq .nil (.cond (.seq .nil .nil) (.seq .nil (.cond (.seq .nil .nil) (.seq .nil (.cond (.seq .nil .nil) (.seq .nil (.cond (.seq .nil .nil) (.seq .nil (.cond (.seq .nil (.seq .nil (.seq (.join 6) .nil))) .nil)))))))))))))) [] (.seq (.drawLast [5]) .nil)))
theorem V11 (w_ : Option Addr) (x_ : Option Addr) (if0_ : Bool) (if1_ : Int) (if2_ : Int) (if3_ : Int) (if4_ : ByteArray) (if5_ : Int) (if6_ : Int) (h : Hp) (R : Ending → Hp → Prop) (H :
  ∀ b_ hp_, b_ = Array.size h → hp_ = Array.push h (.cells #[(Value.bool if0_), (Value.int .i64 if1_), (Value.int .u64 if2_), (Value.int .i64 if3_), (Value.string if4_), (Value.int .u64 if5_), (Value.int .u64 if6_)] 36) →
  ∃ Jv_ : List Value → Hp → Prop,
  (∃ x12_ : Int, cellsAt hp_ b_ (0 + 1) [(Value.int .i64 x12_)] ∧
   (((decide (x12_ = (1 : Int))) = true →
     ∃ x17_ : Int, cellsAt hp_ b_ (0 + 2) [(Value.int .u64 x17_)] ∧
     CallsH Try.prog 26 #[(Value.pointer w_), (Value.int .u64 x17_)] hp_ fun en_ hp_1 =>
     en_ = .returned (Value.tuple #[]) ∧
     ∃ x21_ : Int, cellsAt hp_1 b_ (0 + 2) [(Value.int .u64 x21_)] ∧
     CallsH Try.prog 35 #[(Value.pointer x_), (Value.int .u64 x21_)] hp_1 fun en_1 hp_2 =>
     en_1 = .returned (Value.tuple #[]) ∧
     Jv_ [] hp_2) ∧
    ((decide (x12_ = (1 : Int))) = false →
     (((decide (x12_ = (2 : Int))) = true →
       ∃ x27_ : Int, cellsAt hp_ b_ (0 + 2) [(Value.int .u64 x27_)] ∧
       ∃ x29_ : Int, cellsAt hp_ b_ (0 + 3) [(Value.int .i64 x29_)] ∧
       CallsH Try.prog 27 #[(Value.pointer w_), (Value.int .u64 x27_), (Value.int .i64 x29_)] hp_ fun en_2 hp_3 =>
       en_2 = .returned (Value.tuple #[]) ∧
       ∃ x33_ : Int, cellsAt hp_3 b_ (0 + 2) [(Value.int .u64 x33_)] ∧
       ∃ x35_ : Int, cellsAt hp_3 b_ (0 + 3) [(Value.int .i64 x35_)] ∧
       CallsH Try.prog 36 #[(Value.pointer x_), (Value.int .u64 x33_), (Value.int .i64 x35_)] hp_3 fun en_3 hp_4 =>
       en_3 = .returned (Value.tuple #[]) ∧
       Jv_ [] hp_4) ∧
      ((decide (x12_ = (2 : Int))) = false →
       (((decide (x12_ = (3 : Int))) = true →
         ∃ x41_ : ByteArray, cellsAt hp_ b_ (0 + 4) [(Value.string x41_)] ∧
         CallsH Try.prog 28 #[(Value.pointer w_), (Value.string x41_)] hp_ fun en_4 hp_5 =>
         en_4 = .returned (Value.tuple #[]) ∧
         ∃ x45_ : ByteArray, cellsAt hp_5 b_ (0 + 4) [(Value.string x45_)] ∧
         CallsH Try.prog 37 #[(Value.pointer x_), (Value.string x45_)] hp_5 fun en_5 hp_6 =>
         en_5 = .returned (Value.tuple #[]) ∧
         Jv_ [] hp_6) ∧
        ((decide (x12_ = (3 : Int))) = false →
         (((decide (x12_ = (4 : Int))) = true →
           ∃ x51f0_ : Int, ∃ x51f1_ : Int, cellsAt hp_ b_ (0 + 5) [(Value.int .u64 x51f0_), (Value.int .u64 x51f1_)] ∧
           ∃ x53_ : Int, cellsAt hp_ b_ (0 + 3) [(Value.int .i64 x53_)] ∧
           CallsH Try.prog 29 #[(Value.pointer w_), (Value.agg #[(Value.int .u64 x51f0_), (Value.int .u64 x51f1_)]), (Value.int .i64 x53_)] hp_ fun en_6 hp_7 =>
           en_6 = .returned (Value.tuple #[]) ∧
           ∃ x57f0_ : Int, ∃ x57f1_ : Int, cellsAt hp_7 b_ (0 + 5) [(Value.int .u64 x57f0_), (Value.int .u64 x57f1_)] ∧
           ∃ x59_ : Int, cellsAt hp_7 b_ (0 + 3) [(Value.int .i64 x59_)] ∧
           CallsH Try.prog 38 #[(Value.pointer x_), (Value.agg #[(Value.int .u64 x57f0_), (Value.int .u64 x57f1_)]), (Value.int .i64 x59_)] hp_7 fun en_7 hp_8 =>
           en_7 = .returned (Value.tuple #[]) ∧
           Jv_ [] hp_8) ∧
          ((decide (x12_ = (4 : Int))) = false →
           (((decide (x12_ = (5 : Int))) = true →
             ∃ x65_ : ByteArray, cellsAt hp_ b_ (0 + 4) [(Value.string x65_)] ∧
             CallsH Try.prog 30 #[(Value.pointer w_), (Value.string x65_)] hp_ fun en_8 hp_9 =>
             en_8 = .returned (Value.tuple #[]) ∧
             ∃ x69_ : ByteArray, cellsAt hp_9 b_ (0 + 4) [(Value.string x69_)] ∧
             CallsH Try.prog 39 #[(Value.pointer x_), (Value.string x69_)] hp_9 fun en_9 hp_10 =>
             en_9 = .returned (Value.tuple #[]) ∧
             Jv_ [] hp_10) ∧
            ((decide (x12_ = (5 : Int))) = false →
             (((decide (x12_ = (6 : Int))) = true →
               CallsH Try.prog 15 #[(Value.pointer w_)] hp_ fun en_10 hp_11 =>
               ∃ x75r0_ : ByteArray, ∃ x75r1_ : Int, en_10 = .returned (Value.tuple #[(Value.string x75r0_), (Value.int .i64 x75r1_)]) ∧
               CallsH Try.prog 40 #[(Value.pointer x_)] hp_11 fun en_11 hp_12 =>
               ∃ x80r0_ : ByteArray, ∃ x80r1_ : Int, en_11 = .returned (Value.tuple #[(Value.string x80r0_), (Value.int .i64 x80r1_)]) ∧
               ∃ B_ : Bool, ((((decide (x75r0_ = x80r0_)) = true →
                  hp_12 = hp_12 ∧ B_ = (decide (x75r1_ = x80r1_))) ∧
                 ((decide (x75r0_ = x80r0_)) = false →
                  hp_12 = hp_12 ∧ B_ = false))) ∧
               R (.returned (Value.bool B_)) hp_12) ∧
              ((decide (x12_ = (6 : Int))) = false →
               Jv_ [] hp_))))))))))))) ∧
  (∀  hp_13, Jv_ [] hp_13 →
   ∃ Cv_ : Hp → Prop, Cv_ hp_13 ∧
   CallsH Try.prog 16 #[(Value.pointer w_)] hp_13 fun en_12 hp_14 =>
   ∃ x92_ : Int, en_12 = .returned (Value.int .i64 x92_) ∧
   Cv_ hp_14 ∧
   ∃ b_1 o_, x_ = some ⟨b_1, o_, none⟩ ∧
   ∃ (x96p_ : Option Addr) (x96n_ x96c_ : Nat), (∀ h', Cv_ h' → cellsAt h' b_1 (o_ + 0) [(Value.slice x96p_ x96n_ x96c_)]) ∧
   R (.returned (Value.bool (decide (x92_ = ((x96n_ : Nat) : Int))))) hp_14)) :
  CallsH Try.prog 11 #[(Value.pointer w_), (Value.pointer x_), (Value.agg #[(Value.bool if0_), (Value.int .i64 if1_), (Value.int .u64 if2_), (Value.int .i64 if3_), (Value.string if4_), (Value.int .u64 if5_), (Value.int .u64 if6_)])] h R := calls_vc fine false Try.func11 (ann := A11) (args := [(Value.pointer w_), (Value.pointer x_), (Value.agg #[(Value.bool if0_), (Value.int .i64 if1_), (Value.int .u64 if2_), (Value.int .i64 if3_), (Value.string if4_), (Value.int .u64 if5_), (Value.int .u64 if6_)])]) (by kernel_rfl) (Eq.mpr (by kernel_rfl) H)
/-- turnout/pack.Open -/
def A12 : Ann := (.seq .nil (.seq .nil .nil))
theorem V12 (b_ : ByteArray) (h : Hp) (R : Ending → Hp → Prop) (H :
  ∀ b_1 hp_, b_1 = Array.size h → hp_ = Array.push h (.cells #[(Value.string b_), (Value.int .i64 (0 : Int)), (Value.int .i64 (0 : Int)), (Value.int .i64 (0 : Int))] 73) →
  R (.returned (Value.pointer (some ⟨b_1, 0, none⟩))) hp_) :
  CallsH Try.prog 12 #[(Value.string b_)] h R := calls_vc fine false Try.func12 (ann := A12) (args := [(Value.string b_)]) (by kernel_rfl) (Eq.mpr (by kernel_rfl) H)
/-- turnout/turnoutlaw03.reads -/
def A13 : Ann := (.seq .nil (.seq .nil (.cut (.seq .nil (.block (.seq .nil (.cond (.seq .nil .nil) (.seq .nil (.cond (.seq .nil .nil) (.seq .nil (.cond (.seq .nil .nil) (.seq .nil (.cond (.seq .nil (.drawLast [0])) (.seq .nil (.cond (.seq .nil .nil) .nil)))))))))))) [(7, .bool)] (.seq .nil (.seq .nil (.seq (.drawLast [7]) .nil))))))
theorem V13 (r_ : Option Addr) (x_ : Option Addr) (wf0_ : Bool) (wf1_ : Int) (wf2_ : Int) (wf3_ : Int) (h : Hp) (R : Ending → Hp → Prop) (H :
  ∀ b_ hp_, b_ = Array.size h → hp_ = Array.push h (.cells #[(Value.bool wf0_), (Value.int .i64 wf1_), (Value.int .u64 wf2_), (Value.int .i64 wf3_)] 45) →
  ∃ Jv_ : List Value → Hp → Prop,
  (∃ x17_ : Int, cellsAt hp_ b_ (0 + 1) [(Value.int .i64 x17_)] ∧
   (((decide (x17_ = (1 : Int))) = true →
     ∃ x22_ : Int, cellsAt hp_ b_ (0 + 2) [(Value.int .u64 x22_)] ∧
     CallsH Try.prog 21 #[(Value.pointer r_), (Value.int .u64 x22_)] hp_ fun en_ hp_1 =>
     ∃ x23_ : Int, en_ = .returned (Value.int .u64 x23_) ∧
     ∃ x27_ : Int, cellsAt hp_1 b_ (0 + 2) [(Value.int .u64 x27_)] ∧
     CallsH Try.prog 41 #[(Value.pointer x_), (Value.int .u64 x27_)] hp_1 fun en_1 hp_2 =>
     ∃ x28_ : Int, en_1 = .returned (Value.int .u64 x28_) ∧
     Jv_ [(Value.bool (decide (x23_ = x28_)))] hp_2) ∧
    ((decide (x17_ = (1 : Int))) = false →
     (((decide (x17_ = (2 : Int))) = true →
       ∃ x34_ : Int, cellsAt hp_ b_ (0 + 3) [(Value.int .i64 x34_)] ∧
       CallsH Try.prog 22 #[(Value.pointer r_), (Value.int .i64 x34_)] hp_ fun en_2 hp_3 =>
       ∃ x35_ : Int, en_2 = .returned (Value.int .u64 x35_) ∧
       ∃ x39_ : Int, cellsAt hp_3 b_ (0 + 3) [(Value.int .i64 x39_)] ∧
       CallsH Try.prog 42 #[(Value.pointer x_), (Value.int .i64 x39_)] hp_3 fun en_3 hp_4 =>
       ∃ x40_ : Int, en_3 = .returned (Value.int .u64 x40_) ∧
       Jv_ [(Value.bool (decide (x35_ = x40_)))] hp_4) ∧
      ((decide (x17_ = (2 : Int))) = false →
       (((decide (x17_ = (3 : Int))) = true →
         ∃ x46_ : Int, cellsAt hp_ b_ (0 + 3) [(Value.int .i64 x46_)] ∧
         CallsH Try.prog 23 #[(Value.pointer r_), (Value.int .i64 x46_)] hp_ fun en_4 hp_5 =>
         ∃ x47_ : ByteArray, en_4 = .returned (Value.string x47_) ∧
         ∃ x51_ : Int, cellsAt hp_5 b_ (0 + 3) [(Value.int .i64 x51_)] ∧
         CallsH Try.prog 43 #[(Value.pointer x_), (Value.int .i64 x51_)] hp_5 fun en_5 hp_6 =>
         ∃ x52_ : ByteArray, en_5 = .returned (Value.string x52_) ∧
         Jv_ [(Value.bool (decide (x47_ = x52_)))] hp_6) ∧
        ((decide (x17_ = (3 : Int))) = false →
         (((decide (x17_ = (4 : Int))) = true →
           ∃ x58_ : Int, cellsAt hp_ b_ (0 + 3) [(Value.int .i64 x58_)] ∧
           CallsH Try.prog 24 #[(Value.pointer r_), (Value.int .i64 x58_)] hp_ fun en_6 hp_7 =>
           ∃ x59f0_ : Int, ∃ x59f1_ : Int, en_6 = .returned (Value.agg #[(Value.int .u64 x59f0_), (Value.int .u64 x59f1_)]) ∧
           ∀ b_1 hp_8, b_1 = Array.size hp_7 → hp_8 = Array.push hp_7 (.cells (zeros Try.prog 34) 34) → (∃ i z, Try.prog.info? 34 = some i ∧ i.zero = some z) ∧
           List.length [(Value.int .u64 x59f0_), (Value.int .u64 x59f1_)] = 2 ∧ (∀ c ∈ [(Value.int .u64 x59f0_), (Value.int .u64 x59f1_)], c.oneCell' = true) ∧ wrAt hp_8 b_1 0 2 ∧ ∀ hp_9, hp_9 = setsH hp_8 b_1 0 [(Value.int .u64 x59f0_), (Value.int .u64 x59f1_)] →
           ∃ Cv_ : Hp → Prop, Cv_ hp_9 ∧
           ∃ x60f0_ : Int, ∃ x60f1_ : Int, (∀ h', Cv_ h' → cellsAt h' b_1 0 [(Value.int .u64 x60f0_), (Value.int .u64 x60f1_)]) ∧
           ∃ x63_ : Int, cellsAt hp_9 b_ (0 + 3) [(Value.int .i64 x63_)] ∧
           CallsH Try.prog 44 #[(Value.pointer x_), (Value.int .i64 x63_)] hp_9 fun en_7 hp_10 =>
           ∃ x64f0_ : Int, ∃ x64f1_ : Int, en_7 = .returned (Value.agg #[(Value.int .u64 x64f0_), (Value.int .u64 x64f1_)]) ∧
           Cv_ hp_10 ∧
           ∃ x65_, EqV Try.prog 34 (Value.agg #[(Value.int .u64 x60f0_), (Value.int .u64 x60f1_)]) (Value.agg #[(Value.int .u64 x64f0_), (Value.int .u64 x64f1_)]) x65_ ∧
           Jv_ [(Value.bool x65_)] hp_10) ∧
          ((decide (x17_ = (4 : Int))) = false →
           (((decide (x17_ = (5 : Int))) = true →
             ∃ x70_ : Int, cellsAt hp_ b_ (0 + 3) [(Value.int .i64 x70_)] ∧
             CallsH Try.prog 25 #[(Value.pointer r_), (Value.int .i64 x70_)] hp_ fun en_8 hp_11 =>
             ∃ x71_ : ByteArray, en_8 = .returned (Value.string x71_) ∧
             ∃ x75_ : Int, cellsAt hp_11 b_ (0 + 3) [(Value.int .i64 x75_)] ∧
             CallsH Try.prog 45 #[(Value.pointer x_), (Value.int .i64 x75_)] hp_11 fun en_9 hp_12 =>
             ∃ x76_ : ByteArray, en_9 = .returned (Value.string x76_) ∧
             Jv_ [(Value.bool (decide (x71_ = x76_)))] hp_12) ∧
            ((decide (x17_ = (5 : Int))) = false →
             Jv_ [(Value.bool true)] hp_))))))))))) ∧
  (∀ (ok_ : Bool) hp_13, Jv_ [(Value.bool ok_)] hp_13 →
   CallsH Try.prog 18 #[(Value.pointer r_)] hp_13 fun en_10 hp_14 =>
   ∃ x80r0_ : Int, ∃ x80r1_ : Int, en_10 = .returned (Value.tuple #[(Value.int .i64 x80r0_), (Value.int .i64 x80r1_)]) ∧
   CallsH Try.prog 20 #[(Value.pointer r_)] hp_14 fun en_11 hp_15 =>
   ∃ x84_ : Int, en_11 = .returned (Value.int .i64 x84_) ∧
   ∃ Cv_1 : Hp → Prop, Cv_1 hp_15 ∧
   ((ok_ = true →
     CallsH Try.prog 19 #[(Value.pointer r_)] hp_15 fun en_12 hp_16 =>
     ∃ x88_ : Int, en_12 = .returned (Value.int .i64 x88_) ∧
     Cv_1 hp_16 ∧
     ∃ b_2 o_, x_ = some ⟨b_2, o_, none⟩ ∧
     ∃ x92_ : Int, (∀ h', Cv_1 h' → cellsAt h' b_2 (o_ + 1) [(Value.int .i64 x92_)]) ∧
     (((decide (x88_ = x92_)) = true →
       ∃ b_3 o_1, x_ = some ⟨b_3, o_1, none⟩ ∧
       ∃ x100_ : Int, cellsAt hp_16 b_3 (o_1 + 2) [(Value.int .i64 x100_)] ∧
       (((decide (x80r0_ = x100_)) = true →
         ∃ b_4 o_2, x_ = some ⟨b_4, o_2, none⟩ ∧
         ∃ x108_ : Int, cellsAt hp_16 b_4 (o_2 + 3) [(Value.int .i64 x108_)] ∧
         (((decide (x80r1_ = x108_)) = true →
           CallsH Try.prog 46 #[(Value.pointer x_)] hp_16 fun en_13 hp_17 =>
           ∃ x114_ : Int, en_13 = .returned (Value.int .i64 x114_) ∧
           Cv_1 hp_17 ∧
           R (.returned (Value.bool (decide (x84_ = x114_)))) hp_17) ∧
          ((decide (x80r1_ = x108_)) = false →
           R (.returned (Value.bool false)) hp_16))) ∧
        ((decide (x80r0_ = x100_)) = false →
         R (.returned (Value.bool false)) hp_16))) ∧
      ((decide (x88_ = x92_)) = false →
       R (.returned (Value.bool false)) hp_16))) ∧
    (ok_ = false →
     R (.returned (Value.bool false)) hp_15)))) :
  CallsH Try.prog 13 #[(Value.pointer r_), (Value.pointer x_), (Value.agg #[(Value.bool wf0_), (Value.int .i64 wf1_), (Value.int .u64 wf2_), (Value.int .i64 wf3_)])] h R := calls_vc fine false Try.func13 (ann := A13) (args := [(Value.pointer r_), (Value.pointer x_), (Value.agg #[(Value.bool wf0_), (Value.int .i64 wf1_), (Value.int .u64 wf2_), (Value.int .i64 wf3_)])]) (by kernel_rfl) (Eq.mpr (by kernel_rfl) H)
/-- turnout/turnoutlaw03.put -/
def A14 : Ann := (.seq .nil (.seq .nil (.seq (.seq .nil (.block (.seq .nil (.cond .nil (.seq .nil (.cond (.cut (.seq (.join 40) (.cond (.seq .nil .nil) .nil)) [] (.seq .nil (.seq (.drawLast [4]) .nil))) (.seq .nil (.cond (.seq .nil (.seq (.drawLast [4]) .nil)) (.seq .nil (.cond (.seq .nil (.seq (.drawLast [4]) .nil)) (.seq .nil (.cond (.seq .nil (.seq .nil .nil)) .nil)))))))))))) (.seq .nil .nil))))
theorem V14 (w_ : Option Addr) (if0_ : Bool) (if1_ : Int) (if2_ : Int) (if3_ : Int) (if4_ : ByteArray) (if5_ : Int) (if6_ : Int) (h : Hp) (R : Ending → Hp → Prop) (H :
  ∀ b_ hp_, b_ = Array.size h → hp_ = Array.push h (.cells #[(Value.bool if0_), (Value.int .i64 if1_), (Value.int .u64 if2_), (Value.int .i64 if3_), (Value.string if4_), (Value.int .u64 if5_), (Value.int .u64 if6_)] 36) →
  CallsH Try.prog 16 #[(Value.pointer w_)] hp_ fun en_ hp_1 =>
  ∃ x7_ : Int, en_ = .returned (Value.int .i64 x7_) ∧
  ∃ x9_ : Int, cellsAt hp_1 b_ (0 + 1) [(Value.int .i64 x9_)] ∧
  (((decide (x9_ = (1 : Int))) = true →
    ∃ x14_ : Int, cellsAt hp_1 b_ (0 + 2) [(Value.int .u64 x14_)] ∧
    CallsH Try.prog 26 #[(Value.pointer w_), (Value.int .u64 x14_)] hp_1 fun en_1 hp_2 =>
    en_1 = .returned (Value.tuple #[]) ∧
    R (.returned (Value.bool true)) hp_2) ∧
   ((decide (x9_ = (1 : Int))) = false →
    (((decide (x9_ = (2 : Int))) = true →
      ∃ Jv_ : List Value → Hp → Prop,
      (∃ B_ : Bool, (∃ x19_ : Int, cellsAt hp_1 b_ (0 + 3) [(Value.int .i64 x19_)] ∧
        (((decide (x19_ < (1 : Int))) = true →
          hp_1 = hp_1 ∧ B_ = true) ∧
         ((decide (x19_ < (1 : Int))) = false →
          ∃ x23_ : Int, cellsAt hp_1 b_ (0 + 3) [(Value.int .i64 x23_)] ∧
          (((decide ((8 : Int) < x23_)) = true →
            hp_1 = hp_1 ∧ B_ = true) ∧
           ((decide ((8 : Int) < x23_)) = false →
            ∃ x28_ : Int, cellsAt hp_1 b_ (0 + 3) [(Value.int .i64 x28_)] ∧
            (((decide (x28_ < (8 : Int))) = true →
              ∃ x32_ : Int, cellsAt hp_1 b_ (0 + 2) [(Value.int .u64 x32_)] ∧
              ∃ x34_ : Int, cellsAt hp_1 b_ (0 + 3) [(Value.int .i64 x34_)] ∧
              ∃ x35_, IntKind.i64.wrap ((8 : Int) * x34_) = x35_ ∧
              ∃ x36_, IntKind.u64.wrap x35_ = x36_ ∧
              0 ≤ x36_ ∧ ∃ x37_, shrI .u64 x32_ x36_ = x37_ ∧
              hp_1 = hp_1 ∧ B_ = (decide ((0 : Int) < x37_))) ∧
             ((decide (x28_ < (8 : Int))) = false →
              hp_1 = hp_1 ∧ B_ = false))))))) ∧
       ((B_ = true →
         R (.returned (Value.bool true)) hp_1) ∧
        (B_ = false →
         Jv_ [] hp_1))) ∧
      (∀  hp_3, Jv_ [] hp_3 →
       ∃ x43_ : Int, cellsAt hp_3 b_ (0 + 2) [(Value.int .u64 x43_)] ∧
       ∃ x45_ : Int, cellsAt hp_3 b_ (0 + 3) [(Value.int .i64 x45_)] ∧
       CallsH Try.prog 27 #[(Value.pointer w_), (Value.int .u64 x43_), (Value.int .i64 x45_)] hp_3 fun en_2 hp_4 =>
       en_2 = .returned (Value.tuple #[]) ∧
       ∃ Cv_ : Hp → Prop, Cv_ hp_4 ∧
       CallsH Try.prog 16 #[(Value.pointer w_)] hp_4 fun en_3 hp_5 =>
       ∃ x48_ : Int, en_3 = .returned (Value.int .i64 x48_) ∧
       Cv_ hp_5 ∧
       ∃ x51_ : Int, (∀ h', Cv_ h' → cellsAt h' b_ (0 + 3) [(Value.int .i64 x51_)]) ∧
       ∃ x52_, IntKind.i64.wrap (x7_ + x51_) = x52_ ∧
       R (.returned (Value.bool (decide (x48_ = x52_)))) hp_5)) ∧
     ((decide (x9_ = (2 : Int))) = false →
      (((decide (x9_ = (3 : Int))) = true →
        ∃ x58_ : ByteArray, cellsAt hp_1 b_ (0 + 4) [(Value.string x58_)] ∧
        CallsH Try.prog 28 #[(Value.pointer w_), (Value.string x58_)] hp_1 fun en_4 hp_6 =>
        en_4 = .returned (Value.tuple #[]) ∧
        ∃ Cv_1 : Hp → Prop, Cv_1 hp_6 ∧
        CallsH Try.prog 16 #[(Value.pointer w_)] hp_6 fun en_5 hp_7 =>
        ∃ x61_ : Int, en_5 = .returned (Value.int .i64 x61_) ∧
        Cv_1 hp_7 ∧
        ∃ x64_ : ByteArray, (∀ h', Cv_1 h' → cellsAt h' b_ (0 + 4) [(Value.string x64_)]) ∧
        ∃ x66_, IntKind.i64.wrap (x7_ + (ByteArray.size x64_ : Int)) = x66_ ∧
        R (.returned (Value.bool (decide (x66_ < x61_)))) hp_7) ∧
       ((decide (x9_ = (3 : Int))) = false →
        (((decide (x9_ = (5 : Int))) = true →
          ∃ x72_ : ByteArray, cellsAt hp_1 b_ (0 + 4) [(Value.string x72_)] ∧
          CallsH Try.prog 30 #[(Value.pointer w_), (Value.string x72_)] hp_1 fun en_6 hp_8 =>
          en_6 = .returned (Value.tuple #[]) ∧
          ∃ Cv_2 : Hp → Prop, Cv_2 hp_8 ∧
          CallsH Try.prog 16 #[(Value.pointer w_)] hp_8 fun en_7 hp_9 =>
          ∃ x75_ : Int, en_7 = .returned (Value.int .i64 x75_) ∧
          Cv_2 hp_9 ∧
          ∃ x78_ : ByteArray, (∀ h', Cv_2 h' → cellsAt h' b_ (0 + 4) [(Value.string x78_)]) ∧
          ∃ x80_, IntKind.i64.wrap (x7_ + (ByteArray.size x78_ : Int)) = x80_ ∧
          R (.returned (Value.bool (decide (x75_ = x80_)))) hp_9) ∧
         ((decide (x9_ = (5 : Int))) = false →
          (((decide (x9_ = (4 : Int))) = true →
            ∃ x87_ : Int, cellsAt hp_1 b_ ((0 + 5) + 1) [(Value.int .u64 x87_)] ∧
            CallsH Try.prog 29 #[(Value.pointer w_), (Value.agg #[(Value.int .u64 (0 : Int)), (Value.int .u64 x87_)]), (Value.int .i64 (64 : Int))] hp_1 fun en_8 hp_10 =>
            en_8 = .returned (Value.tuple #[]) ∧
            CallsH Try.prog 16 #[(Value.pointer w_)] hp_10 fun en_9 hp_11 =>
            ∃ x91_ : Int, en_9 = .returned (Value.int .i64 x91_) ∧
            ∃ x93_, IntKind.i64.wrap (x7_ + (8 : Int)) = x93_ ∧
            R (.returned (Value.bool (decide (x91_ = x93_)))) hp_11) ∧
           ((decide (x9_ = (4 : Int))) = false →
            R (.returned (Value.bool true)) hp_1))))))))))) :
  CallsH Try.prog 14 #[(Value.pointer w_), (Value.agg #[(Value.bool if0_), (Value.int .i64 if1_), (Value.int .u64 if2_), (Value.int .i64 if3_), (Value.string if4_), (Value.int .u64 if5_), (Value.int .u64 if6_)])] h R := calls_vc fine false Try.func14 (ann := A14) (args := [(Value.pointer w_), (Value.agg #[(Value.bool if0_), (Value.int .i64 if1_), (Value.int .u64 if2_), (Value.int .i64 if3_), (Value.string if4_), (Value.int .u64 if5_), (Value.int .u64 if6_)])]) (by kernel_rfl) (Eq.mpr (by kernel_rfl) H)
/-- (*turnout/pack.Writer).Out -/
def A15 : Ann := (.seq .nil (.seq (.block (.seq .nil (.cond (.seq .nil .nil) (.seq .nil (.cond (.seq .nil .nil) .nil))))) (.seq .nil .nil)))
theorem V15 (w_ : Option Addr) (h : Hp) (R : Ending → Hp → Prop) (H :
  ∃ x6_, EqV Try.prog 25 (Value.pointer w_) (Value.pointer none) x6_ ∧
  ((x6_ = true →
    R (.returned (Value.tuple #[(Value.string (⟨#[]⟩ : ByteArray)), (Value.int .i64 (1 : Int))])) h) ∧
   (x6_ = false →
    ∃ b_ o_, w_ = some ⟨b_, o_, none⟩ ∧
    ∃ x11_ : Int, cellsAt h b_ (o_ + 1) [(Value.int .i64 x11_)] ∧
    (((decide (x11_ ≠ (0 : Int))) = true →
      ∃ b_1 o_1, w_ = some ⟨b_1, o_1, none⟩ ∧
      ∃ x16_ : Int, cellsAt h b_1 (o_1 + 1) [(Value.int .i64 x16_)] ∧
      R (.returned (Value.tuple #[(Value.string (⟨#[]⟩ : ByteArray)), (Value.int .i64 x16_)])) h) ∧
     ((decide (x11_ ≠ (0 : Int))) = false →
      ∃ b_2 o_2, w_ = some ⟨b_2, o_2, none⟩ ∧
      ∃ (x20p_ : Option Addr) (x20n_ x20c_ : Nat), cellsAt h b_2 (o_2 + 0) [(Value.slice x20p_ x20n_ x20c_)] ∧
      SemH Try.prog (convert 28 9 (Value.slice x20p_ x20n_ x20c_)) h fun v_ hp_ =>
      ∃ x21_ : ByteArray, v_ = (Value.string x21_) ∧
      R (.returned (Value.tuple #[(Value.string x21_), (Value.int .i64 (0 : Int))])) hp_))))) :
  CallsH Try.prog 15 #[(Value.pointer w_)] h R := calls_vc fine false Try.func15 (ann := A15) (args := [(Value.pointer w_)]) (by kernel_rfl) (Eq.mpr (by kernel_rfl) H)
/-- (*turnout/pack.Writer).Len -/
def A16 : Ann := (.seq .nil (.seq (.seq .nil (.cond (.seq .nil .nil) .nil)) (.seq .nil .nil)))
theorem V16 (w_ : Option Addr) (h : Hp) (R : Ending → Hp → Prop) (H :
  ∃ x4_, EqV Try.prog 25 (Value.pointer w_) (Value.pointer none) x4_ ∧
  ((x4_ = true →
    R (.returned (Value.int .i64 (0 : Int))) h) ∧
   (x4_ = false →
    ∃ b_ o_, w_ = some ⟨b_, o_, none⟩ ∧
    ∃ (x8p_ : Option Addr) (x8n_ x8c_ : Nat), cellsAt h b_ (o_ + 0) [(Value.slice x8p_ x8n_ x8c_)] ∧
    R (.returned (Value.int .i64 ((x8n_ : Nat) : Int))) h))) :
  CallsH Try.prog 16 #[(Value.pointer w_)] h R := calls_vc fine false Try.func16 (ann := A16) (args := [(Value.pointer w_)]) (by kernel_rfl) (Eq.mpr (by kernel_rfl) H)
/-- turnout/turnoutlaw03.got -/
def A17 : Ann := (.seq .nil (.seq (.seq .nil (.block (.seq .nil (.cond (.seq (.drawLast [5]) .nil) (.seq .nil (.cond (.cut (.seq (.join 40) (.cond (.seq .nil .nil) .nil)) [] (.seq (.drawLast [5]) .nil)) (.seq .nil (.cond (.seq (.drawLast [6]) .nil) (.seq .nil (.cond (.seq (.drawLast [6]) .nil) (.seq .nil (.cond (.seq (.drawLast [4]) .nil) .nil)))))))))))) (.seq .nil .nil)))
theorem V17 (r_ : Option Addr) (if0_ : Bool) (if1_ : Int) (if2_ : Int) (if3_ : Int) (if4_ : ByteArray) (if5_ : Int) (if6_ : Int) (h : Hp) (R : Ending → Hp → Prop) (H :
  ∀ b_ hp_, b_ = Array.size h → hp_ = Array.push h (.cells #[(Value.bool if0_), (Value.int .i64 if1_), (Value.int .u64 if2_), (Value.int .i64 if3_), (Value.string if4_), (Value.int .u64 if5_), (Value.int .u64 if6_)] 36) →
  ∃ x6_ : Int, cellsAt hp_ b_ (0 + 1) [(Value.int .i64 x6_)] ∧
  (((decide (x6_ = (1 : Int))) = true →
    ∃ Cv_ : Hp → Prop, Cv_ hp_ ∧
    ∃ x11_ : Int, cellsAt hp_ b_ (0 + 2) [(Value.int .u64 x11_)] ∧
    CallsH Try.prog 21 #[(Value.pointer r_), (Value.int .u64 x11_)] hp_ fun en_ hp_1 =>
    ∃ x12_ : Int, en_ = .returned (Value.int .u64 x12_) ∧
    Cv_ hp_1 ∧
    ∃ x14_ : Int, (∀ h', Cv_ h' → cellsAt h' b_ (0 + 2) [(Value.int .u64 x14_)]) ∧
    R (.returned (Value.bool (decide (x12_ = x14_)))) hp_1) ∧
   ((decide (x6_ = (1 : Int))) = false →
    (((decide (x6_ = (2 : Int))) = true →
      ∃ Jv_ : List Value → Hp → Prop,
      (∃ B_ : Bool, (∃ x19_ : Int, cellsAt hp_ b_ (0 + 3) [(Value.int .i64 x19_)] ∧
        (((decide (x19_ < (1 : Int))) = true →
          hp_ = hp_ ∧ B_ = true) ∧
         ((decide (x19_ < (1 : Int))) = false →
          ∃ x23_ : Int, cellsAt hp_ b_ (0 + 3) [(Value.int .i64 x23_)] ∧
          (((decide ((8 : Int) < x23_)) = true →
            hp_ = hp_ ∧ B_ = true) ∧
           ((decide ((8 : Int) < x23_)) = false →
            ∃ x28_ : Int, cellsAt hp_ b_ (0 + 3) [(Value.int .i64 x28_)] ∧
            (((decide (x28_ < (8 : Int))) = true →
              ∃ x32_ : Int, cellsAt hp_ b_ (0 + 2) [(Value.int .u64 x32_)] ∧
              ∃ x34_ : Int, cellsAt hp_ b_ (0 + 3) [(Value.int .i64 x34_)] ∧
              ∃ x35_, IntKind.i64.wrap ((8 : Int) * x34_) = x35_ ∧
              ∃ x36_, IntKind.u64.wrap x35_ = x36_ ∧
              0 ≤ x36_ ∧ ∃ x37_, shrI .u64 x32_ x36_ = x37_ ∧
              hp_ = hp_ ∧ B_ = (decide ((0 : Int) < x37_))) ∧
             ((decide (x28_ < (8 : Int))) = false →
              hp_ = hp_ ∧ B_ = false))))))) ∧
       ((B_ = true →
         R (.returned (Value.bool true)) hp_) ∧
        (B_ = false →
         Jv_ [] hp_))) ∧
      (∀  hp_2, Jv_ [] hp_2 →
       ∃ Cv_1 : Hp → Prop, Cv_1 hp_2 ∧
       ∃ x43_ : Int, cellsAt hp_2 b_ (0 + 3) [(Value.int .i64 x43_)] ∧
       CallsH Try.prog 22 #[(Value.pointer r_), (Value.int .i64 x43_)] hp_2 fun en_1 hp_3 =>
       ∃ x44_ : Int, en_1 = .returned (Value.int .u64 x44_) ∧
       Cv_1 hp_3 ∧
       ∃ x46_ : Int, (∀ h', Cv_1 h' → cellsAt h' b_ (0 + 2) [(Value.int .u64 x46_)]) ∧
       R (.returned (Value.bool (decide (x44_ = x46_)))) hp_3)) ∧
     ((decide (x6_ = (2 : Int))) = false →
      (((decide (x6_ = (3 : Int))) = true →
        ∃ Cv_2 : Hp → Prop, Cv_2 hp_ ∧
        ∃ x52_ : ByteArray, cellsAt hp_ b_ (0 + 4) [(Value.string x52_)] ∧
        CallsH Try.prog 23 #[(Value.pointer r_), (Value.int .i64 (ByteArray.size x52_ : Int))] hp_ fun en_2 hp_4 =>
        ∃ x54_ : ByteArray, en_2 = .returned (Value.string x54_) ∧
        Cv_2 hp_4 ∧
        ∃ x56_ : ByteArray, (∀ h', Cv_2 h' → cellsAt h' b_ (0 + 4) [(Value.string x56_)]) ∧
        R (.returned (Value.bool (decide (x54_ = x56_)))) hp_4) ∧
       ((decide (x6_ = (3 : Int))) = false →
        (((decide (x6_ = (5 : Int))) = true →
          ∃ Cv_3 : Hp → Prop, Cv_3 hp_ ∧
          ∃ x62_ : ByteArray, cellsAt hp_ b_ (0 + 4) [(Value.string x62_)] ∧
          CallsH Try.prog 25 #[(Value.pointer r_), (Value.int .i64 (ByteArray.size x62_ : Int))] hp_ fun en_3 hp_5 =>
          ∃ x64_ : ByteArray, en_3 = .returned (Value.string x64_) ∧
          Cv_3 hp_5 ∧
          ∃ x66_ : ByteArray, (∀ h', Cv_3 h' → cellsAt h' b_ (0 + 4) [(Value.string x66_)]) ∧
          R (.returned (Value.bool (decide (x64_ = x66_)))) hp_5) ∧
         ((decide (x6_ = (5 : Int))) = false →
          (((decide (x6_ = (4 : Int))) = true →
            ∃ Cv_4 : Hp → Prop, Cv_4 hp_ ∧
            CallsH Try.prog 24 #[(Value.pointer r_), (Value.int .i64 (64 : Int))] hp_ fun en_4 hp_6 =>
            ∃ x71f0_ : Int, ∃ x71f1_ : Int, en_4 = .returned (Value.agg #[(Value.int .u64 x71f0_), (Value.int .u64 x71f1_)]) ∧
            Cv_4 hp_6 ∧
            ∃ x74_ : Int, (∀ h', Cv_4 h' → cellsAt h' b_ ((0 + 5) + 1) [(Value.int .u64 x74_)]) ∧
            ∃ x76_, EqV Try.prog 34 (Value.agg #[(Value.int .u64 x71f0_), (Value.int .u64 x71f1_)]) (Value.agg #[(Value.int .u64 (0 : Int)), (Value.int .u64 x74_)]) x76_ ∧
            R (.returned (Value.bool x76_)) hp_6) ∧
           ((decide (x6_ = (4 : Int))) = false →
            R (.returned (Value.bool true)) hp_))))))))))) :
  CallsH Try.prog 17 #[(Value.pointer r_), (Value.agg #[(Value.bool if0_), (Value.int .i64 if1_), (Value.int .u64 if2_), (Value.int .i64 if3_), (Value.string if4_), (Value.int .u64 if5_), (Value.int .u64 if6_)])] h R := calls_vc fine false Try.func17 (ann := A17) (args := [(Value.pointer r_), (Value.agg #[(Value.bool if0_), (Value.int .i64 if1_), (Value.int .u64 if2_), (Value.int .i64 if3_), (Value.string if4_), (Value.int .u64 if5_), (Value.int .u64 if6_)])]) (by kernel_rfl) (Eq.mpr (by kernel_rfl) H)
/-- (*turnout/pack.Reader).Fault -/
def A18 : Ann := (.seq .nil (.seq (.seq .nil (.cond (.seq .nil .nil) .nil)) (.seq .nil .nil)))
theorem V18 (r_ : Option Addr) (h : Hp) (R : Ending → Hp → Prop) (H :
  ∃ x5_, EqV Try.prog 39 (Value.pointer r_) (Value.pointer none) x5_ ∧
  ((x5_ = true →
    R (.returned (Value.tuple #[(Value.int .i64 (1 : Int)), (Value.int .i64 (0 : Int))])) h) ∧
   (x5_ = false →
    ∃ b_ o_, r_ = some ⟨b_, o_, none⟩ ∧
    ∃ x9_ : Int, cellsAt h b_ (o_ + 2) [(Value.int .i64 x9_)] ∧
    ∃ b_1 o_1, r_ = some ⟨b_1, o_1, none⟩ ∧
    ∃ x13_ : Int, cellsAt h b_1 (o_1 + 3) [(Value.int .i64 x13_)] ∧
    R (.returned (Value.tuple #[(Value.int .i64 x9_), (Value.int .i64 x13_)])) h))) :
  CallsH Try.prog 18 #[(Value.pointer r_)] h R := calls_vc fine false Try.func18 (ann := A18) (args := [(Value.pointer r_)]) (by kernel_rfl) (Eq.mpr (by kernel_rfl) H)
/-- (*turnout/pack.Reader).At -/
def A19 : Ann := (.seq .nil (.seq (.seq .nil (.cond (.seq .nil .nil) .nil)) (.seq .nil .nil)))
theorem V19 (r_ : Option Addr) (h : Hp) (R : Ending → Hp → Prop) (H :
  ∃ x4_, EqV Try.prog 39 (Value.pointer r_) (Value.pointer none) x4_ ∧
  ((x4_ = true →
    R (.returned (Value.int .i64 (0 : Int))) h) ∧
   (x4_ = false →
    ∃ b_ o_, r_ = some ⟨b_, o_, none⟩ ∧
    ∃ x8_ : Int, cellsAt h b_ (o_ + 1) [(Value.int .i64 x8_)] ∧
    R (.returned (Value.int .i64 x8_)) h))) :
  CallsH Try.prog 19 #[(Value.pointer r_)] h R := calls_vc fine false Try.func19 (ann := A19) (args := [(Value.pointer r_)]) (by kernel_rfl) (Eq.mpr (by kernel_rfl) H)
/-- (*turnout/pack.Reader).End -/
def A20 : Ann := (.seq .nil (.seq (.block (.seq .nil (.cond (.seq .nil .nil) (.seq (.join 6) (.cond (.seq .nil .nil) .nil))))) (.seq .nil .nil)))
theorem V20 (r_ : Option Addr) (h : Hp) (R : Ending → Hp → Prop) (H :
  ∃ x5_, EqV Try.prog 39 (Value.pointer r_) (Value.pointer none) x5_ ∧
  ((x5_ = true →
    R (.returned (Value.int .i64 (1 : Int))) h) ∧
   (x5_ = false →
    ∃ B_ : Bool, (∃ b_ o_, r_ = some ⟨b_, o_, none⟩ ∧
     ∃ x10_ : Int, cellsAt h b_ (o_ + 2) [(Value.int .i64 x10_)] ∧
     (((decide (x10_ = (0 : Int))) = true →
       ∃ b_1 o_1, r_ = some ⟨b_1, o_1, none⟩ ∧
       ∃ x16_ : Int, cellsAt h b_1 (o_1 + 1) [(Value.int .i64 x16_)] ∧
       ∃ b_2 o_2, r_ = some ⟨b_2, o_2, none⟩ ∧
       ∃ x20_ : ByteArray, cellsAt h b_2 (o_2 + 0) [(Value.string x20_)] ∧
       h = h ∧ B_ = (decide (x16_ < (ByteArray.size x20_ : Int)))) ∧
      ((decide (x10_ = (0 : Int))) = false →
       h = h ∧ B_ = false))) ∧
    ((B_ = true →
      R (.returned (Value.int .i64 (31 : Int))) h) ∧
     (B_ = false →
      ∃ b_3 o_3, r_ = some ⟨b_3, o_3, none⟩ ∧
      ∃ x27_ : Int, cellsAt h b_3 (o_3 + 2) [(Value.int .i64 x27_)] ∧
      R (.returned (Value.int .i64 x27_)) h))))) :
  CallsH Try.prog 20 #[(Value.pointer r_)] h R := calls_vc fine false Try.func20 (ann := A20) (args := [(Value.pointer r_)]) (by kernel_rfl) (Eq.mpr (by kernel_rfl) H)
/-- (*turnout/pack.Reader).Uint -/
def A21 : Ann := (.seq .nil (.seq (.seq .nil (.cond (.seq .nil .nil) .nil)) (.seq .nil (.seq .nil (.seq .nil .nil)))))
theorem V21 (r_ : Option Addr) (most_ : Int) (h : Hp) (R : Ending → Hp → Prop) (H :
  ∀ b_ hp_, b_ = Array.size h → hp_ = Array.push h (.cells #[(Value.pointer r_)] 39) →
  ∃ x6_ : Option Addr, cellsAt hp_ b_ 0 [(Value.pointer x6_)] ∧
  CallsH Try.prog 47 #[(Value.pointer x6_)] hp_ fun en_ hp_1 =>
  ∃ x7_ : Bool, en_ = .returned (Value.bool x7_) ∧
  (((!x7_) = true →
    R (.returned (Value.int .u64 (0 : Int))) hp_1) ∧
   ((!x7_) = false →
    ∃ x9_ : Option Addr, cellsAt hp_1 b_ 0 [(Value.pointer x9_)] ∧
    ∃ b_1 o_, x9_ = some ⟨b_1, o_, none⟩ ∧
    ∃ x12_ : Int, cellsAt hp_1 b_1 (o_ + 1) [(Value.int .i64 x12_)] ∧
    ∀ b_2 hp_2, b_2 = Array.size hp_1 → hp_2 = Array.push hp_1 (.cells (zeros Try.prog 3) 3) → (∃ i z, Try.prog.info? 3 = some i ∧ i.zero = some z) ∧
    Value.oneCell' (Value.int .i64 x12_) = true ∧ wrAt hp_2 b_2 0 1 ∧ ∀ hp_3, hp_3 = setsH hp_2 b_2 0 [(Value.int .i64 x12_)] →
    ∃ x14_ : Option Addr, cellsAt hp_3 b_ 0 [(Value.pointer x14_)] ∧
    CallsH Try.prog 50 #[(Value.pointer x14_), (Value.int .u64 most_)] hp_3 fun en_1 hp_4 =>
    ((∃ x16_ : Int, en_1 = .returned (Value.int .u64 x16_) ∧
      DefH Try.prog 48 #[(Value.pointer (some ⟨b_, 0, none⟩)), (Value.pointer (some ⟨b_2, 0, none⟩))] .returning hp_4 fun md_ hp_5 =>
      settle md_ = .returning ∧
      R (.returned (Value.int .u64 x16_)) hp_5) ∨
     ∃ c_, en_1 = .panicked c_ ∧ DefH Try.prog 48 #[(Value.pointer (some ⟨b_, 0, none⟩)), (Value.pointer (some ⟨b_2, 0, none⟩))] (.panicking c_) hp_4 fun md_1 hp_6 =>
     settle md_1 = .returning ∧
     R (.returned (Value.int .u64 (0 : Int))) hp_6)))) :
  CallsH Try.prog 21 #[(Value.pointer r_), (Value.int .u64 most_)] h R := calls_vcG fine true Try.func21 (ann := A21) (args := [(Value.pointer r_), (Value.int .u64 most_)]) (by kernel_rfl) (Eq.mpr (by kernel_rfl) H)
/-- (*turnout/pack.Reader).Fixed -/
def A22 : Ann := (.seq .nil (.seq (.seq .nil (.cond (.seq .nil .nil) .nil)) (.seq .nil (.seq .nil (.cut (.seq (.join 21) (.cond .nil .nil)) [] (.seq .nil (.seq (.seq .nil (.block (.loop [(4, (.int .u64)), (29, (.int .i64))] (.seq .nil (.seq (.cond .nil .nil) (.seq (.block (.seq .nil .nil)) .nil)))))) (.seq .nil .nil))))))))
theorem V22 (r_ : Option Addr) (bytes_ : Int) (h : Hp) (R : Ending → Hp → Prop) (H :
  ∀ b_ hp_, b_ = Array.size h → hp_ = Array.push h (.cells #[(Value.pointer r_)] 39) →
  ∃ x8_ : Option Addr, cellsAt hp_ b_ 0 [(Value.pointer x8_)] ∧
  CallsH Try.prog 47 #[(Value.pointer x8_)] hp_ fun en_ hp_1 =>
  ∃ x9_ : Bool, en_ = .returned (Value.bool x9_) ∧
  (((!x9_) = true →
    R (.returned (Value.int .u64 (0 : Int))) hp_1) ∧
   ((!x9_) = false →
    ∃ x11_ : Option Addr, cellsAt hp_1 b_ 0 [(Value.pointer x11_)] ∧
    ∃ b_1 o_, x11_ = some ⟨b_1, o_, none⟩ ∧
    ∃ x14_ : Int, cellsAt hp_1 b_1 (o_ + 1) [(Value.int .i64 x14_)] ∧
    ∀ b_2 hp_2, b_2 = Array.size hp_1 → hp_2 = Array.push hp_1 (.cells (zeros Try.prog 3) 3) → (∃ i z, Try.prog.info? 3 = some i ∧ i.zero = some z) ∧
    Value.oneCell' (Value.int .i64 x14_) = true ∧ wrAt hp_2 b_2 0 1 ∧ ∀ hp_3, hp_3 = setsH hp_2 b_2 0 [(Value.int .i64 x14_)] →
    ∃ Jv_ : List Value → Hp → Prop,
    (∃ B_ : Bool, ((((decide (bytes_ < (1 : Int))) = true →
        hp_3 = hp_3 ∧ B_ = true) ∧
       ((decide (bytes_ < (1 : Int))) = false →
        hp_3 = hp_3 ∧ B_ = (decide ((8 : Int) < bytes_))))) ∧
     ((B_ = true →
       DefH Try.prog 51 #[(Value.pointer (some ⟨b_, 0, none⟩)), (Value.pointer (some ⟨b_2, 0, none⟩))] (.panicking [{ v := (Value.iface 29 (Value.int .i64 (1 : Int))), recovered := false }]) hp_3 fun md_ hp_4 =>
       settle md_ = .returning ∧
       R (.returned (Value.int .u64 (0 : Int))) hp_4) ∧
      (B_ = false →
       Jv_ [] hp_3))) ∧
    (∀  hp_5, Jv_ [] hp_5 →
     ∃ x23_ : Option Addr, cellsAt hp_5 b_ 0 [(Value.pointer x23_)] ∧
     ∃ x25_, IntKind.u64.wrap bytes_ = x25_ ∧
     CallsH Try.prog 52 #[(Value.pointer x23_), (Value.int .u64 x25_)] hp_5 fun en_1 hp_6 =>
     ((∃ x26_ : ByteArray, en_1 = .returned (Value.string x26_) ∧
       ∃ (Iv_ : List Value → Hp → Prop) (m_ : List Value → Hp → Nat), Iv_ [(Value.int .u64 (0 : Int)), (Value.int .i64 (0 : Int))] hp_6 ∧
       (∀ (n_ : Int) (x29_ : Int) hp_7, Iv_ [(Value.int .u64 n_), (Value.int .i64 x29_)] hp_7 →
        (((decide (x29_ < (ByteArray.size x26_ : Int))) = true →
          0 ≤ (8 : Int) ∧ ∃ x33_, shlI .u64 n_ (8 : Int) = x33_ ∧
          0 ≤ x29_ ∧ ∃ x36_ : UInt8, x26_[Int.toNat x29_]? = some x36_ ∧
          ∃ x37_, IntKind.u64.wrap (x36_.toNat : Int) = x37_ ∧
          ∃ x38_, orI .u64 x33_ x37_ = x38_ ∧
          ∃ x39_, IntKind.i64.wrap (x29_ + (1 : Int)) = x39_ ∧
          (Iv_ [(Value.int .u64 x38_), (Value.int .i64 x39_)] hp_7 ∧ m_ [(Value.int .u64 x38_), (Value.int .i64 x39_)] hp_7 < m_ [(Value.int .u64 n_), (Value.int .i64 x29_)] hp_7)) ∧
         ((decide (x29_ < (ByteArray.size x26_ : Int))) = false →
          DefH Try.prog 51 #[(Value.pointer (some ⟨b_, 0, none⟩)), (Value.pointer (some ⟨b_2, 0, none⟩))] .returning hp_7 fun md_1 hp_8 =>
          settle md_1 = .returning ∧
          R (.returned (Value.int .u64 n_)) hp_8)))) ∨
      ∃ c_, en_1 = .panicked c_ ∧ DefH Try.prog 51 #[(Value.pointer (some ⟨b_, 0, none⟩)), (Value.pointer (some ⟨b_2, 0, none⟩))] (.panicking c_) hp_6 fun md_2 hp_9 =>
      settle md_2 = .returning ∧
      R (.returned (Value.int .u64 (0 : Int))) hp_9))))) :
  CallsH Try.prog 22 #[(Value.pointer r_), (Value.int .i64 bytes_)] h R := calls_vcG fine true Try.func22 (ann := A22) (args := [(Value.pointer r_), (Value.int .i64 bytes_)]) (by kernel_rfl) (Eq.mpr (by kernel_rfl) H)
/-- (*turnout/pack.Reader).Text -/
def A23 : Ann := (.seq .nil (.seq (.seq .nil (.cond (.seq .nil .nil) .nil)) (.seq .nil (.seq .nil (.cut (.seq .nil (.cond .nil .nil)) [] (.seq (.drawLast [0]) .nil))))))
theorem V23 (r_ : Option Addr) (most_ : Int) (h : Hp) (R : Ending → Hp → Prop) (H :
  ∀ b_ hp_, b_ = Array.size h → hp_ = Array.push h (.cells #[(Value.pointer r_)] 39) →
  ∃ x6_ : Option Addr, cellsAt hp_ b_ 0 [(Value.pointer x6_)] ∧
  CallsH Try.prog 47 #[(Value.pointer x6_)] hp_ fun en_ hp_1 =>
  ∃ x7_ : Bool, en_ = .returned (Value.bool x7_) ∧
  (((!x7_) = true →
    R (.returned (Value.string (⟨#[]⟩ : ByteArray))) hp_1) ∧
   ((!x7_) = false →
    ∃ x9_ : Option Addr, cellsAt hp_1 b_ 0 [(Value.pointer x9_)] ∧
    ∃ b_1 o_, x9_ = some ⟨b_1, o_, none⟩ ∧
    ∃ x12_ : Int, cellsAt hp_1 b_1 (o_ + 1) [(Value.int .i64 x12_)] ∧
    ∀ b_2 hp_2, b_2 = Array.size hp_1 → hp_2 = Array.push hp_1 (.cells (zeros Try.prog 3) 3) → (∃ i z, Try.prog.info? 3 = some i ∧ i.zero = some z) ∧
    Value.oneCell' (Value.int .i64 x12_) = true ∧ wrAt hp_2 b_2 0 1 ∧ ∀ hp_3, hp_3 = setsH hp_2 b_2 0 [(Value.int .i64 x12_)] →
    ∃ Jv_ : List Value → Hp → Prop,
    ((((decide (most_ < (0 : Int))) = true →
       DefH Try.prog 53 #[(Value.pointer (some ⟨b_, 0, none⟩)), (Value.pointer (some ⟨b_2, 0, none⟩))] (.panicking [{ v := (Value.iface 29 (Value.int .i64 (1 : Int))), recovered := false }]) hp_3 fun md_ hp_4 =>
       settle md_ = .returning ∧
       R (.returned (Value.string (⟨#[]⟩ : ByteArray))) hp_4) ∧
      ((decide (most_ < (0 : Int))) = false →
       Jv_ [] hp_3))) ∧
    (∀  hp_5, Jv_ [] hp_5 →
     ∃ Cv_ : Hp → Prop, Cv_ hp_5 ∧
     ∃ x17_ : Option Addr, (∀ h', Cv_ h' → cellsAt h' b_ 0 [(Value.pointer x17_)]) ∧
     ∃ x18_ : Option Addr, cellsAt hp_5 b_ 0 [(Value.pointer x18_)] ∧
     ∃ x20_, IntKind.u64.wrap most_ = x20_ ∧
     CallsH Try.prog 50 #[(Value.pointer x18_), (Value.int .u64 x20_)] hp_5 fun en_1 hp_6 =>
     ((∃ x21_ : Int, en_1 = .returned (Value.int .u64 x21_) ∧
       Cv_ hp_6 ∧
       CallsH Try.prog 52 #[(Value.pointer x17_), (Value.int .u64 x21_)] hp_6 fun en_2 hp_7 =>
       ((∃ x22_ : ByteArray, en_2 = .returned (Value.string x22_) ∧
         Cv_ hp_7 ∧
         DefH Try.prog 53 #[(Value.pointer (some ⟨b_, 0, none⟩)), (Value.pointer (some ⟨b_2, 0, none⟩))] .returning hp_7 fun md_1 hp_8 =>
         settle md_1 = .returning ∧
         R (.returned (Value.string x22_)) hp_8) ∨
        ∃ c_, en_2 = .panicked c_ ∧ DefH Try.prog 53 #[(Value.pointer (some ⟨b_, 0, none⟩)), (Value.pointer (some ⟨b_2, 0, none⟩))] (.panicking c_) hp_7 fun md_2 hp_9 =>
        settle md_2 = .returning ∧
        R (.returned (Value.string (⟨#[]⟩ : ByteArray))) hp_9)) ∨
      ∃ c_1, en_1 = .panicked c_1 ∧ DefH Try.prog 53 #[(Value.pointer (some ⟨b_, 0, none⟩)), (Value.pointer (some ⟨b_2, 0, none⟩))] (.panicking c_1) hp_6 fun md_3 hp_10 =>
      settle md_3 = .returning ∧
      R (.returned (Value.string (⟨#[]⟩ : ByteArray))) hp_10))))) :
  CallsH Try.prog 23 #[(Value.pointer r_), (Value.int .i64 most_)] h R := calls_vcG fine true Try.func23 (ann := A23) (args := [(Value.pointer r_), (Value.int .i64 most_)]) (by kernel_rfl) (Eq.mpr (by kernel_rfl) H)
/-- (*turnout/pack.Reader).Bits -/
def A24 : Ann := (.seq .nil (.seq (.seq .nil (.cond (.seq .nil .nil) .nil)) (.seq .nil (.seq .nil (.cut (.seq (.join 21) (.cond .nil .nil)) [] (.seq .nil (.seq (.seq .nil (.cond .nil .nil)) (.seq .nil .nil))))))))
theorem V24 (r_ : Option Addr) (width_ : Int) (h : Hp) (R : Ending → Hp → Prop) (H :
  ∀ b_ hp_, b_ = Array.size h → hp_ = Array.push h (.cells #[(Value.pointer r_)] 39) →
  ∀ b_1 hp_1, b_1 = Array.size hp_ → hp_1 = Array.push hp_ (.cells (zeros Try.prog 34) 34) → (∃ i z, Try.prog.info? 34 = some i ∧ i.zero = some z) ∧
  ∃ x7_ : Option Addr, cellsAt hp_1 b_ 0 [(Value.pointer x7_)] ∧
  CallsH Try.prog 47 #[(Value.pointer x7_)] hp_1 fun en_ hp_2 =>
  ∃ x8_ : Bool, en_ = .returned (Value.bool x8_) ∧
  (((!x8_) = true →
    List.length [(Value.int .u64 (0 : Int)), (Value.int .u64 (0 : Int))] = 2 ∧ (∀ c ∈ [(Value.int .u64 (0 : Int)), (Value.int .u64 (0 : Int))], c.oneCell' = true) ∧ wrAt hp_2 b_1 0 2 ∧ ∀ hp_3, hp_3 = setsH hp_2 b_1 0 [(Value.int .u64 (0 : Int)), (Value.int .u64 (0 : Int))] →
    ∃ resf0_ : Int, ∃ resf1_ : Int, cellsAt hp_3 b_1 0 [(Value.int .u64 resf0_), (Value.int .u64 resf1_)] ∧
    R (.returned (Value.agg #[(Value.int .u64 resf0_), (Value.int .u64 resf1_)])) hp_3) ∧
   ((!x8_) = false →
    ∃ x11_ : Option Addr, cellsAt hp_2 b_ 0 [(Value.pointer x11_)] ∧
    ∃ b_2 o_, x11_ = some ⟨b_2, o_, none⟩ ∧
    ∃ x14_ : Int, cellsAt hp_2 b_2 (o_ + 1) [(Value.int .i64 x14_)] ∧
    ∀ b_3 hp_4, b_3 = Array.size hp_2 → hp_4 = Array.push hp_2 (.cells (zeros Try.prog 3) 3) → (∃ i z, Try.prog.info? 3 = some i ∧ i.zero = some z) ∧
    Value.oneCell' (Value.int .i64 x14_) = true ∧ wrAt hp_4 b_3 0 1 ∧ ∀ hp_5, hp_5 = setsH hp_4 b_3 0 [(Value.int .i64 x14_)] →
    ∃ Jv_ : List Value → Hp → Prop,
    (∃ B_ : Bool, ((((decide (width_ < (1 : Int))) = true →
        hp_5 = hp_5 ∧ B_ = true) ∧
       ((decide (width_ < (1 : Int))) = false →
        hp_5 = hp_5 ∧ B_ = (decide ((128 : Int) < width_))))) ∧
     ((B_ = true →
       DefH Try.prog 54 #[(Value.pointer (some ⟨b_, 0, none⟩)), (Value.pointer (some ⟨b_3, 0, none⟩))] (.panicking [{ v := (Value.iface 29 (Value.int .i64 (10 : Int))), recovered := false }]) hp_5 fun md_ hp_6 =>
       settle md_ = .returning ∧
       ∃ resf0_1 : Int, ∃ resf1_1 : Int, cellsAt hp_6 b_1 0 [(Value.int .u64 resf0_1), (Value.int .u64 resf1_1)] ∧
       R (.returned (Value.agg #[(Value.int .u64 resf0_1), (Value.int .u64 resf1_1)])) hp_6) ∧
      (B_ = false →
       Jv_ [] hp_5))) ∧
    (∀  hp_7, Jv_ [] hp_7 →
     ∃ x24_ : Option Addr, cellsAt hp_7 b_ 0 [(Value.pointer x24_)] ∧
     ∃ x26_, IntKind.i64.wrap (width_ + (7 : Int)) = x26_ ∧
     ∃ x27_, IntKind.u64.wrap x26_ = x27_ ∧
     (8 : Int) ≠ 0 ∧ ∃ x28_, IntKind.u64.wrap (Int.tdiv x27_ (8 : Int)) = x28_ ∧
     CallsH Try.prog 52 #[(Value.pointer x24_), (Value.int .u64 x28_)] hp_7 fun en_1 hp_8 =>
     ((∃ x29_ : ByteArray, en_1 = .returned (Value.string x29_) ∧
       CallsH Try.prog 55 #[(Value.string x29_), (Value.int .i64 width_)] hp_8 fun en_2 hp_9 =>
       ((∃ x31r0f0_ : Int, ∃ x31r0f1_ : Int, ∃ x31r1_ : Int, en_2 = .returned (Value.tuple #[(Value.agg #[(Value.int .u64 x31r0f0_), (Value.int .u64 x31r0f1_)]), (Value.int .i64 x31r1_)]) ∧
         List.length [(Value.int .u64 x31r0f0_), (Value.int .u64 x31r0f1_)] = 2 ∧ (∀ c ∈ [(Value.int .u64 x31r0f0_), (Value.int .u64 x31r0f1_)], c.oneCell' = true) ∧ wrAt hp_9 b_1 0 2 ∧ ∀ hp_10, hp_10 = setsH hp_9 b_1 0 [(Value.int .u64 x31r0f0_), (Value.int .u64 x31r0f1_)] →
         (((decide (x31r1_ ≠ (0 : Int))) = true →
           DefH Try.prog 54 #[(Value.pointer (some ⟨b_, 0, none⟩)), (Value.pointer (some ⟨b_3, 0, none⟩))] (.panicking [{ v := (Value.iface 29 (Value.int .i64 x31r1_)), recovered := false }]) hp_10 fun md_1 hp_11 =>
           settle md_1 = .returning ∧
           ∃ resf0_2 : Int, ∃ resf1_2 : Int, cellsAt hp_11 b_1 0 [(Value.int .u64 resf0_2), (Value.int .u64 resf1_2)] ∧
           R (.returned (Value.agg #[(Value.int .u64 resf0_2), (Value.int .u64 resf1_2)])) hp_11) ∧
          ((decide (x31r1_ ≠ (0 : Int))) = false →
           ∃ x38f0_ : Int, ∃ x38f1_ : Int, cellsAt hp_10 b_1 0 [(Value.int .u64 x38f0_), (Value.int .u64 x38f1_)] ∧
           List.length [(Value.int .u64 x38f0_), (Value.int .u64 x38f1_)] = 2 ∧ (∀ c ∈ [(Value.int .u64 x38f0_), (Value.int .u64 x38f1_)], c.oneCell' = true) ∧ wrAt hp_10 b_1 0 2 ∧ ∀ hp_12, hp_12 = setsH hp_10 b_1 0 [(Value.int .u64 x38f0_), (Value.int .u64 x38f1_)] →
           DefH Try.prog 54 #[(Value.pointer (some ⟨b_, 0, none⟩)), (Value.pointer (some ⟨b_3, 0, none⟩))] .returning hp_12 fun md_2 hp_13 =>
           settle md_2 = .returning ∧
           ∃ resf0_3 : Int, ∃ resf1_3 : Int, cellsAt hp_13 b_1 0 [(Value.int .u64 resf0_3), (Value.int .u64 resf1_3)] ∧
           R (.returned (Value.agg #[(Value.int .u64 resf0_3), (Value.int .u64 resf1_3)])) hp_13))) ∨
        ∃ c_, en_2 = .panicked c_ ∧ DefH Try.prog 54 #[(Value.pointer (some ⟨b_, 0, none⟩)), (Value.pointer (some ⟨b_3, 0, none⟩))] (.panicking c_) hp_9 fun md_3 hp_14 =>
        settle md_3 = .returning ∧
        ∃ resf0_4 : Int, ∃ resf1_4 : Int, cellsAt hp_14 b_1 0 [(Value.int .u64 resf0_4), (Value.int .u64 resf1_4)] ∧
        R (.returned (Value.agg #[(Value.int .u64 resf0_4), (Value.int .u64 resf1_4)])) hp_14)) ∨
      ∃ c_1, en_1 = .panicked c_1 ∧ DefH Try.prog 54 #[(Value.pointer (some ⟨b_, 0, none⟩)), (Value.pointer (some ⟨b_3, 0, none⟩))] (.panicking c_1) hp_8 fun md_4 hp_15 =>
      settle md_4 = .returning ∧
      ∃ resf0_5 : Int, ∃ resf1_5 : Int, cellsAt hp_15 b_1 0 [(Value.int .u64 resf0_5), (Value.int .u64 resf1_5)] ∧
      R (.returned (Value.agg #[(Value.int .u64 resf0_5), (Value.int .u64 resf1_5)])) hp_15))))) :
  CallsH Try.prog 24 #[(Value.pointer r_), (Value.int .i64 width_)] h R := calls_vcG fine true Try.func24 (ann := A24) (args := [(Value.pointer r_), (Value.int .i64 width_)]) (by kernel_rfl) (Eq.mpr (by kernel_rfl) H)
/-- (*turnout/pack.Reader).Raw -/
def A25 : Ann := (.seq .nil (.seq (.seq .nil (.cond (.seq .nil .nil) .nil)) (.seq .nil (.seq .nil (.seq (.seq .nil (.cond .nil .nil)) (.seq .nil .nil))))))
theorem V25 (r_ : Option Addr) (bytes_ : Int) (h : Hp) (R : Ending → Hp → Prop) (H :
  ∀ b_ hp_, b_ = Array.size h → hp_ = Array.push h (.cells #[(Value.pointer r_)] 39) →
  ∃ x6_ : Option Addr, cellsAt hp_ b_ 0 [(Value.pointer x6_)] ∧
  CallsH Try.prog 47 #[(Value.pointer x6_)] hp_ fun en_ hp_1 =>
  ∃ x7_ : Bool, en_ = .returned (Value.bool x7_) ∧
  (((!x7_) = true →
    R (.returned (Value.string (⟨#[]⟩ : ByteArray))) hp_1) ∧
   ((!x7_) = false →
    ∃ x9_ : Option Addr, cellsAt hp_1 b_ 0 [(Value.pointer x9_)] ∧
    ∃ b_1 o_, x9_ = some ⟨b_1, o_, none⟩ ∧
    ∃ x12_ : Int, cellsAt hp_1 b_1 (o_ + 1) [(Value.int .i64 x12_)] ∧
    ∀ b_2 hp_2, b_2 = Array.size hp_1 → hp_2 = Array.push hp_1 (.cells (zeros Try.prog 3) 3) → (∃ i z, Try.prog.info? 3 = some i ∧ i.zero = some z) ∧
    Value.oneCell' (Value.int .i64 x12_) = true ∧ wrAt hp_2 b_2 0 1 ∧ ∀ hp_3, hp_3 = setsH hp_2 b_2 0 [(Value.int .i64 x12_)] →
    (((decide (bytes_ < (0 : Int))) = true →
      DefH Try.prog 56 #[(Value.pointer (some ⟨b_, 0, none⟩)), (Value.pointer (some ⟨b_2, 0, none⟩))] (.panicking [{ v := (Value.iface 29 (Value.int .i64 (1 : Int))), recovered := false }]) hp_3 fun md_ hp_4 =>
      settle md_ = .returning ∧
      R (.returned (Value.string (⟨#[]⟩ : ByteArray))) hp_4) ∧
     ((decide (bytes_ < (0 : Int))) = false →
      ∃ x17_ : Option Addr, cellsAt hp_3 b_ 0 [(Value.pointer x17_)] ∧
      ∃ x19_, IntKind.u64.wrap bytes_ = x19_ ∧
      CallsH Try.prog 52 #[(Value.pointer x17_), (Value.int .u64 x19_)] hp_3 fun en_1 hp_5 =>
      ((∃ x20_ : ByteArray, en_1 = .returned (Value.string x20_) ∧
        DefH Try.prog 56 #[(Value.pointer (some ⟨b_, 0, none⟩)), (Value.pointer (some ⟨b_2, 0, none⟩))] .returning hp_5 fun md_1 hp_6 =>
        settle md_1 = .returning ∧
        R (.returned (Value.string x20_)) hp_6) ∨
       ∃ c_, en_1 = .panicked c_ ∧ DefH Try.prog 56 #[(Value.pointer (some ⟨b_, 0, none⟩)), (Value.pointer (some ⟨b_2, 0, none⟩))] (.panicking c_) hp_5 fun md_2 hp_7 =>
       settle md_2 = .returning ∧
       R (.returned (Value.string (⟨#[]⟩ : ByteArray))) hp_7)))))) :
  CallsH Try.prog 25 #[(Value.pointer r_), (Value.int .i64 bytes_)] h R := calls_vcG fine true Try.func25 (ann := A25) (args := [(Value.pointer r_), (Value.int .i64 bytes_)]) (by kernel_rfl) (Eq.mpr (by kernel_rfl) H)
/-- (*turnout/pack.Writer).Uint -/
def A26 : Ann := (.seq .nil (.cond .nil .nil))
theorem V26 (w_ : Option Addr) (n_ : Int) (h : Hp) (R : Ending → Hp → Prop) (H :
  CallsH Try.prog 57 #[(Value.pointer w_)] h fun en_ hp_ =>
  ∃ x5_ : Bool, en_ = .returned (Value.bool x5_) ∧
  ((x5_ = true →
    ∃ b_ o_, w_ = some ⟨b_, o_, none⟩ ∧
    ∃ (x10p_ : Option Addr) (x10n_ x10c_ : Nat), cellsAt hp_ b_ (o_ + 0) [(Value.slice x10p_ x10n_ x10c_)] ∧
    CallsH Try.prog 58 #[(Value.slice x10p_ x10n_ x10c_), (Value.int .u64 n_)] hp_ fun en_1 hp_1 =>
    ∃ (x12p_ : Option Addr) (x12n_ x12c_ : Nat), en_1 = .returned (Value.slice x12p_ x12n_ x12c_) ∧
    ∃ b_1 o_1, w_ = some ⟨b_1, o_1, none⟩ ∧
    Value.oneCell' (Value.slice x12p_ x12n_ x12c_) = true ∧ wrAt hp_1 b_1 (o_1 + 0) 1 ∧ ∀ hp_2, hp_2 = setsH hp_1 b_1 (o_1 + 0) [(Value.slice x12p_ x12n_ x12c_)] →
    R (.returned (Value.tuple #[])) hp_2) ∧
   (x5_ = false →
    R (.returned (Value.tuple #[])) hp_))) :
  CallsH Try.prog 26 #[(Value.pointer w_), (Value.int .u64 n_)] h R := calls_vc fine false Try.func26 (ann := A26) (args := [(Value.pointer w_), (Value.int .u64 n_)]) (by kernel_rfl) (Eq.mpr (by kernel_rfl) H)
/-- (*turnout/pack.Writer).Fixed -/
def A27 : Ann := (.block (.seq .nil (.cond .nil (.seq (.join 31) (.cond .nil (.seq (.join 41) (.cond .nil (.seq .nil (.block (.loop [(6, (.int .i64))] (.seq (.seq .nil (.cond .nil .nil)) (.seq (.block (.drawLast [4])) .nil))))))))))))
theorem V27 (w_ : Option Addr) (n_ : Int) (bytes_ : Int) (h : Hp) (R : Ending → Hp → Prop) (H :
  CallsH Try.prog 57 #[(Value.pointer w_)] h fun en_ hp_ =>
  ∃ x29_ : Bool, en_ = .returned (Value.bool x29_) ∧
  (((!x29_) = true →
    R (.returned (Value.tuple #[])) hp_) ∧
   ((!x29_) = false →
    ∃ B_ : Bool, ((((decide (bytes_ < (1 : Int))) = true →
       hp_ = hp_ ∧ B_ = true) ∧
      ((decide (bytes_ < (1 : Int))) = false →
       hp_ = hp_ ∧ B_ = (decide ((8 : Int) < bytes_))))) ∧
    ((B_ = true →
      ∃ b_ o_, w_ = some ⟨b_, o_, none⟩ ∧
      Value.oneCell' (Value.int .i64 (1 : Int)) = true ∧ wrAt hp_ b_ (o_ + 1) 1 ∧ ∀ hp_1, hp_1 = setsH hp_ b_ (o_ + 1) [(Value.int .i64 (1 : Int))] →
      R (.returned (Value.tuple #[])) hp_1) ∧
     (B_ = false →
      ∃ B_1 : Bool, ((((decide (bytes_ < (8 : Int))) = true →
         ∃ x47_, IntKind.i64.wrap ((8 : Int) * bytes_) = x47_ ∧
         0 ≤ x47_ ∧ ∃ x48_, shrI .u64 n_ x47_ = x48_ ∧
         hp_ = hp_ ∧ B_1 = (decide (x48_ ≠ (0 : Int)))) ∧
        ((decide (bytes_ < (8 : Int))) = false →
         hp_ = hp_ ∧ B_1 = false))) ∧
      ((B_1 = true →
        ∃ b_1 o_1, w_ = some ⟨b_1, o_1, none⟩ ∧
        Value.oneCell' (Value.int .i64 (11 : Int)) = true ∧ wrAt hp_ b_1 (o_1 + 1) 1 ∧ ∀ hp_2, hp_2 = setsH hp_ b_1 (o_1 + 1) [(Value.int .i64 (11 : Int))] →
        R (.returned (Value.tuple #[])) hp_2) ∧
       (B_1 = false →
        ∃ x8_, IntKind.i64.wrap (bytes_ - (1 : Int)) = x8_ ∧
        ∃ (Iv_ : List Value → Hp → Prop) (m_ : List Value → Hp → Nat), Iv_ [(Value.int .i64 x8_)] hp_ ∧
        (∀ (i_ : Int) hp_3, Iv_ [(Value.int .i64 i_)] hp_3 →
         (((decide ((0 : Int) ≤ i_)) = true →
           ∃ Cv_ : Hp → Prop, Cv_ hp_3 ∧
           ∃ b_2 o_2, w_ = some ⟨b_2, o_2, none⟩ ∧
           ∃ (x17p_ : Option Addr) (x17n_ x17c_ : Nat), (∀ h', Cv_ h' → cellsAt h' b_2 (o_2 + 0) [(Value.slice x17p_ x17n_ x17c_)]) ∧
           ∃ x20_, IntKind.i64.wrap ((8 : Int) * i_) = x20_ ∧
           0 ≤ x20_ ∧ ∃ x21_, shrI .u64 n_ x20_ = x21_ ∧
           ∃ x22_, IntKind.u8.wrap x21_ = x22_ ∧
           SemH Try.prog (Instr.buildSlice 28 1 #[(0, (Value.int .u8 x22_))]) hp_3 fun v_ hp_4 =>
           ∃ (x23p_ : Option Addr) (x23n_ x23c_ : Nat), v_ = (Value.slice x23p_ x23n_ x23c_) ∧
           Cv_ hp_4 ∧
           SemH Try.prog (Builtin.append_ #[28, 28] 28 #[(Value.slice x17p_ x17n_ x17c_), (Value.slice x23p_ x23n_ x23c_)]) hp_4 fun v_1 hp_5 =>
           ∃ (x24p_ : Option Addr) (x24n_ x24c_ : Nat), v_1 = (Value.slice x24p_ x24n_ x24c_) ∧
           Cv_ hp_5 ∧
           ∃ b_3 o_3, w_ = some ⟨b_3, o_3, none⟩ ∧
           Value.oneCell' (Value.slice x24p_ x24n_ x24c_) = true ∧ wrAt hp_5 b_3 (o_3 + 0) 1 ∧ ∀ hp_6, hp_6 = setsH hp_5 b_3 (o_3 + 0) [(Value.slice x24p_ x24n_ x24c_)] →
           ∃ x12_, IntKind.i64.wrap (i_ - (1 : Int)) = x12_ ∧
           (Iv_ [(Value.int .i64 x12_)] hp_6 ∧ m_ [(Value.int .i64 x12_)] hp_6 < m_ [(Value.int .i64 i_)] hp_3)) ∧
          ((decide ((0 : Int) ≤ i_)) = false →
           R (.returned (Value.tuple #[])) hp_3)))))))))) :
  CallsH Try.prog 27 #[(Value.pointer w_), (Value.int .u64 n_), (Value.int .i64 bytes_)] h R := calls_vc fine false Try.func27 (ann := A27) (args := [(Value.pointer w_), (Value.int .u64 n_), (Value.int .i64 bytes_)]) (by kernel_rfl) (Eq.mpr (by kernel_rfl) H)
/-- (*turnout/pack.Writer).Text -/
def A28 : Ann := (.seq .nil (.cond .nil .nil))
theorem V28 (w_ : Option Addr) (s_ : ByteArray) (h : Hp) (R : Ending → Hp → Prop) (H :
  CallsH Try.prog 57 #[(Value.pointer w_)] h fun en_ hp_ =>
  ∃ x5_ : Bool, en_ = .returned (Value.bool x5_) ∧
  ((x5_ = true →
    ∃ b_ o_, w_ = some ⟨b_, o_, none⟩ ∧
    ∃ (x10p_ : Option Addr) (x10n_ x10c_ : Nat), cellsAt hp_ b_ (o_ + 0) [(Value.slice x10p_ x10n_ x10c_)] ∧
    ∃ x13_, IntKind.u64.wrap (ByteArray.size s_ : Int) = x13_ ∧
    CallsH Try.prog 58 #[(Value.slice x10p_ x10n_ x10c_), (Value.int .u64 x13_)] hp_ fun en_1 hp_1 =>
    ∃ (x14p_ : Option Addr) (x14n_ x14c_ : Nat), en_1 = .returned (Value.slice x14p_ x14n_ x14c_) ∧
    SemH Try.prog (Builtin.append_ #[28, 9] 28 #[(Value.slice x14p_ x14n_ x14c_), (Value.string s_)]) hp_1 fun v_ hp_2 =>
    ∃ (x16p_ : Option Addr) (x16n_ x16c_ : Nat), v_ = (Value.slice x16p_ x16n_ x16c_) ∧
    ∃ b_1 o_1, w_ = some ⟨b_1, o_1, none⟩ ∧
    Value.oneCell' (Value.slice x16p_ x16n_ x16c_) = true ∧ wrAt hp_2 b_1 (o_1 + 0) 1 ∧ ∀ hp_3, hp_3 = setsH hp_2 b_1 (o_1 + 0) [(Value.slice x16p_ x16n_ x16c_)] →
    R (.returned (Value.tuple #[])) hp_3) ∧
   (x5_ = false →
    R (.returned (Value.tuple #[])) hp_))) :
  CallsH Try.prog 28 #[(Value.pointer w_), (Value.string s_)] h R := calls_vc fine false Try.func28 (ann := A28) (args := [(Value.pointer w_), (Value.string s_)]) (by kernel_rfl) (Eq.mpr (by kernel_rfl) H)
/-- (*turnout/pack.Writer).Bits -/
def A29 : Ann := (.seq .nil (.seq (.seq .nil (.cond .nil .nil)) (.seq .nil (.seq .nil .nil))))
theorem V29 (w_ : Option Addr) (af0_ : Int) (af1_ : Int) (width_ : Int) (h : Hp) (R : Ending → Hp → Prop) (H :
  ∀ b_ hp_, b_ = Array.size h → hp_ = Array.push h (.cells #[(Value.int .u64 af0_), (Value.int .u64 af1_)] 34) →
  CallsH Try.prog 57 #[(Value.pointer w_)] hp_ fun en_ hp_1 =>
  ∃ x9_ : Bool, en_ = .returned (Value.bool x9_) ∧
  (((!x9_) = true →
    R (.returned (Value.tuple #[])) hp_1) ∧
   ((!x9_) = false →
    ∃ x12f0_ : Int, ∃ x12f1_ : Int, cellsAt hp_1 b_ 0 [(Value.int .u64 x12f0_), (Value.int .u64 x12f1_)] ∧
    CallsH Try.prog 59 #[(Value.agg #[(Value.int .u64 x12f0_), (Value.int .u64 x12f1_)]), (Value.int .i64 width_)] hp_1 fun en_1 hp_2 =>
    ∃ x14r0_ : ByteArray, ∃ x14r1_ : Int, en_1 = .returned (Value.tuple #[(Value.string x14r0_), (Value.int .i64 x14r1_)]) ∧
    ∃ b_1 o_, w_ = some ⟨b_1, o_, none⟩ ∧
    Value.oneCell' (Value.int .i64 x14r1_) = true ∧ wrAt hp_2 b_1 (o_ + 1) 1 ∧ ∀ hp_3, hp_3 = setsH hp_2 b_1 (o_ + 1) [(Value.int .i64 x14r1_)] →
    ∃ b_2 o_1, w_ = some ⟨b_2, o_1, none⟩ ∧
    ∃ (x25p_ : Option Addr) (x25n_ x25c_ : Nat), cellsAt hp_3 b_2 (o_1 + 0) [(Value.slice x25p_ x25n_ x25c_)] ∧
    SemH Try.prog (Builtin.append_ #[28, 9] 28 #[(Value.slice x25p_ x25n_ x25c_), (Value.string x14r0_)]) hp_3 fun v_ hp_4 =>
    ∃ (x27p_ : Option Addr) (x27n_ x27c_ : Nat), v_ = (Value.slice x27p_ x27n_ x27c_) ∧
    ∃ b_3 o_2, w_ = some ⟨b_3, o_2, none⟩ ∧
    Value.oneCell' (Value.slice x27p_ x27n_ x27c_) = true ∧ wrAt hp_4 b_3 (o_2 + 0) 1 ∧ ∀ hp_5, hp_5 = setsH hp_4 b_3 (o_2 + 0) [(Value.slice x27p_ x27n_ x27c_)] →
    R (.returned (Value.tuple #[])) hp_5))) :
  CallsH Try.prog 29 #[(Value.pointer w_), (Value.agg #[(Value.int .u64 af0_), (Value.int .u64 af1_)]), (Value.int .i64 width_)] h R := calls_vc fine false Try.func29 (ann := A29) (args := [(Value.pointer w_), (Value.agg #[(Value.int .u64 af0_), (Value.int .u64 af1_)]), (Value.int .i64 width_)]) (by kernel_rfl) (Eq.mpr (by kernel_rfl) H)
/-- (*turnout/pack.Writer).Raw -/
def A30 : Ann := (.seq .nil (.cond .nil .nil))
theorem V30 (w_ : Option Addr) (s_ : ByteArray) (h : Hp) (R : Ending → Hp → Prop) (H :
  CallsH Try.prog 57 #[(Value.pointer w_)] h fun en_ hp_ =>
  ∃ x5_ : Bool, en_ = .returned (Value.bool x5_) ∧
  ((x5_ = true →
    ∃ b_ o_, w_ = some ⟨b_, o_, none⟩ ∧
    ∃ (x10p_ : Option Addr) (x10n_ x10c_ : Nat), cellsAt hp_ b_ (o_ + 0) [(Value.slice x10p_ x10n_ x10c_)] ∧
    SemH Try.prog (Builtin.append_ #[28, 9] 28 #[(Value.slice x10p_ x10n_ x10c_), (Value.string s_)]) hp_ fun v_ hp_1 =>
    ∃ (x12p_ : Option Addr) (x12n_ x12c_ : Nat), v_ = (Value.slice x12p_ x12n_ x12c_) ∧
    ∃ b_1 o_1, w_ = some ⟨b_1, o_1, none⟩ ∧
    Value.oneCell' (Value.slice x12p_ x12n_ x12c_) = true ∧ wrAt hp_1 b_1 (o_1 + 0) 1 ∧ ∀ hp_2, hp_2 = setsH hp_1 b_1 (o_1 + 0) [(Value.slice x12p_ x12n_ x12c_)] →
    R (.returned (Value.tuple #[])) hp_2) ∧
   (x5_ = false →
    R (.returned (Value.tuple #[])) hp_))) :
  CallsH Try.prog 30 #[(Value.pointer w_), (Value.string s_)] h R := calls_vc fine false Try.func30 (ann := A30) (args := [(Value.pointer w_), (Value.string s_)]) (by kernel_rfl) (Eq.mpr (by kernel_rfl) H)
/-- turnout/turnoutref01.Weigh -/
def A31 : Ann := (.seq .nil (.seq .nil .nil))
theorem V31  (h : Hp) (R : Ending → Hp → Prop) (H :
  ∀ b_ hp_, b_ = Array.size h → hp_ = Array.push h (.cells #[(Value.int .i64 (1048576 : Int))] 82) →
  R (.returned (Value.pointer (some ⟨b_, 0, none⟩))) hp_) :
  CallsH Try.prog 31 #[] h R := calls_vc fine false Try.func31 (ann := A31) (args := []) (by kernel_rfl) (Eq.mpr (by kernel_rfl) H)
/-- (*turnout/turnoutref01.Scale).Text -/
def A32 : Ann := (.seq .nil (.seq .nil .nil))
theorem V32 (x_ : Option Addr) (s_ : ByteArray) (h : Hp) (R : Ending → Hp → Prop) (H :
  (16 : Int) ≠ 0 ∧ ∃ x8_, IntKind.i64.wrap (Int.tdiv (ByteArray.size s_ : Int) (16 : Int)) = x8_ ∧
  ∃ x9_, IntKind.i64.wrap ((1 : Int) + x8_) = x9_ ∧
  CallsH Try.prog 33 #[(Value.pointer x_), (Value.int .i64 x9_)] h fun en_ hp_ =>
  ∃ x10_ : Bool, en_ = .returned (Value.bool x10_) ∧
  R (.returned (Value.bool x10_)) hp_) :
  CallsH Try.prog 32 #[(Value.pointer x_), (Value.string s_)] h R := calls_vc fine false Try.func32 (ann := A32) (args := [(Value.pointer x_), (Value.string s_)]) (by kernel_rfl) (Eq.mpr (by kernel_rfl) H)
/-- (*turnout/turnoutref01.Scale).Take -/
def A33 : Ann := (.seq .nil (.seq (.seq .nil (.cond .nil .nil)) (.seq .nil .nil)))
theorem V33 (x_ : Option Addr) (n_ : Int) (h : Hp) (R : Ending → Hp → Prop) (H :
  ∃ b_ o_, x_ = some ⟨b_, o_, none⟩ ∧
  ∃ x8_ : Int, cellsAt h b_ (o_ + 0) [(Value.int .i64 x8_)] ∧
  (((decide ((0 : Int) ≤ x8_)) = true →
    ∃ b_1 o_1, x_ = some ⟨b_1, o_1, none⟩ ∧
    ∃ x14_ : Int, cellsAt h b_1 (o_1 + 0) [(Value.int .i64 x14_)] ∧
    ∃ x16_, IntKind.i64.wrap (x14_ - n_) = x16_ ∧
    ∃ b_2 o_2, x_ = some ⟨b_2, o_2, none⟩ ∧
    Value.oneCell' (Value.int .i64 x16_) = true ∧ wrAt h b_2 (o_2 + 0) 1 ∧ ∀ hp_, hp_ = setsH h b_2 (o_2 + 0) [(Value.int .i64 x16_)] →
    ∃ b_3 o_3, x_ = some ⟨b_3, o_3, none⟩ ∧
    ∃ x22_ : Int, cellsAt hp_ b_3 (o_3 + 0) [(Value.int .i64 x22_)] ∧
    R (.returned (Value.bool (decide ((0 : Int) ≤ x22_)))) hp_) ∧
   ((decide ((0 : Int) ≤ x8_)) = false →
    ∃ b_4 o_4, x_ = some ⟨b_4, o_4, none⟩ ∧
    ∃ x22_1 : Int, cellsAt h b_4 (o_4 + 0) [(Value.int .i64 x22_1)] ∧
    R (.returned (Value.bool (decide ((0 : Int) ≤ x22_1)))) h))) :
  CallsH Try.prog 33 #[(Value.pointer x_), (Value.int .i64 n_)] h R := calls_vc fine false Try.func33 (ann := A33) (args := [(Value.pointer x_), (Value.int .i64 n_)]) (by kernel_rfl) (Eq.mpr (by kernel_rfl) H)
/-- (*turnout/turnoutref01.Scale).Fine -/
def A34 : Ann := (.seq .nil (.seq .nil .nil))
theorem V34 (x_ : Option Addr) (h : Hp) (R : Ending → Hp → Prop) (H :
  ∃ b_ o_, x_ = some ⟨b_, o_, none⟩ ∧
  ∃ x6_ : Int, cellsAt h b_ (o_ + 0) [(Value.int .i64 x6_)] ∧
  R (.returned (Value.bool (decide ((0 : Int) ≤ x6_)))) h) :
  CallsH Try.prog 34 #[(Value.pointer x_)] h R := calls_vc fine false Try.func34 (ann := A34) (args := [(Value.pointer x_)]) (by kernel_rfl) (Eq.mpr (by kernel_rfl) H)
/-- (*turnout/turnoutref03.Writer).Uint -/
def A35 : Ann := .nil
theorem V35 (w_ : Option Addr) (n_ : Int) (h : Hp) (R : Ending → Hp → Prop) (H :
  CallsH Try.prog 61 #[(Value.int .u64 n_)] h fun en_ hp_ =>
  ∃ x6_ : ByteArray, en_ = .returned (Value.string x6_) ∧
  CallsH Try.prog 60 #[(Value.pointer w_), (Value.string x6_), (Value.int .i64 (0 : Int))] hp_ fun en_1 hp_1 =>
  en_1 = .returned (Value.tuple #[]) ∧
  R (.returned (Value.tuple #[])) hp_1) :
  CallsH Try.prog 35 #[(Value.pointer w_), (Value.int .u64 n_)] h R := calls_vc fine false Try.func35 (ann := A35) (args := [(Value.pointer w_), (Value.int .u64 n_)]) (by kernel_rfl) (Eq.mpr (by kernel_rfl) H)
/-- (*turnout/turnoutref03.Writer).Fixed -/
def A36 : Ann := (.seq .nil .nil)
theorem V36 (w_ : Option Addr) (n_ : Int) (bytes_ : Int) (h : Hp) (R : Ending → Hp → Prop) (H :
  CallsH Try.prog 62 #[(Value.int .u64 n_), (Value.int .i64 bytes_)] h fun en_ hp_ =>
  ∃ x11r0_ : ByteArray, ∃ x11r1_ : Int, en_ = .returned (Value.tuple #[(Value.string x11r0_), (Value.int .i64 x11r1_)]) ∧
  CallsH Try.prog 60 #[(Value.pointer w_), (Value.string x11r0_), (Value.int .i64 x11r1_)] hp_ fun en_1 hp_1 =>
  en_1 = .returned (Value.tuple #[]) ∧
  R (.returned (Value.tuple #[])) hp_1) :
  CallsH Try.prog 36 #[(Value.pointer w_), (Value.int .u64 n_), (Value.int .i64 bytes_)] h R := calls_vc fine false Try.func36 (ann := A36) (args := [(Value.pointer w_), (Value.int .u64 n_), (Value.int .i64 bytes_)]) (by kernel_rfl) (Eq.mpr (by kernel_rfl) H)
/-- (*turnout/turnoutref03.Writer).Text -/
def A37 : Ann := .nil
theorem V37 (w_ : Option Addr) (s_ : ByteArray) (h : Hp) (R : Ending → Hp → Prop) (H :
  ∃ x7_, IntKind.u64.wrap (ByteArray.size s_ : Int) = x7_ ∧
  CallsH Try.prog 61 #[(Value.int .u64 x7_)] h fun en_ hp_ =>
  ∃ x8_ : ByteArray, en_ = .returned (Value.string x8_) ∧
  ByteArray.size x8_ + ByteArray.size s_ ≤ 9223372036854775807 ∧ ∃ x10_, x8_ ++ s_ = x10_ ∧
  CallsH Try.prog 60 #[(Value.pointer w_), (Value.string x10_), (Value.int .i64 (0 : Int))] hp_ fun en_1 hp_1 =>
  en_1 = .returned (Value.tuple #[]) ∧
  R (.returned (Value.tuple #[])) hp_1) :
  CallsH Try.prog 37 #[(Value.pointer w_), (Value.string s_)] h R := calls_vc fine false Try.func37 (ann := A37) (args := [(Value.pointer w_), (Value.string s_)]) (by kernel_rfl) (Eq.mpr (by kernel_rfl) H)
/-- (*turnout/turnoutref03.Writer).Bits -/
def A38 : Ann := (.seq .nil (.seq .nil .nil))
theorem V38 (w_ : Option Addr) (af0_ : Int) (af1_ : Int) (width_ : Int) (h : Hp) (R : Ending → Hp → Prop) (H :
  ∀ b_ hp_, b_ = Array.size h → hp_ = Array.push h (.cells #[(Value.int .u64 af0_), (Value.int .u64 af1_)] 34) →
  ∃ x9f0_ : Int, ∃ x9f1_ : Int, cellsAt hp_ b_ 0 [(Value.int .u64 x9f0_), (Value.int .u64 x9f1_)] ∧
  CallsH Try.prog 63 #[(Value.agg #[(Value.int .u64 x9f0_), (Value.int .u64 x9f1_)]), (Value.int .i64 width_)] hp_ fun en_ hp_1 =>
  ∃ x11r0_ : ByteArray, ∃ x11r1_ : Int, en_ = .returned (Value.tuple #[(Value.string x11r0_), (Value.int .i64 x11r1_)]) ∧
  CallsH Try.prog 60 #[(Value.pointer w_), (Value.string x11r0_), (Value.int .i64 x11r1_)] hp_1 fun en_1 hp_2 =>
  en_1 = .returned (Value.tuple #[]) ∧
  R (.returned (Value.tuple #[])) hp_2) :
  CallsH Try.prog 38 #[(Value.pointer w_), (Value.agg #[(Value.int .u64 af0_), (Value.int .u64 af1_)]), (Value.int .i64 width_)] h R := calls_vc fine false Try.func38 (ann := A38) (args := [(Value.pointer w_), (Value.agg #[(Value.int .u64 af0_), (Value.int .u64 af1_)]), (Value.int .i64 width_)]) (by kernel_rfl) (Eq.mpr (by kernel_rfl) H)
/-- (*turnout/turnoutref03.Writer).Raw -/
def A39 : Ann := .nil
theorem V39 (w_ : Option Addr) (s_ : ByteArray) (h : Hp) (R : Ending → Hp → Prop) (H :
  CallsH Try.prog 60 #[(Value.pointer w_), (Value.string s_), (Value.int .i64 (0 : Int))] h fun en_ hp_ =>
  en_ = .returned (Value.tuple #[]) ∧
  R (.returned (Value.tuple #[])) hp_) :
  CallsH Try.prog 39 #[(Value.pointer w_), (Value.string s_)] h R := calls_vc fine false Try.func39 (ann := A39) (args := [(Value.pointer w_), (Value.string s_)]) (by kernel_rfl) (Eq.mpr (by kernel_rfl) H)
/-- (*turnout/turnoutref03.Writer).Out -/
def A40 : Ann := (.seq .nil (.seq (.seq .nil (.cond (.seq .nil .nil) .nil)) (.seq .nil .nil)))
theorem V40 (w_ : Option Addr) (h : Hp) (R : Ending → Hp → Prop) (H :
  ∃ b_ o_, w_ = some ⟨b_, o_, none⟩ ∧
  ∃ x7_ : Int, cellsAt h b_ (o_ + 1) [(Value.int .i64 x7_)] ∧
  (((decide (x7_ ≠ (0 : Int))) = true →
    ∃ b_1 o_1, w_ = some ⟨b_1, o_1, none⟩ ∧
    ∃ x12_ : Int, cellsAt h b_1 (o_1 + 1) [(Value.int .i64 x12_)] ∧
    R (.returned (Value.tuple #[(Value.string (⟨#[]⟩ : ByteArray)), (Value.int .i64 x12_)])) h) ∧
   ((decide (x7_ ≠ (0 : Int))) = false →
    ∃ b_2 o_2, w_ = some ⟨b_2, o_2, none⟩ ∧
    ∃ (x16p_ : Option Addr) (x16n_ x16c_ : Nat), cellsAt h b_2 (o_2 + 0) [(Value.slice x16p_ x16n_ x16c_)] ∧
    SemH Try.prog (convert 28 9 (Value.slice x16p_ x16n_ x16c_)) h fun v_ hp_ =>
    ∃ x17_ : ByteArray, v_ = (Value.string x17_) ∧
    R (.returned (Value.tuple #[(Value.string x17_), (Value.int .i64 (0 : Int))])) hp_))) :
  CallsH Try.prog 40 #[(Value.pointer w_)] h R := calls_vc fine false Try.func40 (ann := A40) (args := [(Value.pointer w_)]) (by kernel_rfl) (Eq.mpr (by kernel_rfl) H)
/-- (*turnout/turnoutref03.Reader).Uint -/
def A41 : Ann := (.seq .nil (.seq (.seq .nil (.cond (.seq .nil .nil) .nil)) (.seq .nil (.seq (.seq .nil (.cond (.seq .nil (.seq .nil .nil)) .nil)) (.seq .nil (.seq .nil .nil))))))
theorem V41 (r_ : Option Addr) (most_ : Int) (h : Hp) (R : Ending → Hp → Prop) (H :
  ∃ b_ o_, r_ = some ⟨b_, o_, none⟩ ∧
  ∃ x11_ : Int, cellsAt h b_ (o_ + 2) [(Value.int .i64 x11_)] ∧
  (((decide (x11_ ≠ (0 : Int))) = true →
    R (.returned (Value.int .u64 (0 : Int))) h) ∧
   ((decide (x11_ ≠ (0 : Int))) = false →
    ∃ b_1 o_1, r_ = some ⟨b_1, o_1, none⟩ ∧
    ∃ x17_ : ByteArray, cellsAt h b_1 (o_1 + 0) [(Value.string x17_)] ∧
    ∃ b_2 o_2, r_ = some ⟨b_2, o_2, none⟩ ∧
    ∃ x21_ : Int, cellsAt h b_2 (o_2 + 1) [(Value.int .i64 x21_)] ∧
    CallsH Try.prog 64 #[(Value.string x17_), (Value.int .i64 x21_), (Value.int .u64 most_)] h fun en_ hp_ =>
    ∃ x23r0_ : Int, ∃ x23r1_ : Int, ∃ x23r2_ : Int, en_ = .returned (Value.tuple #[(Value.int .u64 x23r0_), (Value.int .i64 x23r1_), (Value.int .i64 x23r2_)]) ∧
    (((decide (x23r2_ ≠ (0 : Int))) = true →
      CallsH Try.prog 65 #[(Value.pointer r_), (Value.int .i64 x23r2_)] hp_ fun en_1 hp_1 =>
      en_1 = .returned (Value.tuple #[]) ∧
      R (.returned (Value.int .u64 (0 : Int))) hp_1) ∧
     ((decide (x23r2_ ≠ (0 : Int))) = false →
      ∃ b_3 o_3, r_ = some ⟨b_3, o_3, none⟩ ∧
      Value.oneCell' (Value.int .i64 x23r1_) = true ∧ wrAt hp_ b_3 (o_3 + 1) 1 ∧ ∀ hp_2, hp_2 = setsH hp_ b_3 (o_3 + 1) [(Value.int .i64 x23r1_)] →
      R (.returned (Value.int .u64 x23r0_)) hp_2))))) :
  CallsH Try.prog 41 #[(Value.pointer r_), (Value.int .u64 most_)] h R := calls_vc fine false Try.func41 (ann := A41) (args := [(Value.pointer r_), (Value.int .u64 most_)]) (by kernel_rfl) (Eq.mpr (by kernel_rfl) H)
/-- (*turnout/turnoutref03.Reader).Fixed -/
def A42 : Ann := (.seq .nil (.cut (.seq (.join 20) (.cond .nil .nil)) [] (.seq .nil (.seq .nil (.seq (.seq .nil (.block (.loop [(6, (.int .u64)), (7, (.int .i64))] (.seq (.seq .nil (.cond .nil .nil)) (.seq (.block .nil) .nil))))) (.seq .nil .nil))))))
theorem V42 (r_ : Option Addr) (bytes_ : Int) (h : Hp) (R : Ending → Hp → Prop) (H :
  ∃ Jv_ : List Value → Hp → Prop,
  (∃ B_ : Bool, (∃ b_ o_, r_ = some ⟨b_, o_, none⟩ ∧
    ∃ x11_ : Int, cellsAt h b_ (o_ + 2) [(Value.int .i64 x11_)] ∧
    (((decide (x11_ = (0 : Int))) = true →
      (((decide (bytes_ < (1 : Int))) = true →
        h = h ∧ B_ = true) ∧
       ((decide (bytes_ < (1 : Int))) = false →
        h = h ∧ B_ = (decide ((8 : Int) < bytes_))))) ∧
     ((decide (x11_ = (0 : Int))) = false →
      h = h ∧ B_ = false))) ∧
   ((B_ = true →
     CallsH Try.prog 65 #[(Value.pointer r_), (Value.int .i64 (1 : Int))] h fun en_ hp_ =>
     en_ = .returned (Value.tuple #[]) ∧
     Jv_ [] hp_) ∧
    (B_ = false →
     Jv_ [] h))) ∧
  (∀  hp_1, Jv_ [] hp_1 →
   CallsH Try.prog 45 #[(Value.pointer r_), (Value.int .i64 bytes_)] hp_1 fun en_1 hp_2 =>
   ∃ x25_ : ByteArray, en_1 = .returned (Value.string x25_) ∧
   ∃ (Iv_ : List Value → Hp → Prop) (m_ : List Value → Hp → Nat), Iv_ [(Value.int .u64 (0 : Int)), (Value.int .i64 (0 : Int))] hp_2 ∧
   (∀ (n_ : Int) (i_ : Int) hp_3, Iv_ [(Value.int .u64 n_), (Value.int .i64 i_)] hp_3 →
    (((decide (i_ < (ByteArray.size x25_ : Int))) = true →
      ∃ x33_, IntKind.u64.wrap (n_ * (256 : Int)) = x33_ ∧
      0 ≤ i_ ∧ ∃ x36_ : UInt8, x25_[Int.toNat i_]? = some x36_ ∧
      ∃ x37_, IntKind.u64.wrap (x36_.toNat : Int) = x37_ ∧
      ∃ x38_, IntKind.u64.wrap (x33_ + x37_) = x38_ ∧
      ∃ x31_, IntKind.i64.wrap (i_ + (1 : Int)) = x31_ ∧
      (Iv_ [(Value.int .u64 x38_), (Value.int .i64 x31_)] hp_3 ∧ m_ [(Value.int .u64 x38_), (Value.int .i64 x31_)] hp_3 < m_ [(Value.int .u64 n_), (Value.int .i64 i_)] hp_3)) ∧
     ((decide (i_ < (ByteArray.size x25_ : Int))) = false →
      R (.returned (Value.int .u64 n_)) hp_3))))) :
  CallsH Try.prog 42 #[(Value.pointer r_), (Value.int .i64 bytes_)] h R := calls_vc fine false Try.func42 (ann := A42) (args := [(Value.pointer r_), (Value.int .i64 bytes_)]) (by kernel_rfl) (Eq.mpr (by kernel_rfl) H)
/-- (*turnout/turnoutref03.Reader).Text -/
def A43 : Ann := (.seq .nil (.seq (.seq .nil (.cond (.seq .nil .nil) .nil)) (.seq (.seq .nil (.cond (.seq .nil (.seq .nil .nil)) .nil)) (.seq .nil (.cut (.seq (.join 45) (.cond .nil .nil)) [(7, (.int .i64))] (.seq (.seq .nil (.cond (.seq .nil (.seq .nil .nil)) .nil)) (.seq .nil (.seq .nil .nil))))))))
theorem V43 (r_ : Option Addr) (most_ : Int) (h : Hp) (R : Ending → Hp → Prop) (H :
  ∃ b_ o_, r_ = some ⟨b_, o_, none⟩ ∧
  ∃ x11_ : Int, cellsAt h b_ (o_ + 2) [(Value.int .i64 x11_)] ∧
  (((decide (x11_ ≠ (0 : Int))) = true →
    R (.returned (Value.string (⟨#[]⟩ : ByteArray))) h) ∧
   ((decide (x11_ ≠ (0 : Int))) = false →
    (((decide (most_ < (0 : Int))) = true →
      CallsH Try.prog 65 #[(Value.pointer r_), (Value.int .i64 (1 : Int))] h fun en_ hp_ =>
      en_ = .returned (Value.tuple #[]) ∧
      R (.returned (Value.string (⟨#[]⟩ : ByteArray))) hp_) ∧
     ((decide (most_ < (0 : Int))) = false →
      ∃ b_1 o_1, r_ = some ⟨b_1, o_1, none⟩ ∧
      ∃ x21_ : ByteArray, cellsAt h b_1 (o_1 + 0) [(Value.string x21_)] ∧
      ∃ b_2 o_2, r_ = some ⟨b_2, o_2, none⟩ ∧
      ∃ x25_ : Int, cellsAt h b_2 (o_2 + 1) [(Value.int .i64 x25_)] ∧
      ∃ x27_, IntKind.u64.wrap most_ = x27_ ∧
      CallsH Try.prog 64 #[(Value.string x21_), (Value.int .i64 x25_), (Value.int .u64 x27_)] h fun en_1 hp_1 =>
      ∃ x28r0_ : Int, ∃ x28r1_ : Int, ∃ x28r2_ : Int, en_1 = .returned (Value.tuple #[(Value.int .u64 x28r0_), (Value.int .i64 x28r1_), (Value.int .i64 x28r2_)]) ∧
      ∃ Jv_ : List Value → Hp → Prop,
      (∃ B_ : Bool, ((((decide (x28r2_ = (0 : Int))) = true →
          ∃ b_3 o_3, r_ = some ⟨b_3, o_3, none⟩ ∧
          ∃ x39_ : ByteArray, cellsAt hp_1 b_3 (o_3 + 0) [(Value.string x39_)] ∧
          ∃ x42_, IntKind.i64.wrap ((ByteArray.size x39_ : Int) - x28r1_) = x42_ ∧
          ∃ x43_, IntKind.u64.wrap x42_ = x43_ ∧
          hp_1 = hp_1 ∧ B_ = (decide (x43_ < x28r0_))) ∧
         ((decide (x28r2_ = (0 : Int))) = false →
          hp_1 = hp_1 ∧ B_ = false))) ∧
       ((B_ = true →
         Jv_ [(Value.int .i64 (3 : Int))] hp_1) ∧
        (B_ = false →
         Jv_ [(Value.int .i64 x28r2_)] hp_1))) ∧
      (∀ (ev_ : Int) hp_2, Jv_ [(Value.int .i64 ev_)] hp_2 →
       (((decide (ev_ ≠ (0 : Int))) = true →
         CallsH Try.prog 65 #[(Value.pointer r_), (Value.int .i64 ev_)] hp_2 fun en_2 hp_3 =>
         en_2 = .returned (Value.tuple #[]) ∧
         R (.returned (Value.string (⟨#[]⟩ : ByteArray))) hp_3) ∧
        ((decide (ev_ ≠ (0 : Int))) = false →
         ∃ x54_, IntKind.i64.wrap x28r0_ = x54_ ∧
         ∃ x55_, IntKind.i64.wrap (x28r1_ + x54_) = x55_ ∧
         ∃ b_4 o_4, r_ = some ⟨b_4, o_4, none⟩ ∧
         Value.oneCell' (Value.int .i64 x55_) = true ∧ wrAt hp_2 b_4 (o_4 + 1) 1 ∧ ∀ hp_4, hp_4 = setsH hp_2 b_4 (o_4 + 1) [(Value.int .i64 x55_)] →
         ∃ b_5 o_5, r_ = some ⟨b_5, o_5, none⟩ ∧
         ∃ x61_ : ByteArray, cellsAt hp_4 b_5 (o_5 + 0) [(Value.string x61_)] ∧
         ∃ x65_, IntKind.i64.wrap x28r0_ = x65_ ∧
         ∃ x66_, IntKind.i64.wrap (x28r1_ + x65_) = x66_ ∧
         ∃ l_ : Nat, x28r1_ = (l_ : Int) ∧
         ∃ u_ : Nat, x66_ = (u_ : Int) ∧
         l_ ≤ u_ ∧ u_ ≤ ByteArray.size x61_ ∧ ∃ x67_, ByteArray.extract x61_ l_ u_ = x67_ ∧
         R (.returned (Value.string x67_)) hp_4)))))))) :
  CallsH Try.prog 43 #[(Value.pointer r_), (Value.int .i64 most_)] h R := calls_vc fine false Try.func43 (ann := A43) (args := [(Value.pointer r_), (Value.int .i64 most_)]) (by kernel_rfl) (Eq.mpr (by kernel_rfl) H)
/-- (*turnout/turnoutref03.Reader).Bits -/
def A44 : Ann := (.seq .nil (.seq (.seq .nil (.cond (.seq .nil .nil) .nil)) (.seq (.seq .nil (.cond (.seq .nil (.seq .nil .nil)) .nil)) (.seq .nil (.seq (.seq .nil (.cond (.seq .nil (.seq .nil .nil)) .nil)) (.seq (.orders 20 [[0, 1, 2, 3, 4, 5, 6, 7, 8, 9, 10, 11, 12, 13, 14, 15, 16, 17, 18, 19, 20, 21, 22], [0, 1, 2, 3, 4, 5, 6, 7, 8, 9, 10, 11, 12, 13, 14, 15, 20, 16, 17, 18, 19, 21, 22]] [3, 7, 11]) (.seq (.seq .nil (.cond (.seq .nil (.seq .nil .nil)) .nil)) (.seq .nil (.seq .nil .nil)))))))))
theorem V44 (r_ : Option Addr) (width_ : Int) (h : Hp) (R : Ending → Hp → Prop) (H :
  ∀ b_ hp_, b_ = Array.size h → hp_ = Array.push h (.cells (zeros Try.prog 34) 34) → (∃ i z, Try.prog.info? 34 = some i ∧ i.zero = some z) ∧
  ∃ b_1 o_, r_ = some ⟨b_1, o_, none⟩ ∧
  ∃ x11_ : Int, cellsAt hp_ b_1 (o_ + 2) [(Value.int .i64 x11_)] ∧
  (((decide (x11_ ≠ (0 : Int))) = true →
    List.length [(Value.int .u64 (0 : Int)), (Value.int .u64 (0 : Int))] = 2 ∧ (∀ c ∈ [(Value.int .u64 (0 : Int)), (Value.int .u64 (0 : Int))], c.oneCell' = true) ∧ wrAt hp_ b_ 0 2 ∧ ∀ hp_1, hp_1 = setsH hp_ b_ 0 [(Value.int .u64 (0 : Int)), (Value.int .u64 (0 : Int))] →
    ∃ resf0_ : Int, ∃ resf1_ : Int, cellsAt hp_1 b_ 0 [(Value.int .u64 resf0_), (Value.int .u64 resf1_)] ∧
    R (.returned (Value.agg #[(Value.int .u64 resf0_), (Value.int .u64 resf1_)])) hp_1) ∧
   ((decide (x11_ ≠ (0 : Int))) = false →
    CallsH Try.prog 66 #[(Value.int .i64 width_)] hp_ fun en_ hp_2 =>
    ∃ x15_ : Bool, en_ = .returned (Value.bool x15_) ∧
    (((!x15_) = true →
      CallsH Try.prog 65 #[(Value.pointer r_), (Value.int .i64 (10 : Int))] hp_2 fun en_1 hp_3 =>
      en_1 = .returned (Value.tuple #[]) ∧
      List.length [(Value.int .u64 (0 : Int)), (Value.int .u64 (0 : Int))] = 2 ∧ (∀ c ∈ [(Value.int .u64 (0 : Int)), (Value.int .u64 (0 : Int))], c.oneCell' = true) ∧ wrAt hp_3 b_ 0 2 ∧ ∀ hp_4, hp_4 = setsH hp_3 b_ 0 [(Value.int .u64 (0 : Int)), (Value.int .u64 (0 : Int))] →
      ∃ resf0_1 : Int, ∃ resf1_1 : Int, cellsAt hp_4 b_ 0 [(Value.int .u64 resf0_1), (Value.int .u64 resf1_1)] ∧
      R (.returned (Value.agg #[(Value.int .u64 resf0_1), (Value.int .u64 resf1_1)])) hp_4) ∧
     ((!x15_) = false →
      CallsH Try.prog 67 #[(Value.int .i64 width_)] hp_2 fun en_2 hp_5 =>
      ∃ x21_ : Int, en_2 = .returned (Value.int .i64 x21_) ∧
      ∃ b_2 o_1, r_ = some ⟨b_2, o_1, none⟩ ∧
      ∃ x26_ : ByteArray, cellsAt hp_5 b_2 (o_1 + 0) [(Value.string x26_)] ∧
      ∃ b_3 o_2, r_ = some ⟨b_3, o_2, none⟩ ∧
      ∃ x31_ : Int, cellsAt hp_5 b_3 (o_2 + 1) [(Value.int .i64 x31_)] ∧
      ∃ x32_, IntKind.i64.wrap ((ByteArray.size x26_ : Int) - x31_) = x32_ ∧
      (((decide (x32_ < x21_)) = true →
        CallsH Try.prog 65 #[(Value.pointer r_), (Value.int .i64 (3 : Int))] hp_5 fun en_3 hp_6 =>
        en_3 = .returned (Value.tuple #[]) ∧
        List.length [(Value.int .u64 (0 : Int)), (Value.int .u64 (0 : Int))] = 2 ∧ (∀ c ∈ [(Value.int .u64 (0 : Int)), (Value.int .u64 (0 : Int))], c.oneCell' = true) ∧ wrAt hp_6 b_ 0 2 ∧ ∀ hp_7, hp_7 = setsH hp_6 b_ 0 [(Value.int .u64 (0 : Int)), (Value.int .u64 (0 : Int))] →
        ∃ resf0_2 : Int, ∃ resf1_2 : Int, cellsAt hp_7 b_ 0 [(Value.int .u64 resf0_2), (Value.int .u64 resf1_2)] ∧
        R (.returned (Value.agg #[(Value.int .u64 resf0_2), (Value.int .u64 resf1_2)])) hp_7) ∧
       ((decide (x32_ < x21_)) = false →
        (∃ Cv_ : Hp → Prop, Cv_ hp_5 ∧
         ∃ b_4 o_3, r_ = some ⟨b_4, o_3, none⟩ ∧
         ∃ x41_ : ByteArray, (∀ h', Cv_ h' → cellsAt h' b_4 (o_3 + 0) [(Value.string x41_)]) ∧
         ∃ b_5 o_4, r_ = some ⟨b_5, o_4, none⟩ ∧
         ∃ x45_ : Int, (∀ h', Cv_ h' → cellsAt h' b_5 (o_4 + 1) [(Value.int .i64 x45_)]) ∧
         ∃ b_6 o_5, r_ = some ⟨b_6, o_5, none⟩ ∧
         ∃ x49_ : Int, (∀ h', Cv_ h' → cellsAt h' b_6 (o_5 + 1) [(Value.int .i64 x49_)]) ∧
         ∃ x51_, IntKind.i64.wrap (x49_ + x21_) = x51_ ∧
         ∃ l_ : Nat, x45_ = (l_ : Int) ∧
         ∃ u_ : Nat, x51_ = (u_ : Int) ∧
         l_ ≤ u_ ∧ u_ ≤ ByteArray.size x41_ ∧ ∃ x52_, ByteArray.extract x41_ l_ u_ = x52_ ∧
         CallsH Try.prog 68 #[(Value.string x52_), (Value.int .i64 width_)] hp_5 fun en_4 hp_8 =>
         ∃ x54r0f0_ : Int, ∃ x54r0f1_ : Int, ∃ x54r1_ : Int, en_4 = .returned (Value.tuple #[(Value.agg #[(Value.int .u64 x54r0f0_), (Value.int .u64 x54r0f1_)]), (Value.int .i64 x54r1_)]) ∧
         Cv_ hp_8 ∧
         ∀ b_7 hp_9, b_7 = Array.size hp_8 → hp_9 = Array.push hp_8 (.cells (zeros Try.prog 34) 34) → (∃ i z, Try.prog.info? 34 = some i ∧ i.zero = some z) ∧
         Cv_ hp_9 ∧
         List.length [(Value.int .u64 x54r0f0_), (Value.int .u64 x54r0f1_)] = 2 ∧ (∀ c ∈ [(Value.int .u64 x54r0f0_), (Value.int .u64 x54r0f1_)], c.oneCell' = true) ∧ wrAt hp_9 b_7 0 2 ∧ ∀ hp_10, hp_10 = setsH hp_9 b_7 0 [(Value.int .u64 x54r0f0_), (Value.int .u64 x54r0f1_)] →
         Cv_ hp_10 ∧
         (((decide (x54r1_ ≠ (0 : Int))) = true →
           CallsH Try.prog 65 #[(Value.pointer r_), (Value.int .i64 x54r1_)] hp_10 fun en_5 hp_11 =>
           en_5 = .returned (Value.tuple #[]) ∧
           List.length [(Value.int .u64 (0 : Int)), (Value.int .u64 (0 : Int))] = 2 ∧ (∀ c ∈ [(Value.int .u64 (0 : Int)), (Value.int .u64 (0 : Int))], c.oneCell' = true) ∧ wrAt hp_11 b_ 0 2 ∧ ∀ hp_12, hp_12 = setsH hp_11 b_ 0 [(Value.int .u64 (0 : Int)), (Value.int .u64 (0 : Int))] →
           ∃ resf0_3 : Int, ∃ resf1_3 : Int, cellsAt hp_12 b_ 0 [(Value.int .u64 resf0_3), (Value.int .u64 resf1_3)] ∧
           R (.returned (Value.agg #[(Value.int .u64 resf0_3), (Value.int .u64 resf1_3)])) hp_12) ∧
          ((decide (x54r1_ ≠ (0 : Int))) = false →
           ∃ b_8 o_6, r_ = some ⟨b_8, o_6, none⟩ ∧
           ∃ x67_ : Int, cellsAt hp_10 b_8 (o_6 + 1) [(Value.int .i64 x67_)] ∧
           ∃ x69_, IntKind.i64.wrap (x67_ + x21_) = x69_ ∧
           ∃ b_9 o_7, r_ = some ⟨b_9, o_7, none⟩ ∧
           Value.oneCell' (Value.int .i64 x69_) = true ∧ wrAt hp_10 b_9 (o_7 + 1) 1 ∧ ∀ hp_13, hp_13 = setsH hp_10 b_9 (o_7 + 1) [(Value.int .i64 x69_)] →
           ∃ x72f0_ : Int, ∃ x72f1_ : Int, cellsAt hp_13 b_7 0 [(Value.int .u64 x72f0_), (Value.int .u64 x72f1_)] ∧
           List.length [(Value.int .u64 x72f0_), (Value.int .u64 x72f1_)] = 2 ∧ (∀ c ∈ [(Value.int .u64 x72f0_), (Value.int .u64 x72f1_)], c.oneCell' = true) ∧ wrAt hp_13 b_ 0 2 ∧ ∀ hp_14, hp_14 = setsH hp_13 b_ 0 [(Value.int .u64 x72f0_), (Value.int .u64 x72f1_)] →
           ∃ resf0_4 : Int, ∃ resf1_4 : Int, cellsAt hp_14 b_ 0 [(Value.int .u64 resf0_4), (Value.int .u64 resf1_4)] ∧
           R (.returned (Value.agg #[(Value.int .u64 resf0_4), (Value.int .u64 resf1_4)])) hp_14))) ∧
        (∃ Cv_1 : Hp → Prop, Cv_1 hp_5 ∧
         ∃ b_10 o_8, r_ = some ⟨b_10, o_8, none⟩ ∧
         ∃ x41_1 : ByteArray, (∀ h', Cv_1 h' → cellsAt h' b_10 (o_8 + 0) [(Value.string x41_1)]) ∧
         ∃ b_11 o_9, r_ = some ⟨b_11, o_9, none⟩ ∧
         ∃ x45_1 : Int, (∀ h', Cv_1 h' → cellsAt h' b_11 (o_9 + 1) [(Value.int .i64 x45_1)]) ∧
         ∃ b_12 o_10, r_ = some ⟨b_12, o_10, none⟩ ∧
         ∃ x49_1 : Int, (∀ h', Cv_1 h' → cellsAt h' b_12 (o_10 + 1) [(Value.int .i64 x49_1)]) ∧
         ∃ x51_1, IntKind.i64.wrap (x49_1 + x21_) = x51_1 ∧
         ∃ l_1 : Nat, x45_1 = (l_1 : Int) ∧
         ∃ u_1 : Nat, x51_1 = (u_1 : Int) ∧
         l_1 ≤ u_1 ∧ u_1 ≤ ByteArray.size x41_1 ∧ ∃ x52_1, ByteArray.extract x41_1 l_1 u_1 = x52_1 ∧
         ∀ b_13 hp_15, b_13 = Array.size hp_5 → hp_15 = Array.push hp_5 (.cells (zeros Try.prog 34) 34) → (∃ i z, Try.prog.info? 34 = some i ∧ i.zero = some z) ∧
         Cv_1 hp_15 ∧
         CallsH Try.prog 68 #[(Value.string x52_1), (Value.int .i64 width_)] hp_15 fun en_6 hp_16 =>
         ∃ x54r0f0_1 : Int, ∃ x54r0f1_1 : Int, ∃ x54r1_1 : Int, en_6 = .returned (Value.tuple #[(Value.agg #[(Value.int .u64 x54r0f0_1), (Value.int .u64 x54r0f1_1)]), (Value.int .i64 x54r1_1)]) ∧
         Cv_1 hp_16 ∧
         List.length [(Value.int .u64 x54r0f0_1), (Value.int .u64 x54r0f1_1)] = 2 ∧ (∀ c ∈ [(Value.int .u64 x54r0f0_1), (Value.int .u64 x54r0f1_1)], c.oneCell' = true) ∧ wrAt hp_16 b_13 0 2 ∧ ∀ hp_17, hp_17 = setsH hp_16 b_13 0 [(Value.int .u64 x54r0f0_1), (Value.int .u64 x54r0f1_1)] →
         Cv_1 hp_17 ∧
         (((decide (x54r1_1 ≠ (0 : Int))) = true →
           CallsH Try.prog 65 #[(Value.pointer r_), (Value.int .i64 x54r1_1)] hp_17 fun en_7 hp_18 =>
           en_7 = .returned (Value.tuple #[]) ∧
           List.length [(Value.int .u64 (0 : Int)), (Value.int .u64 (0 : Int))] = 2 ∧ (∀ c ∈ [(Value.int .u64 (0 : Int)), (Value.int .u64 (0 : Int))], c.oneCell' = true) ∧ wrAt hp_18 b_ 0 2 ∧ ∀ hp_19, hp_19 = setsH hp_18 b_ 0 [(Value.int .u64 (0 : Int)), (Value.int .u64 (0 : Int))] →
           ∃ resf0_5 : Int, ∃ resf1_5 : Int, cellsAt hp_19 b_ 0 [(Value.int .u64 resf0_5), (Value.int .u64 resf1_5)] ∧
           R (.returned (Value.agg #[(Value.int .u64 resf0_5), (Value.int .u64 resf1_5)])) hp_19) ∧
          ((decide (x54r1_1 ≠ (0 : Int))) = false →
           ∃ b_14 o_11, r_ = some ⟨b_14, o_11, none⟩ ∧
           ∃ x67_1 : Int, cellsAt hp_17 b_14 (o_11 + 1) [(Value.int .i64 x67_1)] ∧
           ∃ x69_1, IntKind.i64.wrap (x67_1 + x21_) = x69_1 ∧
           ∃ b_15 o_12, r_ = some ⟨b_15, o_12, none⟩ ∧
           Value.oneCell' (Value.int .i64 x69_1) = true ∧ wrAt hp_17 b_15 (o_12 + 1) 1 ∧ ∀ hp_20, hp_20 = setsH hp_17 b_15 (o_12 + 1) [(Value.int .i64 x69_1)] →
           ∃ x72f0_1 : Int, ∃ x72f1_1 : Int, cellsAt hp_20 b_13 0 [(Value.int .u64 x72f0_1), (Value.int .u64 x72f1_1)] ∧
           List.length [(Value.int .u64 x72f0_1), (Value.int .u64 x72f1_1)] = 2 ∧ (∀ c ∈ [(Value.int .u64 x72f0_1), (Value.int .u64 x72f1_1)], c.oneCell' = true) ∧ wrAt hp_20 b_ 0 2 ∧ ∀ hp_21, hp_21 = setsH hp_20 b_ 0 [(Value.int .u64 x72f0_1), (Value.int .u64 x72f1_1)] →
           ∃ resf0_6 : Int, ∃ resf1_6 : Int, cellsAt hp_21 b_ 0 [(Value.int .u64 resf0_6), (Value.int .u64 resf1_6)] ∧
           R (.returned (Value.agg #[(Value.int .u64 resf0_6), (Value.int .u64 resf1_6)])) hp_21)))))))))) :
  CallsH Try.prog 44 #[(Value.pointer r_), (Value.int .i64 width_)] h R := calls_vc fine false Try.func44 (ann := A44) (args := [(Value.pointer r_), (Value.int .i64 width_)]) (by kernel_rfl) (Eq.mpr (by kernel_rfl) H)
/-- (*turnout/turnoutref03.Reader).Raw -/
def A45 : Ann := (.seq .nil (.seq (.seq .nil (.cond (.seq .nil .nil) .nil)) (.seq (.seq .nil (.cond (.seq .nil (.seq .nil .nil)) .nil)) (.seq (.seq .nil (.cond (.seq .nil (.seq .nil .nil)) .nil)) (.seq .nil (.seq .nil (.seq .nil .nil)))))))
theorem V45 (r_ : Option Addr) (bytes_ : Int) (h : Hp) (R : Ending → Hp → Prop) (H :
  ∃ b_ o_, r_ = some ⟨b_, o_, none⟩ ∧
  ∃ x9_ : Int, cellsAt h b_ (o_ + 2) [(Value.int .i64 x9_)] ∧
  (((decide (x9_ ≠ (0 : Int))) = true →
    R (.returned (Value.string (⟨#[]⟩ : ByteArray))) h) ∧
   ((decide (x9_ ≠ (0 : Int))) = false →
    (((decide (bytes_ < (0 : Int))) = true →
      CallsH Try.prog 65 #[(Value.pointer r_), (Value.int .i64 (1 : Int))] h fun en_ hp_ =>
      en_ = .returned (Value.tuple #[]) ∧
      R (.returned (Value.string (⟨#[]⟩ : ByteArray))) hp_) ∧
     ((decide (bytes_ < (0 : Int))) = false →
      ∃ b_1 o_1, r_ = some ⟨b_1, o_1, none⟩ ∧
      ∃ x19_ : ByteArray, cellsAt h b_1 (o_1 + 0) [(Value.string x19_)] ∧
      ∃ b_2 o_2, r_ = some ⟨b_2, o_2, none⟩ ∧
      ∃ x24_ : Int, cellsAt h b_2 (o_2 + 1) [(Value.int .i64 x24_)] ∧
      ∃ x25_, IntKind.i64.wrap ((ByteArray.size x19_ : Int) - x24_) = x25_ ∧
      (((decide (x25_ < bytes_)) = true →
        CallsH Try.prog 65 #[(Value.pointer r_), (Value.int .i64 (3 : Int))] h fun en_1 hp_1 =>
        en_1 = .returned (Value.tuple #[]) ∧
        R (.returned (Value.string (⟨#[]⟩ : ByteArray))) hp_1) ∧
       ((decide (x25_ < bytes_)) = false →
        ∃ b_3 o_3, r_ = some ⟨b_3, o_3, none⟩ ∧
        ∃ x32_ : ByteArray, cellsAt h b_3 (o_3 + 0) [(Value.string x32_)] ∧
        ∃ b_4 o_4, r_ = some ⟨b_4, o_4, none⟩ ∧
        ∃ x36_ : Int, cellsAt h b_4 (o_4 + 1) [(Value.int .i64 x36_)] ∧
        ∃ b_5 o_5, r_ = some ⟨b_5, o_5, none⟩ ∧
        ∃ x40_ : Int, cellsAt h b_5 (o_5 + 1) [(Value.int .i64 x40_)] ∧
        ∃ x42_, IntKind.i64.wrap (x40_ + bytes_) = x42_ ∧
        ∃ l_ : Nat, x36_ = (l_ : Int) ∧
        ∃ u_ : Nat, x42_ = (u_ : Int) ∧
        l_ ≤ u_ ∧ u_ ≤ ByteArray.size x32_ ∧ ∃ x43_, ByteArray.extract x32_ l_ u_ = x43_ ∧
        ∃ b_6 o_6, r_ = some ⟨b_6, o_6, none⟩ ∧
        ∃ x48_ : Int, cellsAt h b_6 (o_6 + 1) [(Value.int .i64 x48_)] ∧
        ∃ x50_, IntKind.i64.wrap (x48_ + bytes_) = x50_ ∧
        ∃ b_7 o_7, r_ = some ⟨b_7, o_7, none⟩ ∧
        Value.oneCell' (Value.int .i64 x50_) = true ∧ wrAt h b_7 (o_7 + 1) 1 ∧ ∀ hp_2, hp_2 = setsH h b_7 (o_7 + 1) [(Value.int .i64 x50_)] →
        R (.returned (Value.string x43_)) hp_2))))))) :
  CallsH Try.prog 45 #[(Value.pointer r_), (Value.int .i64 bytes_)] h R := calls_vc fine false Try.func45 (ann := A45) (args := [(Value.pointer r_), (Value.int .i64 bytes_)]) (by kernel_rfl) (Eq.mpr (by kernel_rfl) H)
/-- (*turnout/turnoutref03.Reader).End -/
def A46 : Ann := (.seq .nil (.seq (.seq (.join 19) (.cond (.seq .nil .nil) .nil)) (.seq .nil .nil)))
theorem V46 (r_ : Option Addr) (h : Hp) (R : Ending → Hp → Prop) (H :
  ∃ B_ : Bool, (∃ b_ o_, r_ = some ⟨b_, o_, none⟩ ∧
   ∃ x6_ : Int, cellsAt h b_ (o_ + 2) [(Value.int .i64 x6_)] ∧
   (((decide (x6_ = (0 : Int))) = true →
     ∃ b_1 o_1, r_ = some ⟨b_1, o_1, none⟩ ∧
     ∃ x12_ : Int, cellsAt h b_1 (o_1 + 1) [(Value.int .i64 x12_)] ∧
     ∃ b_2 o_2, r_ = some ⟨b_2, o_2, none⟩ ∧
     ∃ x16_ : ByteArray, cellsAt h b_2 (o_2 + 0) [(Value.string x16_)] ∧
     h = h ∧ B_ = (decide (x12_ < (ByteArray.size x16_ : Int)))) ∧
    ((decide (x6_ = (0 : Int))) = false →
     h = h ∧ B_ = false))) ∧
  ((B_ = true →
    R (.returned (Value.int .i64 (31 : Int))) h) ∧
   (B_ = false →
    ∃ b_3 o_3, r_ = some ⟨b_3, o_3, none⟩ ∧
    ∃ x23_ : Int, cellsAt h b_3 (o_3 + 2) [(Value.int .i64 x23_)] ∧
    R (.returned (Value.int .i64 x23_)) h))) :
  CallsH Try.prog 46 #[(Value.pointer r_)] h R := calls_vc fine false Try.func46 (ann := A46) (args := [(Value.pointer r_)]) (by kernel_rfl) (Eq.mpr (by kernel_rfl) H)
/-- (*turnout/pack.Reader).begin -/
def A47 : Ann := (.seq .nil (.seq (.join 2) .nil))
theorem V47 (r_ : Option Addr) (h : Hp) (R : Ending → Hp → Prop) (H :
  ∃ B_ : Bool, (∃ x4_, EqV Try.prog 39 (Value.pointer r_) (Value.pointer none) x4_ ∧
   (((!x4_) = true →
     ∃ b_ o_, r_ = some ⟨b_, o_, none⟩ ∧
     ∃ x9_ : Int, cellsAt h b_ (o_ + 2) [(Value.int .i64 x9_)] ∧
     h = h ∧ B_ = (decide (x9_ = (0 : Int)))) ∧
    ((!x4_) = false →
     h = h ∧ B_ = false))) ∧
  R (.returned (Value.bool B_)) h) :
  CallsH Try.prog 47 #[(Value.pointer r_)] h R := calls_vc fine false Try.func47 (ann := A47) (args := [(Value.pointer r_)]) (by kernel_rfl) (Eq.mpr (by kernel_rfl) H)
/-- (*turnout/pack.Reader).Uint$1 -/
theorem V48 (a0_ : Option Addr) (a1_ : Option Addr) (X_ : Value) (u u' : FrameMode) (hx : recU u = (X_, u')) (h : Hp) (K : FrameMode → Hp → Prop) (H :
  ∃ b_ o_, a0_ = some ⟨b_, o_, none⟩ ∧
  ∃ x_ : Option Addr, cellsAt h b_ o_ [(Value.pointer x_)] ∧
  ∃ b_1 o_1, a1_ = some ⟨b_1, o_1, none⟩ ∧
  ∃ y_ : Int, cellsAt h b_1 o_1 [(Value.int .i64 y_)] ∧
  CallsH Try.prog 49 #[(Value.pointer x_), (Value.int .i64 y_), X_] h fun en_ hp_ =>
  en_ = .returned (Value.tuple #[]) ∧
  K u' hp_) :
  DefH Try.prog 48 #[(Value.pointer a0_), (Value.pointer a1_)] u h K := calls_vcRD fine Try.func48 (args := [(Value.pointer a0_), (Value.pointer a1_)]) hx (by kernel_rfl) (Eq.mpr (by kernel_rfl) H)
/-- (*turnout/pack.Reader).caught -/
def A49n : Ann := (.seq .nil (.seq .nil (.cond .nil (.seq .nil (.cond .nil .nil)))))
theorem V49n (r_ : Option Addr) (fromv_ : Int) (h : Hp) (R : Ending → Hp → Prop) (H :
  ((false = true →
    ∃ b_ o_, r_ = some ⟨b_, o_, none⟩ ∧
    Value.oneCell' (Value.int .i64 (0 : Int)) = true ∧ wrAt h b_ (o_ + 2) 1 ∧ ∀ hp_, hp_ = setsH h b_ (o_ + 2) [(Value.int .i64 (0 : Int))] →
    ∃ b_1 o_1, r_ = some ⟨b_1, o_1, none⟩ ∧
    Value.oneCell' (Value.int .i64 fromv_) = true ∧ wrAt hp_ b_1 (o_1 + 1) 1 ∧ ∀ hp_1, hp_1 = setsH hp_ b_1 (o_1 + 1) [(Value.int .i64 fromv_)] →
    ∃ b_2 o_2, r_ = some ⟨b_2, o_2, none⟩ ∧
    Value.oneCell' (Value.int .i64 fromv_) = true ∧ wrAt hp_1 b_2 (o_2 + 3) 1 ∧ ∀ hp_2, hp_2 = setsH hp_1 b_2 (o_2 + 3) [(Value.int .i64 fromv_)] →
    R (.returned (Value.tuple #[])) hp_2) ∧
   (false = false →
    R (.returned (Value.tuple #[])) h))) :
  CallsH Try.prog 49 #[(Value.pointer r_), (Value.int .i64 fromv_), Value.nilIface] h R := calls_vc fine true Try.func49 (ann := A49n) (args := [(Value.pointer r_), (Value.int .i64 fromv_), Value.nilIface]) (by kernel_rfl) (Eq.mpr (by kernel_rfl) H)
def A49p : Ann := (.seq .nil (.seq .nil (.cond .nil (.seq .nil (.cond .nil .nil)))))
theorem V49p (r_ : Option Addr) (fromv_ : Int) (code_ : Int) (h : Hp) (R : Ending → Hp → Prop) (H :
  ((true = true →
    ∃ b_ o_, r_ = some ⟨b_, o_, none⟩ ∧
    Value.oneCell' (Value.int .i64 code_) = true ∧ wrAt h b_ (o_ + 2) 1 ∧ ∀ hp_, hp_ = setsH h b_ (o_ + 2) [(Value.int .i64 code_)] →
    ∃ b_1 o_1, r_ = some ⟨b_1, o_1, none⟩ ∧
    Value.oneCell' (Value.int .i64 fromv_) = true ∧ wrAt hp_ b_1 (o_1 + 1) 1 ∧ ∀ hp_1, hp_1 = setsH hp_ b_1 (o_1 + 1) [(Value.int .i64 fromv_)] →
    ∃ b_2 o_2, r_ = some ⟨b_2, o_2, none⟩ ∧
    Value.oneCell' (Value.int .i64 fromv_) = true ∧ wrAt hp_1 b_2 (o_2 + 3) 1 ∧ ∀ hp_2, hp_2 = setsH hp_1 b_2 (o_2 + 3) [(Value.int .i64 fromv_)] →
    R (.returned (Value.tuple #[])) hp_2) ∧
   (true = false →
    R (.panicked [{ v := (Value.iface 29 (Value.int .i64 code_)), recovered := false }]) h))) :
  CallsH Try.prog 49 #[(Value.pointer r_), (Value.int .i64 fromv_), (Value.iface 29 (Value.int .i64 code_))] h R := calls_vc fine true Try.func49 (ann := A49p) (args := [(Value.pointer r_), (Value.int .i64 fromv_), (Value.iface 29 (Value.int .i64 code_))]) (by kernel_rfl) (Eq.mpr (by kernel_rfl) H)
/-- (*turnout/pack.Reader).number -/
def A50 : Ann := (.seq .nil (.seq .nil (.seq (.seq .nil (.block (.loop [(4, (.int .u64)), (5, (.int .u64)), (8, (.int .i64))] (.seq .nil (.seq (.cond .nil .nil) (.seq (.block (.seq .nil (.seq .nil (.seq .nil (.seq (.seq .nil (.cond .nil .nil)) (.seq (.block (.cut (.seq (.join 24) (.cond .nil (.join 24))) [(24, .bool)] (.cond .nil (.seq .nil (.cond .nil .nil))))) (.seq .nil .nil))))))) .nil)))))) .nil)))
theorem V50 (r_ : Option Addr) (most_ : Int) (h : Hp) (R : Ending → Hp → Prop) (H :
  ∃ (Iv_ : List Value → Hp → Prop) (m_ : List Value → Hp → Nat), Iv_ [(Value.int .u64 (0 : Int)), (Value.int .u64 (0 : Int)), (Value.int .i64 (0 : Int))] h ∧
  (∀ (x4_ : Int) (n_ : Int) (x8_ : Int) hp_, Iv_ [(Value.int .u64 x4_), (Value.int .u64 n_), (Value.int .i64 x8_)] hp_ →
   (((decide (x8_ < (10 : Int))) = true →
     CallsH Try.prog 52 #[(Value.pointer r_), (Value.int .u64 (1 : Int))] hp_ fun en_ hp_1 =>
     ((∃ x12_ : ByteArray, en_ = .returned (Value.string x12_) ∧
       0 ≤ (0 : Int) ∧ ∃ x13_ : UInt8, x12_[Int.toNat (0 : Int)]? = some x13_ ∧
       ∃ x16_, andI .u8 (x13_.toNat : Int) (127 : Int) = x16_ ∧
       ∃ x17_, IntKind.u64.wrap x16_ = x17_ ∧
       ∃ x19_, IntKind.i64.wrap ((7 : Int) * x8_) = x19_ ∧
       0 ≤ x19_ ∧ ∃ x20_, shlI .u64 x17_ x19_ = x20_ ∧
       ∃ x21_, orI .u64 n_ x20_ = x21_ ∧
       (((decide ((128 : Int) ≤ (x13_.toNat : Int))) = true →
         ∃ x44_, IntKind.i64.wrap (x8_ + (1 : Int)) = x44_ ∧
         (Iv_ [(Value.int .u64 x4_), (Value.int .u64 x21_), (Value.int .i64 x44_)] hp_1 ∧ m_ [(Value.int .u64 x4_), (Value.int .u64 x21_), (Value.int .i64 x44_)] hp_1 < m_ [(Value.int .u64 x4_), (Value.int .u64 n_), (Value.int .i64 x8_)] hp_)) ∧
        ((decide ((128 : Int) ≤ (x13_.toNat : Int))) = false →
         ∃ Jv_ : List Value → Hp → Prop,
         (∃ B_ : Bool, ((((decide ((x13_.toNat : Int) = (0 : Int))) = true →
             hp_1 = hp_1 ∧ B_ = (decide ((0 : Int) < x8_))) ∧
            ((decide ((x13_.toNat : Int) = (0 : Int))) = false →
             hp_1 = hp_1 ∧ B_ = false))) ∧
          ((B_ = true →
            Jv_ [(Value.bool B_)] hp_1) ∧
           (B_ = false →
            ∃ B_1 : Bool, ((((decide (x8_ = (9 : Int))) = true →
               hp_1 = hp_1 ∧ B_1 = (decide ((1 : Int) < (x13_.toNat : Int)))) ∧
              ((decide (x8_ = (9 : Int))) = false →
               hp_1 = hp_1 ∧ B_1 = false))) ∧
            Jv_ [(Value.bool B_1)] hp_1))) ∧
         (∀ (x24_ : Bool) hp_2, Jv_ [(Value.bool x24_)] hp_2 →
          ((x24_ = true →
            R (.panicked [{ v := (Value.iface 29 (Value.int .i64 (30 : Int))), recovered := false }]) hp_2) ∧
           (x24_ = false →
            (((decide (most_ < x21_)) = true →
              R (.panicked [{ v := (Value.iface 29 (Value.int .i64 (2 : Int))), recovered := false }]) hp_2) ∧
             ((decide (most_ < x21_)) = false →
              R (.returned (Value.int .u64 x21_)) hp_2)))))))) ∨
      ∃ c_, en_ = .panicked c_ ∧ R (.panicked c_) hp_1)) ∧
    ((decide (x8_ < (10 : Int))) = false →
     R (.panicked [{ v := (Value.iface 29 (Value.int .i64 (30 : Int))), recovered := false }]) hp_)))) :
  CallsH Try.prog 50 #[(Value.pointer r_), (Value.int .u64 most_)] h R := calls_vc fine true Try.func50 (ann := A50) (args := [(Value.pointer r_), (Value.int .u64 most_)]) (by kernel_rfl) (Eq.mpr (by kernel_rfl) H)
/-- (*turnout/pack.Reader).Fixed$1 -/
theorem V51 (a0_ : Option Addr) (a1_ : Option Addr) (X_ : Value) (u u' : FrameMode) (hx : recU u = (X_, u')) (h : Hp) (K : FrameMode → Hp → Prop) (H :
  ∃ b_ o_, a0_ = some ⟨b_, o_, none⟩ ∧
  ∃ x_ : Option Addr, cellsAt h b_ o_ [(Value.pointer x_)] ∧
  ∃ b_1 o_1, a1_ = some ⟨b_1, o_1, none⟩ ∧
  ∃ y_ : Int, cellsAt h b_1 o_1 [(Value.int .i64 y_)] ∧
  CallsH Try.prog 49 #[(Value.pointer x_), (Value.int .i64 y_), X_] h fun en_ hp_ =>
  en_ = .returned (Value.tuple #[]) ∧
  K u' hp_) :
  DefH Try.prog 51 #[(Value.pointer a0_), (Value.pointer a1_)] u h K := calls_vcRD fine Try.func51 (args := [(Value.pointer a0_), (Value.pointer a1_)]) hx (by kernel_rfl) (Eq.mpr (by kernel_rfl) H)
/-- (*turnout/pack.Reader).take -/
def A52 : Ann := (.seq .nil (.cut (.seq .nil (.cond .nil .nil)) [] (.seq .nil (.seq .nil (.seq .nil .nil)))))
theorem V52 (r_ : Option Addr) (n_ : Int) (h : Hp) (R : Ending → Hp → Prop) (H :
  ∃ Jv_ : List Value → Hp → Prop,
  (∃ b_ o_, r_ = some ⟨b_, o_, none⟩ ∧
   ∃ x10_ : ByteArray, cellsAt h b_ (o_ + 0) [(Value.string x10_)] ∧
   ∃ b_1 o_1, r_ = some ⟨b_1, o_1, none⟩ ∧
   ∃ x15_ : Int, cellsAt h b_1 (o_1 + 1) [(Value.int .i64 x15_)] ∧
   ∃ x16_, IntKind.i64.wrap ((ByteArray.size x10_ : Int) - x15_) = x16_ ∧
   ∃ x17_, IntKind.u64.wrap x16_ = x17_ ∧
   (((decide (x17_ < n_)) = true →
     R (.panicked [{ v := (Value.iface 29 (Value.int .i64 (3 : Int))), recovered := false }]) h) ∧
    ((decide (x17_ < n_)) = false →
     Jv_ [] h))) ∧
  (∀  hp_, Jv_ [] hp_ →
   ∃ b_2 o_2, r_ = some ⟨b_2, o_2, none⟩ ∧
   ∃ x23_ : ByteArray, cellsAt hp_ b_2 (o_2 + 0) [(Value.string x23_)] ∧
   ∃ b_3 o_3, r_ = some ⟨b_3, o_3, none⟩ ∧
   ∃ x27_ : Int, cellsAt hp_ b_3 (o_3 + 1) [(Value.int .i64 x27_)] ∧
   ∃ b_4 o_4, r_ = some ⟨b_4, o_4, none⟩ ∧
   ∃ x31_ : Int, cellsAt hp_ b_4 (o_4 + 1) [(Value.int .i64 x31_)] ∧
   ∃ x33_, IntKind.i64.wrap n_ = x33_ ∧
   ∃ x34_, IntKind.i64.wrap (x31_ + x33_) = x34_ ∧
   ∃ l_ : Nat, x27_ = (l_ : Int) ∧
   ∃ u_ : Nat, x34_ = (u_ : Int) ∧
   l_ ≤ u_ ∧ u_ ≤ ByteArray.size x23_ ∧ ∃ x35_, ByteArray.extract x23_ l_ u_ = x35_ ∧
   ∃ b_5 o_5, r_ = some ⟨b_5, o_5, none⟩ ∧
   ∃ x39_ : Int, cellsAt hp_ b_5 (o_5 + 1) [(Value.int .i64 x39_)] ∧
   ∃ x41_, IntKind.i64.wrap n_ = x41_ ∧
   ∃ x42_, IntKind.i64.wrap (x39_ + x41_) = x42_ ∧
   ∃ b_6 o_6, r_ = some ⟨b_6, o_6, none⟩ ∧
   Value.oneCell' (Value.int .i64 x42_) = true ∧ wrAt hp_ b_6 (o_6 + 1) 1 ∧ ∀ hp_1, hp_1 = setsH hp_ b_6 (o_6 + 1) [(Value.int .i64 x42_)] →
   R (.returned (Value.string x35_)) hp_1)) :
  CallsH Try.prog 52 #[(Value.pointer r_), (Value.int .u64 n_)] h R := calls_vc fine true Try.func52 (ann := A52) (args := [(Value.pointer r_), (Value.int .u64 n_)]) (by kernel_rfl) (Eq.mpr (by kernel_rfl) H)
/-- (*turnout/pack.Reader).Text$1 -/
theorem V53 (a0_ : Option Addr) (a1_ : Option Addr) (X_ : Value) (u u' : FrameMode) (hx : recU u = (X_, u')) (h : Hp) (K : FrameMode → Hp → Prop) (H :
  ∃ b_ o_, a0_ = some ⟨b_, o_, none⟩ ∧
  ∃ x_ : Option Addr, cellsAt h b_ o_ [(Value.pointer x_)] ∧
  ∃ b_1 o_1, a1_ = some ⟨b_1, o_1, none⟩ ∧
  ∃ y_ : Int, cellsAt h b_1 o_1 [(Value.int .i64 y_)] ∧
  CallsH Try.prog 49 #[(Value.pointer x_), (Value.int .i64 y_), X_] h fun en_ hp_ =>
  en_ = .returned (Value.tuple #[]) ∧
  K u' hp_) :
  DefH Try.prog 53 #[(Value.pointer a0_), (Value.pointer a1_)] u h K := calls_vcRD fine Try.func53 (args := [(Value.pointer a0_), (Value.pointer a1_)]) hx (by kernel_rfl) (Eq.mpr (by kernel_rfl) H)
/-- (*turnout/pack.Reader).Bits$1 -/
theorem V54 (a0_ : Option Addr) (a1_ : Option Addr) (X_ : Value) (u u' : FrameMode) (hx : recU u = (X_, u')) (h : Hp) (K : FrameMode → Hp → Prop) (H :
  ∃ b_ o_, a0_ = some ⟨b_, o_, none⟩ ∧
  ∃ x_ : Option Addr, cellsAt h b_ o_ [(Value.pointer x_)] ∧
  ∃ b_1 o_1, a1_ = some ⟨b_1, o_1, none⟩ ∧
  ∃ y_ : Int, cellsAt h b_1 o_1 [(Value.int .i64 y_)] ∧
  CallsH Try.prog 49 #[(Value.pointer x_), (Value.int .i64 y_), X_] h fun en_ hp_ =>
  en_ = .returned (Value.tuple #[]) ∧
  K u' hp_) :
  DefH Try.prog 54 #[(Value.pointer a0_), (Value.pointer a1_)] u h K := calls_vcRD fine Try.func54 (args := [(Value.pointer a0_), (Value.pointer a1_)]) hx (by kernel_rfl) (Eq.mpr (by kernel_rfl) H)
/-- turnout/value.From -/
def A55 : Ann := (.seq .nil (.seq (.seq .nil (.cond (.seq .nil .nil) .nil)) (.seq (.seq .nil (.cond (.seq .nil .nil) .nil)) (.seq .nil (.seq (.seq .nil (.block (.loop [(22, (.int .i64))] (.seq .nil (.seq (.cond .nil .nil) (.seq (.block (.seq .nil (.seq .nil .nil))) .nil)))))) (.seq (.seq .nil (.cond (.seq .nil .nil) .nil)) (.seq .nil .nil)))))))
theorem V55 (b_ : ByteArray) (width_ : Int) (h : Hp) (R : Ending → Hp → Prop) (H :
  ∀ b_1 hp_, b_1 = Array.size h → hp_ = Array.push h (.cells (zeros Try.prog 34) 34) → (∃ i z, Try.prog.info? 34 = some i ∧ i.zero = some z) ∧
  CallsH Try.prog 69 #[(Value.int .i64 width_)] hp_ fun en_ hp_1 =>
  ∃ x9_ : Bool, en_ = .returned (Value.bool x9_) ∧
  (((!x9_) = true →
    List.length [(Value.int .u64 (0 : Int)), (Value.int .u64 (0 : Int))] = 2 ∧ (∀ c ∈ [(Value.int .u64 (0 : Int)), (Value.int .u64 (0 : Int))], c.oneCell' = true) ∧ wrAt hp_1 b_1 0 2 ∧ ∀ hp_2, hp_2 = setsH hp_1 b_1 0 [(Value.int .u64 (0 : Int)), (Value.int .u64 (0 : Int))] →
    ∃ resf0_ : Int, ∃ resf1_ : Int, cellsAt hp_2 b_1 0 [(Value.int .u64 resf0_), (Value.int .u64 resf1_)] ∧
    R (.returned (Value.tuple #[(Value.agg #[(Value.int .u64 resf0_), (Value.int .u64 resf1_)]), (Value.int .i64 (10 : Int))])) hp_2) ∧
   ((!x9_) = false →
    ∃ x15_, IntKind.i64.wrap (width_ + (7 : Int)) = x15_ ∧
    (8 : Int) ≠ 0 ∧ ∃ x16_, IntKind.i64.wrap (Int.tdiv x15_ (8 : Int)) = x16_ ∧
    (((decide ((ByteArray.size b_ : Int) ≠ x16_)) = true →
      List.length [(Value.int .u64 (0 : Int)), (Value.int .u64 (0 : Int))] = 2 ∧ (∀ c ∈ [(Value.int .u64 (0 : Int)), (Value.int .u64 (0 : Int))], c.oneCell' = true) ∧ wrAt hp_1 b_1 0 2 ∧ ∀ hp_3, hp_3 = setsH hp_1 b_1 0 [(Value.int .u64 (0 : Int)), (Value.int .u64 (0 : Int))] →
      ∃ resf0_1 : Int, ∃ resf1_1 : Int, cellsAt hp_3 b_1 0 [(Value.int .u64 resf0_1), (Value.int .u64 resf1_1)] ∧
      R (.returned (Value.tuple #[(Value.agg #[(Value.int .u64 resf0_1), (Value.int .u64 resf1_1)]), (Value.int .i64 (12 : Int))])) hp_3) ∧
     ((decide ((ByteArray.size b_ : Int) ≠ x16_)) = false →
      ∀ b_2 hp_4, b_2 = Array.size hp_1 → hp_4 = Array.push hp_1 (.cells (zeros Try.prog 34) 34) → (∃ i z, Try.prog.info? 34 = some i ∧ i.zero = some z) ∧
      List.length [(Value.int .u64 (0 : Int)), (Value.int .u64 (0 : Int))] = 2 ∧ (∀ c ∈ [(Value.int .u64 (0 : Int)), (Value.int .u64 (0 : Int))], c.oneCell' = true) ∧ wrAt hp_4 b_2 0 2 ∧ ∀ hp_5, hp_5 = setsH hp_4 b_2 0 [(Value.int .u64 (0 : Int)), (Value.int .u64 (0 : Int))] →
      ∃ (Iv_ : List Value → Hp → Prop) (m_ : List Value → Hp → Nat), Iv_ [(Value.int .i64 (0 : Int))] hp_5 ∧
      (∀ (x22_ : Int) hp_6, Iv_ [(Value.int .i64 x22_)] hp_6 →
       (((decide (x22_ < (ByteArray.size b_ : Int))) = true →
         ∃ x25f0_ : Int, ∃ x25f1_ : Int, cellsAt hp_6 b_2 0 [(Value.int .u64 x25f0_), (Value.int .u64 x25f1_)] ∧
         CallsH Try.prog 70 #[(Value.agg #[(Value.int .u64 x25f0_), (Value.int .u64 x25f1_)]), (Value.int .i64 (8 : Int))] hp_6 fun en_1 hp_7 =>
         ∃ x26f0_ : Int, ∃ x26f1_ : Int, en_1 = .returned (Value.agg #[(Value.int .u64 x26f0_), (Value.int .u64 x26f1_)]) ∧
         List.length [(Value.int .u64 x26f0_), (Value.int .u64 x26f1_)] = 2 ∧ (∀ c ∈ [(Value.int .u64 x26f0_), (Value.int .u64 x26f1_)], c.oneCell' = true) ∧ wrAt hp_7 b_2 0 2 ∧ ∀ hp_8, hp_8 = setsH hp_7 b_2 0 [(Value.int .u64 x26f0_), (Value.int .u64 x26f1_)] →
         ∃ x28_ : Int, cellsAt hp_8 b_2 (0 + 1) [(Value.int .u64 x28_)] ∧
         0 ≤ x22_ ∧ ∃ x31_ : UInt8, b_[Int.toNat x22_]? = some x31_ ∧
         ∃ x32_, IntKind.u64.wrap (x31_.toNat : Int) = x32_ ∧
         ∃ x33_, orI .u64 x28_ x32_ = x33_ ∧
         Value.oneCell' (Value.int .u64 x33_) = true ∧ wrAt hp_8 b_2 (0 + 1) 1 ∧ ∀ hp_9, hp_9 = setsH hp_8 b_2 (0 + 1) [(Value.int .u64 x33_)] →
         ∃ x35_, IntKind.i64.wrap (x22_ + (1 : Int)) = x35_ ∧
         (Iv_ [(Value.int .i64 x35_)] hp_9 ∧ m_ [(Value.int .i64 x35_)] hp_9 < m_ [(Value.int .i64 x22_)] hp_6)) ∧
        ((decide (x22_ < (ByteArray.size b_ : Int))) = false →
         ∃ x36f0_ : Int, ∃ x36f1_ : Int, cellsAt hp_6 b_2 0 [(Value.int .u64 x36f0_), (Value.int .u64 x36f1_)] ∧
         CallsH Try.prog 71 #[(Value.agg #[(Value.int .u64 x36f0_), (Value.int .u64 x36f1_)]), (Value.int .i64 width_)] hp_6 fun en_2 hp_10 =>
         ∃ x38_ : Bool, en_2 = .returned (Value.bool x38_) ∧
         (((!x38_) = true →
           List.length [(Value.int .u64 (0 : Int)), (Value.int .u64 (0 : Int))] = 2 ∧ (∀ c ∈ [(Value.int .u64 (0 : Int)), (Value.int .u64 (0 : Int))], c.oneCell' = true) ∧ wrAt hp_10 b_1 0 2 ∧ ∀ hp_11, hp_11 = setsH hp_10 b_1 0 [(Value.int .u64 (0 : Int)), (Value.int .u64 (0 : Int))] →
           ∃ resf0_2 : Int, ∃ resf1_2 : Int, cellsAt hp_11 b_1 0 [(Value.int .u64 resf0_2), (Value.int .u64 resf1_2)] ∧
           R (.returned (Value.tuple #[(Value.agg #[(Value.int .u64 resf0_2), (Value.int .u64 resf1_2)]), (Value.int .i64 (11 : Int))])) hp_11) ∧
          ((!x38_) = false →
           ∃ x41f0_ : Int, ∃ x41f1_ : Int, cellsAt hp_10 b_2 0 [(Value.int .u64 x41f0_), (Value.int .u64 x41f1_)] ∧
           List.length [(Value.int .u64 x41f0_), (Value.int .u64 x41f1_)] = 2 ∧ (∀ c ∈ [(Value.int .u64 x41f0_), (Value.int .u64 x41f1_)], c.oneCell' = true) ∧ wrAt hp_10 b_1 0 2 ∧ ∀ hp_12, hp_12 = setsH hp_10 b_1 0 [(Value.int .u64 x41f0_), (Value.int .u64 x41f1_)] →
           ∃ resf0_3 : Int, ∃ resf1_3 : Int, cellsAt hp_12 b_1 0 [(Value.int .u64 resf0_3), (Value.int .u64 resf1_3)] ∧
           R (.returned (Value.tuple #[(Value.agg #[(Value.int .u64 resf0_3), (Value.int .u64 resf1_3)]), (Value.int .i64 (0 : Int))])) hp_12)))))))))) :
  CallsH Try.prog 55 #[(Value.string b_), (Value.int .i64 width_)] h R := calls_vc fine false Try.func55 (ann := A55) (args := [(Value.string b_), (Value.int .i64 width_)]) (by kernel_rfl) (Eq.mpr (by kernel_rfl) H)
/-- (*turnout/pack.Reader).Raw$1 -/
theorem V56 (a0_ : Option Addr) (a1_ : Option Addr) (X_ : Value) (u u' : FrameMode) (hx : recU u = (X_, u')) (h : Hp) (K : FrameMode → Hp → Prop) (H :
  ∃ b_ o_, a0_ = some ⟨b_, o_, none⟩ ∧
  ∃ x_ : Option Addr, cellsAt h b_ o_ [(Value.pointer x_)] ∧
  ∃ b_1 o_1, a1_ = some ⟨b_1, o_1, none⟩ ∧
  ∃ y_ : Int, cellsAt h b_1 o_1 [(Value.int .i64 y_)] ∧
  CallsH Try.prog 49 #[(Value.pointer x_), (Value.int .i64 y_), X_] h fun en_ hp_ =>
  en_ = .returned (Value.tuple #[]) ∧
  K u' hp_) :
  DefH Try.prog 56 #[(Value.pointer a0_), (Value.pointer a1_)] u h K := calls_vcRD fine Try.func56 (args := [(Value.pointer a0_), (Value.pointer a1_)]) hx (by kernel_rfl) (Eq.mpr (by kernel_rfl) H)
/-- (*turnout/pack.Writer).ready -/
def A57 : Ann := (.seq .nil (.seq (.join 2) .nil))
theorem V57 (w_ : Option Addr) (h : Hp) (R : Ending → Hp → Prop) (H :
  ∃ B_ : Bool, (∃ x4_, EqV Try.prog 25 (Value.pointer w_) (Value.pointer none) x4_ ∧
   (((!x4_) = true →
     ∃ b_ o_, w_ = some ⟨b_, o_, none⟩ ∧
     ∃ x9_ : Int, cellsAt h b_ (o_ + 1) [(Value.int .i64 x9_)] ∧
     h = h ∧ B_ = (decide (x9_ = (0 : Int)))) ∧
    ((!x4_) = false →
     h = h ∧ B_ = false))) ∧
  R (.returned (Value.bool B_)) h) :
  CallsH Try.prog 57 #[(Value.pointer w_)] h R := calls_vc fine false Try.func57 (ann := A57) (args := [(Value.pointer w_)]) (by kernel_rfl) (Eq.mpr (by kernel_rfl) H)
/-- turnout/pack.uint -/
def A58 : Ann := (.seq .nil (.seq (.block (.loop [(0, .slice), (1, (.int .u64))] (.seq (.seq .nil (.cond .nil .nil)) (.block (.seq .nil .nil))))) (.seq .nil .nil)))
theorem V58 (bp_ : Option Addr) (bn_ bc_ : Nat) (n_ : Int) (h : Hp) (R : Ending → Hp → Prop) (H :
  ∃ (Iv_ : List Value → Hp → Prop) (m_ : List Value → Hp → Nat), Iv_ [(Value.slice bp_ bn_ bc_), (Value.int .u64 n_)] h ∧
  (∀ (bp_1 : Option Addr) (bn_1 bc_1 : Nat) (n_1 : Int) hp_, Iv_ [(Value.slice bp_1 bn_1 bc_1), (Value.int .u64 n_1)] hp_ →
   (((decide ((128 : Int) ≤ n_1)) = true →
     ∃ x9_, IntKind.u8.wrap n_1 = x9_ ∧
     ∃ x10_, orI .u8 x9_ (128 : Int) = x10_ ∧
     SemH Try.prog (Instr.buildSlice 28 1 #[(0, (Value.int .u8 x10_))]) hp_ fun v_ hp_1 =>
     ∃ (x11p_ : Option Addr) (x11n_ x11c_ : Nat), v_ = (Value.slice x11p_ x11n_ x11c_) ∧
     SemH Try.prog (Builtin.append_ #[28, 28] 28 #[(Value.slice bp_1 bn_1 bc_1), (Value.slice x11p_ x11n_ x11c_)]) hp_1 fun v_1 hp_2 =>
     ∃ (x12p_ : Option Addr) (x12n_ x12c_ : Nat), v_1 = (Value.slice x12p_ x12n_ x12c_) ∧
     0 ≤ (7 : Int) ∧ ∃ x14_, shrI .u64 n_1 (7 : Int) = x14_ ∧
     (Iv_ [(Value.slice x12p_ x12n_ x12c_), (Value.int .u64 x14_)] hp_2 ∧ m_ [(Value.slice x12p_ x12n_ x12c_), (Value.int .u64 x14_)] hp_2 < m_ [(Value.slice bp_1 bn_1 bc_1), (Value.int .u64 n_1)] hp_)) ∧
    ((decide ((128 : Int) ≤ n_1)) = false →
     ∃ x17_, IntKind.u8.wrap n_1 = x17_ ∧
     SemH Try.prog (Instr.buildSlice 28 1 #[(0, (Value.int .u8 x17_))]) hp_ fun v_2 hp_3 =>
     ∃ (x18p_ : Option Addr) (x18n_ x18c_ : Nat), v_2 = (Value.slice x18p_ x18n_ x18c_) ∧
     SemH Try.prog (Builtin.append_ #[28, 28] 28 #[(Value.slice bp_1 bn_1 bc_1), (Value.slice x18p_ x18n_ x18c_)]) hp_3 fun v_3 hp_4 =>
     ∃ (x19p_ : Option Addr) (x19n_ x19c_ : Nat), v_3 = (Value.slice x19p_ x19n_ x19c_) ∧
     R (.returned (Value.slice x19p_ x19n_ x19c_)) hp_4)))) :
  CallsH Try.prog 58 #[(Value.slice bp_ bn_ bc_), (Value.int .u64 n_)] h R := calls_vc fine false Try.func58 (ann := A58) (args := [(Value.slice bp_ bn_ bc_), (Value.int .u64 n_)]) (by kernel_rfl) (Eq.mpr (by kernel_rfl) H)
/-- turnout/value.Bytes -/
def A59 : Ann := (.seq .nil (.seq (.block (.seq .nil (.cond (.seq .nil .nil) (.seq .nil (.cond (.seq .nil .nil) .nil))))) (.seq .nil (.seq (.seq .nil (.block (.loop [(23, (.int .i64))] (.seq .nil (.seq (.cond .nil .nil) (.seq (.block (.seq .nil .nil)) .nil)))))) (.seq .nil .nil)))))
theorem V59 (af0_ : Int) (af1_ : Int) (width_ : Int) (h : Hp) (R : Ending → Hp → Prop) (H :
  ∀ b_ hp_, b_ = Array.size h → hp_ = Array.push h (.cells #[(Value.int .u64 af0_), (Value.int .u64 af1_)] 34) →
  CallsH Try.prog 69 #[(Value.int .i64 width_)] hp_ fun en_ hp_1 =>
  ∃ x10_ : Bool, en_ = .returned (Value.bool x10_) ∧
  (((!x10_) = true →
    R (.returned (Value.tuple #[(Value.string (⟨#[]⟩ : ByteArray)), (Value.int .i64 (10 : Int))])) hp_1) ∧
   ((!x10_) = false →
    ∃ x13f0_ : Int, ∃ x13f1_ : Int, cellsAt hp_1 b_ 0 [(Value.int .u64 x13f0_), (Value.int .u64 x13f1_)] ∧
    CallsH Try.prog 71 #[(Value.agg #[(Value.int .u64 x13f0_), (Value.int .u64 x13f1_)]), (Value.int .i64 width_)] hp_1 fun en_1 hp_2 =>
    ∃ x15_ : Bool, en_1 = .returned (Value.bool x15_) ∧
    (((!x15_) = true →
      R (.returned (Value.tuple #[(Value.string (⟨#[]⟩ : ByteArray)), (Value.int .i64 (11 : Int))])) hp_2) ∧
     ((!x15_) = false →
      ∃ x18_, IntKind.i64.wrap (width_ + (7 : Int)) = x18_ ∧
      (8 : Int) ≠ 0 ∧ ∃ x19_, IntKind.i64.wrap (Int.tdiv x18_ (8 : Int)) = x19_ ∧
      SemH Try.prog (Instr.makeSlice 28 (Value.int .i64 x19_) (Value.int .i64 x19_)) hp_2 fun v_ hp_3 =>
      ∃ (x20p_ : Option Addr) (x20n_ x20c_ : Nat), v_ = (Value.slice x20p_ x20n_ x20c_) ∧
      ∃ (Iv_ : List Value → Hp → Prop) (m_ : List Value → Hp → Nat), Iv_ [(Value.int .i64 (0 : Int))] hp_3 ∧
      (∀ (x23_ : Int) hp_4, Iv_ [(Value.int .i64 x23_)] hp_4 →
       (((decide (x23_ < ((x20n_ : Nat) : Int))) = true →
         ∃ x29_, IntKind.i64.wrap (((x20n_ : Nat) : Int) - (1 : Int)) = x29_ ∧
         ∃ x31_, IntKind.i64.wrap (x29_ - x23_) = x31_ ∧
         ∃ x32f0_ : Int, ∃ x32f1_ : Int, cellsAt hp_4 b_ 0 [(Value.int .u64 x32f0_), (Value.int .u64 x32f1_)] ∧
         ∃ x34_, IntKind.i64.wrap ((8 : Int) * x23_) = x34_ ∧
         CallsH Try.prog 72 #[(Value.agg #[(Value.int .u64 x32f0_), (Value.int .u64 x32f1_)]), (Value.int .i64 x34_)] hp_4 fun en_2 hp_5 =>
         ∃ x35f0_ : Int, ∃ x35f1_ : Int, en_2 = .returned (Value.agg #[(Value.int .u64 x35f0_), (Value.int .u64 x35f1_)]) ∧
         ∃ x37_, IntKind.u8.wrap x35f1_ = x37_ ∧
         ∃ b_1 o_, x20p_ = some ⟨b_1, o_, none⟩ ∧ 0 ≤ x31_ ∧ x31_ < (x20n_ : Int) ∧
         Value.oneCell' (Value.int .u8 x37_) = true ∧ wrAt hp_5 b_1 (o_ + Int.toNat x31_ * 1) 1 ∧ ∀ hp_6, hp_6 = setsH hp_5 b_1 (o_ + Int.toNat x31_ * 1) [(Value.int .u8 x37_)] →
         ∃ x39_, IntKind.i64.wrap (x23_ + (1 : Int)) = x39_ ∧
         (Iv_ [(Value.int .i64 x39_)] hp_6 ∧ m_ [(Value.int .i64 x39_)] hp_6 < m_ [(Value.int .i64 x23_)] hp_4)) ∧
        ((decide (x23_ < ((x20n_ : Nat) : Int))) = false →
         SemH Try.prog (convert 28 9 (Value.slice x20p_ x20n_ x20c_)) hp_4 fun v_1 hp_7 =>
         ∃ x41_ : ByteArray, v_1 = (Value.string x41_) ∧
         R (.returned (Value.tuple #[(Value.string x41_), (Value.int .i64 (0 : Int))])) hp_7)))))))) :
  CallsH Try.prog 59 #[(Value.agg #[(Value.int .u64 af0_), (Value.int .u64 af1_)]), (Value.int .i64 width_)] h R := calls_vc fine false Try.func59 (ann := A59) (args := [(Value.agg #[(Value.int .u64 af0_), (Value.int .u64 af1_)]), (Value.int .i64 width_)]) (by kernel_rfl) (Eq.mpr (by kernel_rfl) H)
/-- (*turnout/turnoutref03.Writer).put -/
def A60 : Ann := (.seq (.seq .nil (.cond .nil .nil)) (.seq (.seq .nil (.cond (.seq .nil .nil) .nil)) .nil))
theorem V60 (w_ : Option Addr) (s_ : ByteArray) (ev_ : Int) (h : Hp) (R : Ending → Hp → Prop) (H :
  ∃ b_ o_, w_ = some ⟨b_, o_, none⟩ ∧
  ∃ x9_ : Int, cellsAt h b_ (o_ + 1) [(Value.int .i64 x9_)] ∧
  (((decide (x9_ ≠ (0 : Int))) = true →
    R (.returned (Value.tuple #[])) h) ∧
   ((decide (x9_ ≠ (0 : Int))) = false →
    (((decide (ev_ ≠ (0 : Int))) = true →
      ∃ b_1 o_1, w_ = some ⟨b_1, o_1, none⟩ ∧
      Value.oneCell' (Value.int .i64 ev_) = true ∧ wrAt h b_1 (o_1 + 1) 1 ∧ ∀ hp_, hp_ = setsH h b_1 (o_1 + 1) [(Value.int .i64 ev_)] →
      R (.returned (Value.tuple #[])) hp_) ∧
     ((decide (ev_ ≠ (0 : Int))) = false →
      ∃ b_2 o_2, w_ = some ⟨b_2, o_2, none⟩ ∧
      ∃ (x21p_ : Option Addr) (x21n_ x21c_ : Nat), cellsAt h b_2 (o_2 + 0) [(Value.slice x21p_ x21n_ x21c_)] ∧
      SemH Try.prog (Builtin.append_ #[28, 9] 28 #[(Value.slice x21p_ x21n_ x21c_), (Value.string s_)]) h fun v_ hp_1 =>
      ∃ (x23p_ : Option Addr) (x23n_ x23c_ : Nat), v_ = (Value.slice x23p_ x23n_ x23c_) ∧
      ∃ b_3 o_3, w_ = some ⟨b_3, o_3, none⟩ ∧
      Value.oneCell' (Value.slice x23p_ x23n_ x23c_) = true ∧ wrAt hp_1 b_3 (o_3 + 0) 1 ∧ ∀ hp_2, hp_2 = setsH hp_1 b_3 (o_3 + 0) [(Value.slice x23p_ x23n_ x23c_)] →
      R (.returned (Value.tuple #[])) hp_2))))) :
  CallsH Try.prog 60 #[(Value.pointer w_), (Value.string s_), (Value.int .i64 ev_)] h R := calls_vc fine false Try.func60 (ann := A60) (args := [(Value.pointer w_), (Value.string s_), (Value.int .i64 ev_)]) (by kernel_rfl) (Eq.mpr (by kernel_rfl) H)
/-- turnout/turnoutref03.UintBytes -/
def A61 : Ann := (.seq .nil (.seq (.seq .nil (.cond (.seq .nil .nil) .nil)) (.seq .nil (.seq .nil .nil))))
theorem V61 (n_ : Int) (h : Hp) (R : Ending → Hp → Prop) (H :
  (((decide (n_ < (128 : Int))) = true →
    ∃ x7_, IntKind.u8.wrap n_ = x7_ ∧
    SemH Try.prog (Instr.buildSlice 28 1 #[(0, (Value.int .u8 x7_))]) h fun v_ hp_ =>
    ∃ (x8p_ : Option Addr) (x8n_ x8c_ : Nat), v_ = (Value.slice x8p_ x8n_ x8c_) ∧
    SemH Try.prog (convert 28 9 (Value.slice x8p_ x8n_ x8c_)) hp_ fun v_1 hp_1 =>
    ∃ x9_ : ByteArray, v_1 = (Value.string x9_) ∧
    R (.returned (Value.string x9_)) hp_1) ∧
   ((decide (n_ < (128 : Int))) = false →
    (128 : Int) ≠ 0 ∧ ∃ x11_, IntKind.u64.wrap (Int.tdiv n_ (128 : Int)) = x11_ ∧
    CallsH Try.prog 61 #[(Value.int .u64 x11_)] h fun en_ hp_2 =>
    ∃ x12_ : ByteArray, en_ = .returned (Value.string x12_) ∧
    (128 : Int) ≠ 0 ∧ ∃ x14_, Int.tmod n_ (128 : Int) = x14_ ∧
    ∃ x15_, IntKind.u8.wrap x14_ = x15_ ∧
    ∃ x16_, IntKind.u8.wrap (x15_ + (128 : Int)) = x16_ ∧
    SemH Try.prog (Instr.buildSlice 28 1 #[(0, (Value.int .u8 x16_))]) hp_2 fun v_2 hp_3 =>
    ∃ (x17p_ : Option Addr) (x17n_ x17c_ : Nat), v_2 = (Value.slice x17p_ x17n_ x17c_) ∧
    SemH Try.prog (convert 28 9 (Value.slice x17p_ x17n_ x17c_)) hp_3 fun v_3 hp_4 =>
    ∃ x18_ : ByteArray, v_3 = (Value.string x18_) ∧
    ByteArray.size x18_ + ByteArray.size x12_ ≤ 9223372036854775807 ∧ ∃ x20_, x18_ ++ x12_ = x20_ ∧
    R (.returned (Value.string x20_)) hp_4))) :
  CallsH Try.prog 61 #[(Value.int .u64 n_)] h R := calls_vc fine false Try.func61 (ann := A61) (args := [(Value.int .u64 n_)]) (by kernel_rfl) (Eq.mpr (by kernel_rfl) H)
/-- turnout/turnoutref03.FixedBytes -/
def A62 : Ann := (.seq .nil (.cut (.seq (.join 13) (.cond (.seq .nil .nil) .nil)) [] (.seq .nil (.seq (.seq .nil (.block (.loop [(0, (.int .u64)), (6, .str), (7, (.int .i64))] (.seq (.seq .nil (.cond .nil .nil)) (.seq (.block (.seq .nil .nil)) .nil))))) (.seq (.seq .nil (.cond (.seq .nil .nil) .nil)) (.seq .nil .nil))))))
theorem V62 (n_ : Int) (bytes_ : Int) (h : Hp) (R : Ending → Hp → Prop) (H :
  ∃ Jv_ : List Value → Hp → Prop,
  (∃ B_ : Bool, ((((decide (bytes_ < (1 : Int))) = true →
      h = h ∧ B_ = true) ∧
     ((decide (bytes_ < (1 : Int))) = false →
      h = h ∧ B_ = (decide ((8 : Int) < bytes_))))) ∧
   ((B_ = true →
     R (.returned (Value.tuple #[(Value.string (⟨#[]⟩ : ByteArray)), (Value.int .i64 (1 : Int))])) h) ∧
    (B_ = false →
     Jv_ [] h))) ∧
  (∀  hp_, Jv_ [] hp_ →
   ∃ (Iv_ : List Value → Hp → Prop) (m_ : List Value → Hp → Nat), Iv_ [(Value.int .u64 n_), (Value.string (⟨#[]⟩ : ByteArray)), (Value.int .i64 (0 : Int))] hp_ ∧
   (∀ (n_1 : Int) (s_ : ByteArray) (i_ : Int) hp_1, Iv_ [(Value.int .u64 n_1), (Value.string s_), (Value.int .i64 i_)] hp_1 →
    (((decide (i_ < bytes_)) = true →
      (256 : Int) ≠ 0 ∧ ∃ x20_, Int.tmod n_1 (256 : Int) = x20_ ∧
      ∃ x21_, IntKind.u8.wrap x20_ = x21_ ∧
      SemH Try.prog (Instr.buildSlice 28 1 #[(0, (Value.int .u8 x21_))]) hp_1 fun v_ hp_2 =>
      ∃ (x22p_ : Option Addr) (x22n_ x22c_ : Nat), v_ = (Value.slice x22p_ x22n_ x22c_) ∧
      SemH Try.prog (convert 28 9 (Value.slice x22p_ x22n_ x22c_)) hp_2 fun v_1 hp_3 =>
      ∃ x23_ : ByteArray, v_1 = (Value.string x23_) ∧
      ByteArray.size x23_ + ByteArray.size s_ ≤ 9223372036854775807 ∧ ∃ x25_, x23_ ++ s_ = x25_ ∧
      (256 : Int) ≠ 0 ∧ ∃ x27_, IntKind.u64.wrap (Int.tdiv n_1 (256 : Int)) = x27_ ∧
      ∃ x18_, IntKind.i64.wrap (i_ + (1 : Int)) = x18_ ∧
      (Iv_ [(Value.int .u64 x27_), (Value.string x25_), (Value.int .i64 x18_)] hp_3 ∧ m_ [(Value.int .u64 x27_), (Value.string x25_), (Value.int .i64 x18_)] hp_3 < m_ [(Value.int .u64 n_1), (Value.string s_), (Value.int .i64 i_)] hp_1)) ∧
     ((decide (i_ < bytes_)) = false →
      (((decide ((0 : Int) < n_1)) = true →
        R (.returned (Value.tuple #[(Value.string (⟨#[]⟩ : ByteArray)), (Value.int .i64 (11 : Int))])) hp_1) ∧
       ((decide ((0 : Int) < n_1)) = false →
        R (.returned (Value.tuple #[(Value.string s_), (Value.int .i64 (0 : Int))])) hp_1))))))) :
  CallsH Try.prog 62 #[(Value.int .u64 n_), (Value.int .i64 bytes_)] h R := calls_vc fine false Try.func62 (ann := A62) (args := [(Value.int .u64 n_), (Value.int .i64 bytes_)]) (by kernel_rfl) (Eq.mpr (by kernel_rfl) H)
/-- turnout/turnoutref01.Bytes -/
def A63 : Ann := (.seq .nil (.seq (.seq .nil (.cond (.seq .nil .nil) .nil)) (.seq (.seq .nil (.cond (.seq .nil .nil) .nil)) (.seq .nil (.seq .nil (.seq (.seq .nil (.block (.loop [(7, .slice), (8, (.int .i64))] (.seq (.seq .nil (.cond .nil .nil)) (.seq (.block (.seq .nil (.cut (.seq .nil (.cond .nil .nil)) [(9, (.int .u64))] .nil))) .nil))))) (.seq .nil .nil)))))))
theorem V63 (af0_ : Int) (af1_ : Int) (width_ : Int) (h : Hp) (R : Ending → Hp → Prop) (H :
  ∀ b_ hp_, b_ = Array.size h → hp_ = Array.push h (.cells #[(Value.int .u64 af0_), (Value.int .u64 af1_)] 34) →
  CallsH Try.prog 66 #[(Value.int .i64 width_)] hp_ fun en_ hp_1 =>
  ∃ x11_ : Bool, en_ = .returned (Value.bool x11_) ∧
  (((!x11_) = true →
    R (.returned (Value.tuple #[(Value.string (⟨#[]⟩ : ByteArray)), (Value.int .i64 (10 : Int))])) hp_1) ∧
   ((!x11_) = false →
    ∃ x13f0_ : Int, ∃ x13f1_ : Int, cellsAt hp_1 b_ 0 [(Value.int .u64 x13f0_), (Value.int .u64 x13f1_)] ∧
    CallsH Try.prog 73 #[(Value.agg #[(Value.int .u64 x13f0_), (Value.int .u64 x13f1_)]), (Value.int .i64 width_)] hp_1 fun en_1 hp_2 =>
    ∃ x15_ : Bool, en_1 = .returned (Value.bool x15_) ∧
    (((!x15_) = true →
      R (.returned (Value.tuple #[(Value.string (⟨#[]⟩ : ByteArray)), (Value.int .i64 (11 : Int))])) hp_2) ∧
     ((!x15_) = false →
      CallsH Try.prog 67 #[(Value.int .i64 width_)] hp_2 fun en_2 hp_3 =>
      ∃ x18_ : Int, en_2 = .returned (Value.int .i64 x18_) ∧
      ∃ x20_, IntKind.i64.wrap (x18_ - (1 : Int)) = x20_ ∧
      ∃ (Iv_ : List Value → Hp → Prop) (m_ : List Value → Hp → Nat), Iv_ [(Value.slice none 0 0), (Value.int .i64 x20_)] hp_3 ∧
      (∀ (outp_ : Option Addr) (outn_ outc_ : Nat) (i_ : Int) hp_4, Iv_ [(Value.slice outp_ outn_ outc_), (Value.int .i64 i_)] hp_4 →
       (((decide ((0 : Int) ≤ i_)) = true →
         ∃ x26_ : Int, cellsAt hp_4 b_ (0 + 1) [(Value.int .u64 x26_)] ∧
         ∃ Jv_ : List Value → Hp → Prop,
         ((((decide ((8 : Int) ≤ i_)) = true →
            ∃ x30_ : Int, cellsAt hp_4 b_ (0 + 0) [(Value.int .u64 x30_)] ∧
            Jv_ [(Value.int .u64 x30_)] hp_4) ∧
           ((decide ((8 : Int) ≤ i_)) = false →
            Jv_ [(Value.int .u64 x26_)] hp_4))) ∧
         (∀ (c_ : Int) hp_5, Jv_ [(Value.int .u64 c_)] hp_5 →
          (8 : Int) ≠ 0 ∧ ∃ x34_, Int.tmod i_ (8 : Int) = x34_ ∧
          ∃ x35_, IntKind.i64.wrap ((8 : Int) * x34_) = x35_ ∧
          ∃ x36_, IntKind.u64.wrap x35_ = x36_ ∧
          0 ≤ x36_ ∧ ∃ x37_, shrI .u64 c_ x36_ = x37_ ∧
          (256 : Int) ≠ 0 ∧ ∃ x38_, Int.tmod x37_ (256 : Int) = x38_ ∧
          ∃ x39_, IntKind.u8.wrap x38_ = x39_ ∧
          SemH Try.prog (Instr.buildSlice 28 1 #[(0, (Value.int .u8 x39_))]) hp_5 fun v_ hp_6 =>
          ∃ (x40p_ : Option Addr) (x40n_ x40c_ : Nat), v_ = (Value.slice x40p_ x40n_ x40c_) ∧
          SemH Try.prog (Builtin.append_ #[28, 28] 28 #[(Value.slice outp_ outn_ outc_), (Value.slice x40p_ x40n_ x40c_)]) hp_6 fun v_1 hp_7 =>
          ∃ (x41p_ : Option Addr) (x41n_ x41c_ : Nat), v_1 = (Value.slice x41p_ x41n_ x41c_) ∧
          ∃ x24_, IntKind.i64.wrap (i_ - (1 : Int)) = x24_ ∧
          (Iv_ [(Value.slice x41p_ x41n_ x41c_), (Value.int .i64 x24_)] hp_7 ∧ m_ [(Value.slice x41p_ x41n_ x41c_), (Value.int .i64 x24_)] hp_7 < m_ [(Value.slice outp_ outn_ outc_), (Value.int .i64 i_)] hp_4))) ∧
        ((decide ((0 : Int) ≤ i_)) = false →
         SemH Try.prog (convert 28 9 (Value.slice outp_ outn_ outc_)) hp_4 fun v_2 hp_8 =>
         ∃ x43_ : ByteArray, v_2 = (Value.string x43_) ∧
         R (.returned (Value.tuple #[(Value.string x43_), (Value.int .i64 (0 : Int))])) hp_8)))))))) :
  CallsH Try.prog 63 #[(Value.agg #[(Value.int .u64 af0_), (Value.int .u64 af1_)]), (Value.int .i64 width_)] h R := calls_vc fine false Try.func63 (ann := A63) (args := [(Value.agg #[(Value.int .u64 af0_), (Value.int .u64 af1_)]), (Value.int .i64 width_)]) (by kernel_rfl) (Eq.mpr (by kernel_rfl) H)
/-- turnout/turnoutref03.number -/
def A64 : Ann := (.seq .nil (.seq .nil (.cut (.seq .nil (.block (.loop [(9, (.int .i64)), (10, (.int .i64))] (.cut (.seq (.join 26) (.cond .nil .nil)) [] (.seq (.block (.seq .nil (.cond .nil .nil))) .nil))))) [(9, (.int .i64))] (.cut (.seq (.join 44) (.cond (.seq .nil .nil) .nil)) [] (.cut (.seq (.join 70) (.cond (.seq .nil .nil) .nil)) [] (.seq .nil (.seq (.seq .nil (.block (.loop [(11, (.int .u64)), (12, (.int .i64))] (.seq (.seq .nil (.cond .nil .nil)) (.seq (.block .nil) .nil))))) (.seq (.seq .nil (.cond (.seq .nil .nil) .nil)) (.seq .nil .nil)))))))))
theorem V64 (b_ : ByteArray) (atv_ : Int) (most_ : Int) (h : Hp) (R : Ending → Hp → Prop) (H :
  ∃ Jv_ : List Value → Hp → Prop,
  (∃ (Iv_ : List Value → Hp → Prop) (m_ : List Value → Hp → Nat), Iv_ [(Value.int .i64 (-1 : Int)), (Value.int .i64 (0 : Int))] h ∧
   (∀ (last_ : Int) (i_ : Int) hp_, Iv_ [(Value.int .i64 last_), (Value.int .i64 i_)] hp_ →
    ∃ Jv_1 : List Value → Hp → Prop,
    (∃ B_ : Bool, ((((decide (i_ < (10 : Int))) = true →
        ∃ x18_, IntKind.i64.wrap (atv_ + i_) = x18_ ∧
        (((decide (x18_ < (ByteArray.size b_ : Int))) = true →
          hp_ = hp_ ∧ B_ = (decide (last_ < (0 : Int)))) ∧
         ((decide (x18_ < (ByteArray.size b_ : Int))) = false →
          hp_ = hp_ ∧ B_ = false))) ∧
       ((decide (i_ < (10 : Int))) = false →
        hp_ = hp_ ∧ B_ = false))) ∧
     ((B_ = true →
       Jv_1 [] hp_) ∧
      (B_ = false →
       Jv_ [(Value.int .i64 last_)] hp_))) ∧
    (∀  hp_1, Jv_1 [] hp_1 →
     ∃ x32_, IntKind.i64.wrap (atv_ + i_) = x32_ ∧
     0 ≤ x32_ ∧ ∃ x33_ : UInt8, b_[Int.toNat x32_]? = some x33_ ∧
     (((decide ((x33_.toNat : Int) < (128 : Int))) = true →
       ∃ x28_, IntKind.i64.wrap (i_ + (1 : Int)) = x28_ ∧
       (Iv_ [(Value.int .i64 i_), (Value.int .i64 x28_)] hp_1 ∧ m_ [(Value.int .i64 i_), (Value.int .i64 x28_)] hp_1 < m_ [(Value.int .i64 last_), (Value.int .i64 i_)] hp_)) ∧
      ((decide ((x33_.toNat : Int) < (128 : Int))) = false →
       ∃ x28_1, IntKind.i64.wrap (i_ + (1 : Int)) = x28_1 ∧
       (Iv_ [(Value.int .i64 last_), (Value.int .i64 x28_1)] hp_1 ∧ m_ [(Value.int .i64 last_), (Value.int .i64 x28_1)] hp_1 < m_ [(Value.int .i64 last_), (Value.int .i64 i_)] hp_)))))) ∧
  (∀ (last_1 : Int) hp_2, Jv_ [(Value.int .i64 last_1)] hp_2 →
   ∃ Jv_2 : List Value → Hp → Prop,
   (∃ B_1 : Bool, ((((decide (last_1 < (0 : Int))) = true →
       ∃ x42_, IntKind.i64.wrap ((ByteArray.size b_ : Int) - atv_) = x42_ ∧
       hp_2 = hp_2 ∧ B_1 = (decide (x42_ < (10 : Int)))) ∧
      ((decide (last_1 < (0 : Int))) = false →
       hp_2 = hp_2 ∧ B_1 = false))) ∧
    ((B_1 = true →
      R (.returned (Value.tuple #[(Value.int .u64 (0 : Int)), (Value.int .i64 atv_), (Value.int .i64 (3 : Int))])) hp_2) ∧
     (B_1 = false →
      Jv_2 [] hp_2))) ∧
   (∀  hp_3, Jv_2 [] hp_3 →
    ∃ Jv_3 : List Value → Hp → Prop,
    (∃ B_2 : Bool, ((((decide (last_1 < (0 : Int))) = true →
        hp_3 = hp_3 ∧ B_2 = true) ∧
       ((decide (last_1 < (0 : Int))) = false →
        ∃ x52_, IntKind.i64.wrap (atv_ + last_1) = x52_ ∧
        0 ≤ x52_ ∧ ∃ x53_ : UInt8, b_[Int.toNat x52_]? = some x53_ ∧
        (((decide ((x53_.toNat : Int) = (0 : Int))) = true →
          (((decide ((0 : Int) < last_1)) = true →
            hp_3 = hp_3 ∧ B_2 = true) ∧
           ((decide ((0 : Int) < last_1)) = false →
            (((decide (last_1 = (9 : Int))) = true →
              ∃ x66_, IntKind.i64.wrap (atv_ + (9 : Int)) = x66_ ∧
              0 ≤ x66_ ∧ ∃ x67_ : UInt8, b_[Int.toNat x66_]? = some x67_ ∧
              hp_3 = hp_3 ∧ B_2 = (decide ((1 : Int) < (x67_.toNat : Int)))) ∧
             ((decide (last_1 = (9 : Int))) = false →
              hp_3 = hp_3 ∧ B_2 = false))))) ∧
         ((decide ((x53_.toNat : Int) = (0 : Int))) = false →
          (((decide (last_1 = (9 : Int))) = true →
            ∃ x66_1, IntKind.i64.wrap (atv_ + (9 : Int)) = x66_1 ∧
            0 ≤ x66_1 ∧ ∃ x67_1 : UInt8, b_[Int.toNat x66_1]? = some x67_1 ∧
            hp_3 = hp_3 ∧ B_2 = (decide ((1 : Int) < (x67_1.toNat : Int)))) ∧
           ((decide (last_1 = (9 : Int))) = false →
            hp_3 = hp_3 ∧ B_2 = false))))))) ∧
     ((B_2 = true →
       R (.returned (Value.tuple #[(Value.int .u64 (0 : Int)), (Value.int .i64 atv_), (Value.int .i64 (30 : Int))])) hp_3) ∧
      (B_2 = false →
       Jv_3 [] hp_3))) ∧
    (∀  hp_4, Jv_3 [] hp_4 →
     ∃ (Iv_1 : List Value → Hp → Prop) (m_1 : List Value → Hp → Nat), Iv_1 [(Value.int .u64 (0 : Int)), (Value.int .i64 last_1)] hp_4 ∧
     (∀ (n_ : Int) (i_1 : Int) hp_5, Iv_1 [(Value.int .u64 n_), (Value.int .i64 i_1)] hp_5 →
      (((decide ((0 : Int) ≤ i_1)) = true →
        ∃ x78_, IntKind.u64.wrap (n_ * (128 : Int)) = x78_ ∧
        ∃ x82_, IntKind.i64.wrap (atv_ + i_1) = x82_ ∧
        0 ≤ x82_ ∧ ∃ x83_ : UInt8, b_[Int.toNat x82_]? = some x83_ ∧
        (128 : Int) ≠ 0 ∧ ∃ x84_, Int.tmod (x83_.toNat : Int) (128 : Int) = x84_ ∧
        ∃ x85_, IntKind.u64.wrap x84_ = x85_ ∧
        ∃ x86_, IntKind.u64.wrap (x78_ + x85_) = x86_ ∧
        ∃ x76_, IntKind.i64.wrap (i_1 - (1 : Int)) = x76_ ∧
        (Iv_1 [(Value.int .u64 x86_), (Value.int .i64 x76_)] hp_5 ∧ m_1 [(Value.int .u64 x86_), (Value.int .i64 x76_)] hp_5 < m_1 [(Value.int .u64 n_), (Value.int .i64 i_1)] hp_5)) ∧
       ((decide ((0 : Int) ≤ i_1)) = false →
        (((decide (most_ < n_)) = true →
          R (.returned (Value.tuple #[(Value.int .u64 (0 : Int)), (Value.int .i64 atv_), (Value.int .i64 (2 : Int))])) hp_5) ∧
         ((decide (most_ < n_)) = false →
          ∃ x94_, IntKind.i64.wrap (atv_ + last_1) = x94_ ∧
          ∃ x95_, IntKind.i64.wrap (x94_ + (1 : Int)) = x95_ ∧
          R (.returned (Value.tuple #[(Value.int .u64 n_), (Value.int .i64 x95_), (Value.int .i64 (0 : Int))])) hp_5))))))))) :
  CallsH Try.prog 64 #[(Value.string b_), (Value.int .i64 atv_), (Value.int .u64 most_)] h R := calls_vc fine false Try.func64 (ann := A64) (args := [(Value.string b_), (Value.int .i64 atv_), (Value.int .u64 most_)]) (by kernel_rfl) (Eq.mpr (by kernel_rfl) H)
/-- (*turnout/turnoutref03.Reader).bad -/
def A65 : Ann := (.seq .nil (.cond (.seq .nil .nil) .nil))
theorem V65 (r_ : Option Addr) (ev_ : Int) (h : Hp) (R : Ending → Hp → Prop) (H :
  ∃ b_ o_, r_ = some ⟨b_, o_, none⟩ ∧
  ∃ x7_ : Int, cellsAt h b_ (o_ + 2) [(Value.int .i64 x7_)] ∧
  (((decide (x7_ = (0 : Int))) = true →
    ∃ b_1 o_1, r_ = some ⟨b_1, o_1, none⟩ ∧
    Value.oneCell' (Value.int .i64 ev_) = true ∧ wrAt h b_1 (o_1 + 2) 1 ∧ ∀ hp_, hp_ = setsH h b_1 (o_1 + 2) [(Value.int .i64 ev_)] →
    ∃ b_2 o_2, r_ = some ⟨b_2, o_2, none⟩ ∧
    ∃ x17_ : Int, cellsAt hp_ b_2 (o_2 + 1) [(Value.int .i64 x17_)] ∧
    ∃ b_3 o_3, r_ = some ⟨b_3, o_3, none⟩ ∧
    Value.oneCell' (Value.int .i64 x17_) = true ∧ wrAt hp_ b_3 (o_3 + 3) 1 ∧ ∀ hp_1, hp_1 = setsH hp_ b_3 (o_3 + 3) [(Value.int .i64 x17_)] →
    R (.returned (Value.tuple #[])) hp_1) ∧
   ((decide (x7_ = (0 : Int))) = false →
    R (.returned (Value.tuple #[])) h))) :
  CallsH Try.prog 65 #[(Value.pointer r_), (Value.int .i64 ev_)] h R := calls_vc fine false Try.func65 (ann := A65) (args := [(Value.pointer r_), (Value.int .i64 ev_)]) (by kernel_rfl) (Eq.mpr (by kernel_rfl) H)
/-- turnout/turnoutref01.Width -/
def A66 : Ann := (.seq .nil (.seq (.join 2) .nil))
theorem V66 (width_ : Int) (h : Hp) (R : Ending → Hp → Prop) (H :
  ∃ B_ : Bool, ((((decide ((1 : Int) ≤ width_)) = true →
     h = h ∧ B_ = (decide (width_ ≤ (128 : Int)))) ∧
    ((decide ((1 : Int) ≤ width_)) = false →
     h = h ∧ B_ = false))) ∧
  R (.returned (Value.bool B_)) h) :
  CallsH Try.prog 66 #[(Value.int .i64 width_)] h R := calls_vc fine false Try.func66 (ann := A66) (args := [(Value.int .i64 width_)]) (by kernel_rfl) (Eq.mpr (by kernel_rfl) H)
/-- turnout/turnoutref01.Long -/
def A67 : Ann := (.seq .nil (.seq .nil .nil))
theorem V67 (width_ : Int) (h : Hp) (R : Ending → Hp → Prop) (H :
  ∃ x4_, IntKind.i64.wrap (width_ + (7 : Int)) = x4_ ∧
  (8 : Int) ≠ 0 ∧ ∃ x5_, IntKind.i64.wrap (Int.tdiv x4_ (8 : Int)) = x5_ ∧
  R (.returned (Value.int .i64 x5_)) h) :
  CallsH Try.prog 67 #[(Value.int .i64 width_)] h R := calls_vc fine false Try.func67 (ann := A67) (args := [(Value.int .i64 width_)]) (by kernel_rfl) (Eq.mpr (by kernel_rfl) H)
/-- turnout/turnoutref01.From -/
def A68 : Ann := (.seq .nil (.seq (.seq .nil (.cond (.seq .nil .nil) .nil)) (.seq (.seq .nil (.cond (.seq .nil .nil) .nil)) (.seq .nil (.seq (.seq .nil (.block (.loop [(7, (.int .i64))] (.seq (.seq .nil (.cond .nil .nil)) (.seq (.block .nil) .nil))))) (.seq (.seq .nil (.cond (.seq .nil .nil) .nil)) (.seq .nil .nil)))))))
theorem V68 (b_ : ByteArray) (width_ : Int) (h : Hp) (R : Ending → Hp → Prop) (H :
  ∀ b_1 hp_, b_1 = Array.size h → hp_ = Array.push h (.cells (zeros Try.prog 34) 34) → (∃ i z, Try.prog.info? 34 = some i ∧ i.zero = some z) ∧
  CallsH Try.prog 66 #[(Value.int .i64 width_)] hp_ fun en_ hp_1 =>
  ∃ x9_ : Bool, en_ = .returned (Value.bool x9_) ∧
  (((!x9_) = true →
    List.length [(Value.int .u64 (0 : Int)), (Value.int .u64 (0 : Int))] = 2 ∧ (∀ c ∈ [(Value.int .u64 (0 : Int)), (Value.int .u64 (0 : Int))], c.oneCell' = true) ∧ wrAt hp_1 b_1 0 2 ∧ ∀ hp_2, hp_2 = setsH hp_1 b_1 0 [(Value.int .u64 (0 : Int)), (Value.int .u64 (0 : Int))] →
    ∃ resf0_ : Int, ∃ resf1_ : Int, cellsAt hp_2 b_1 0 [(Value.int .u64 resf0_), (Value.int .u64 resf1_)] ∧
    R (.returned (Value.tuple #[(Value.agg #[(Value.int .u64 resf0_), (Value.int .u64 resf1_)]), (Value.int .i64 (10 : Int))])) hp_2) ∧
   ((!x9_) = false →
    CallsH Try.prog 67 #[(Value.int .i64 width_)] hp_1 fun en_1 hp_3 =>
    ∃ x15_ : Int, en_1 = .returned (Value.int .i64 x15_) ∧
    (((decide ((ByteArray.size b_ : Int) ≠ x15_)) = true →
      List.length [(Value.int .u64 (0 : Int)), (Value.int .u64 (0 : Int))] = 2 ∧ (∀ c ∈ [(Value.int .u64 (0 : Int)), (Value.int .u64 (0 : Int))], c.oneCell' = true) ∧ wrAt hp_3 b_1 0 2 ∧ ∀ hp_4, hp_4 = setsH hp_3 b_1 0 [(Value.int .u64 (0 : Int)), (Value.int .u64 (0 : Int))] →
      ∃ resf0_1 : Int, ∃ resf1_1 : Int, cellsAt hp_4 b_1 0 [(Value.int .u64 resf0_1), (Value.int .u64 resf1_1)] ∧
      R (.returned (Value.tuple #[(Value.agg #[(Value.int .u64 resf0_1), (Value.int .u64 resf1_1)]), (Value.int .i64 (12 : Int))])) hp_4) ∧
     ((decide ((ByteArray.size b_ : Int) ≠ x15_)) = false →
      ∀ b_2 hp_5, b_2 = Array.size hp_3 → hp_5 = Array.push hp_3 (.cells (zeros Try.prog 34) 34) → (∃ i z, Try.prog.info? 34 = some i ∧ i.zero = some z) ∧
      List.length [(Value.int .u64 (0 : Int)), (Value.int .u64 (0 : Int))] = 2 ∧ (∀ c ∈ [(Value.int .u64 (0 : Int)), (Value.int .u64 (0 : Int))], c.oneCell' = true) ∧ wrAt hp_5 b_2 0 2 ∧ ∀ hp_6, hp_6 = setsH hp_5 b_2 0 [(Value.int .u64 (0 : Int)), (Value.int .u64 (0 : Int))] →
      ∃ (Iv_ : List Value → Hp → Prop) (m_ : List Value → Hp → Nat), Iv_ [(Value.int .i64 (0 : Int))] hp_6 ∧
      (∀ (i_ : Int) hp_7, Iv_ [(Value.int .i64 i_)] hp_7 →
       (((decide (i_ < (ByteArray.size b_ : Int))) = true →
         ∃ x25f0_ : Int, ∃ x25f1_ : Int, cellsAt hp_7 b_2 0 [(Value.int .u64 x25f0_), (Value.int .u64 x25f1_)] ∧
         0 ≤ i_ ∧ ∃ x28_ : UInt8, b_[Int.toNat i_]? = some x28_ ∧
         ∃ x29_, IntKind.i64.wrap (x28_.toNat : Int) = x29_ ∧
         CallsH Try.prog 74 #[(Value.agg #[(Value.int .u64 x25f0_), (Value.int .u64 x25f1_)]), (Value.int .i64 (256 : Int)), (Value.int .i64 x29_)] hp_7 fun en_2 hp_8 =>
         ∃ x30f0_ : Int, ∃ x30f1_ : Int, en_2 = .returned (Value.agg #[(Value.int .u64 x30f0_), (Value.int .u64 x30f1_)]) ∧
         List.length [(Value.int .u64 x30f0_), (Value.int .u64 x30f1_)] = 2 ∧ (∀ c ∈ [(Value.int .u64 x30f0_), (Value.int .u64 x30f1_)], c.oneCell' = true) ∧ wrAt hp_8 b_2 0 2 ∧ ∀ hp_9, hp_9 = setsH hp_8 b_2 0 [(Value.int .u64 x30f0_), (Value.int .u64 x30f1_)] →
         ∃ x24_, IntKind.i64.wrap (i_ + (1 : Int)) = x24_ ∧
         (Iv_ [(Value.int .i64 x24_)] hp_9 ∧ m_ [(Value.int .i64 x24_)] hp_9 < m_ [(Value.int .i64 i_)] hp_7)) ∧
        ((decide (i_ < (ByteArray.size b_ : Int))) = false →
         ∃ x31f0_ : Int, ∃ x31f1_ : Int, cellsAt hp_7 b_2 0 [(Value.int .u64 x31f0_), (Value.int .u64 x31f1_)] ∧
         CallsH Try.prog 73 #[(Value.agg #[(Value.int .u64 x31f0_), (Value.int .u64 x31f1_)]), (Value.int .i64 width_)] hp_7 fun en_3 hp_10 =>
         ∃ x33_ : Bool, en_3 = .returned (Value.bool x33_) ∧
         (((!x33_) = true →
           List.length [(Value.int .u64 (0 : Int)), (Value.int .u64 (0 : Int))] = 2 ∧ (∀ c ∈ [(Value.int .u64 (0 : Int)), (Value.int .u64 (0 : Int))], c.oneCell' = true) ∧ wrAt hp_10 b_1 0 2 ∧ ∀ hp_11, hp_11 = setsH hp_10 b_1 0 [(Value.int .u64 (0 : Int)), (Value.int .u64 (0 : Int))] →
           ∃ resf0_2 : Int, ∃ resf1_2 : Int, cellsAt hp_11 b_1 0 [(Value.int .u64 resf0_2), (Value.int .u64 resf1_2)] ∧
           R (.returned (Value.tuple #[(Value.agg #[(Value.int .u64 resf0_2), (Value.int .u64 resf1_2)]), (Value.int .i64 (11 : Int))])) hp_11) ∧
          ((!x33_) = false →
           ∃ x36f0_ : Int, ∃ x36f1_ : Int, cellsAt hp_10 b_2 0 [(Value.int .u64 x36f0_), (Value.int .u64 x36f1_)] ∧
           List.length [(Value.int .u64 x36f0_), (Value.int .u64 x36f1_)] = 2 ∧ (∀ c ∈ [(Value.int .u64 x36f0_), (Value.int .u64 x36f1_)], c.oneCell' = true) ∧ wrAt hp_10 b_1 0 2 ∧ ∀ hp_12, hp_12 = setsH hp_10 b_1 0 [(Value.int .u64 x36f0_), (Value.int .u64 x36f1_)] →
           ∃ resf0_3 : Int, ∃ resf1_3 : Int, cellsAt hp_12 b_1 0 [(Value.int .u64 resf0_3), (Value.int .u64 resf1_3)] ∧
           R (.returned (Value.tuple #[(Value.agg #[(Value.int .u64 resf0_3), (Value.int .u64 resf1_3)]), (Value.int .i64 (0 : Int))])) hp_12)))))))))) :
  CallsH Try.prog 68 #[(Value.string b_), (Value.int .i64 width_)] h R := calls_vc fine false Try.func68 (ann := A68) (args := [(Value.string b_), (Value.int .i64 width_)]) (by kernel_rfl) (Eq.mpr (by kernel_rfl) H)
/-- turnout/value.isWidth -/
def A69 : Ann := (.seq .nil (.seq (.join 2) .nil))
theorem V69 (width_ : Int) (h : Hp) (R : Ending → Hp → Prop) (H :
  ∃ B_ : Bool, ((((decide ((1 : Int) ≤ width_)) = true →
     h = h ∧ B_ = (decide (width_ ≤ (128 : Int)))) ∧
    ((decide ((1 : Int) ≤ width_)) = false →
     h = h ∧ B_ = false))) ∧
  R (.returned (Value.bool B_)) h) :
  CallsH Try.prog 69 #[(Value.int .i64 width_)] h R := calls_vc fine false Try.func69 (ann := A69) (args := [(Value.int .i64 width_)]) (by kernel_rfl) (Eq.mpr (by kernel_rfl) H)
/-- turnout/value.left -/
def A70 : Ann := (.seq .nil (.seq (.seq .nil (.cond (.seq .nil .nil) .nil)) (.seq .nil .nil)))
theorem V70 (af0_ : Int) (af1_ : Int) (n_ : Int) (h : Hp) (R : Ending → Hp → Prop) (H :
  ∀ b_ hp_, b_ = Array.size h → hp_ = Array.push h (.cells #[(Value.int .u64 af0_), (Value.int .u64 af1_)] 34) →
  ∀ b_1 hp_1, b_1 = Array.size hp_ → hp_1 = Array.push hp_ (.cells (zeros Try.prog 34) 34) → (∃ i z, Try.prog.info? 34 = some i ∧ i.zero = some z) ∧
  (((decide ((64 : Int) ≤ n_)) = true →
    ∃ x8_ : Int, cellsAt hp_1 b_ (0 + 1) [(Value.int .u64 x8_)] ∧
    ∃ x10_, IntKind.i64.wrap (n_ - (64 : Int)) = x10_ ∧
    0 ≤ x10_ ∧ ∃ x11_, shlI .u64 x8_ x10_ = x11_ ∧
    List.length [(Value.int .u64 x11_), (Value.int .u64 (0 : Int))] = 2 ∧ (∀ c ∈ [(Value.int .u64 x11_), (Value.int .u64 (0 : Int))], c.oneCell' = true) ∧ wrAt hp_1 b_1 0 2 ∧ ∀ hp_2, hp_2 = setsH hp_1 b_1 0 [(Value.int .u64 x11_), (Value.int .u64 (0 : Int))] →
    ∃ resf0_ : Int, ∃ resf1_ : Int, cellsAt hp_2 b_1 0 [(Value.int .u64 resf0_), (Value.int .u64 resf1_)] ∧
    R (.returned (Value.agg #[(Value.int .u64 resf0_), (Value.int .u64 resf1_)])) hp_2) ∧
   ((decide ((64 : Int) ≤ n_)) = false →
    ∃ x14_ : Int, cellsAt hp_1 b_ (0 + 0) [(Value.int .u64 x14_)] ∧
    0 ≤ n_ ∧ ∃ x16_, shlI .u64 x14_ n_ = x16_ ∧
    ∃ x18_ : Int, cellsAt hp_1 b_ (0 + 1) [(Value.int .u64 x18_)] ∧
    ∃ x20_, IntKind.i64.wrap ((64 : Int) - n_) = x20_ ∧
    0 ≤ x20_ ∧ ∃ x21_, shrI .u64 x18_ x20_ = x21_ ∧
    ∃ x22_, orI .u64 x16_ x21_ = x22_ ∧
    ∃ x24_ : Int, cellsAt hp_1 b_ (0 + 1) [(Value.int .u64 x24_)] ∧
    0 ≤ n_ ∧ ∃ x26_, shlI .u64 x24_ n_ = x26_ ∧
    List.length [(Value.int .u64 x22_), (Value.int .u64 x26_)] = 2 ∧ (∀ c ∈ [(Value.int .u64 x22_), (Value.int .u64 x26_)], c.oneCell' = true) ∧ wrAt hp_1 b_1 0 2 ∧ ∀ hp_3, hp_3 = setsH hp_1 b_1 0 [(Value.int .u64 x22_), (Value.int .u64 x26_)] →
    ∃ resf0_1 : Int, ∃ resf1_1 : Int, cellsAt hp_3 b_1 0 [(Value.int .u64 resf0_1), (Value.int .u64 resf1_1)] ∧
    R (.returned (Value.agg #[(Value.int .u64 resf0_1), (Value.int .u64 resf1_1)])) hp_3))) :
  CallsH Try.prog 70 #[(Value.agg #[(Value.int .u64 af0_), (Value.int .u64 af1_)]), (Value.int .i64 n_)] h R := calls_vc fine false Try.func70 (ann := A70) (args := [(Value.agg #[(Value.int .u64 af0_), (Value.int .u64 af1_)]), (Value.int .i64 n_)]) (by kernel_rfl) (Eq.mpr (by kernel_rfl) H)
/-- turnout/value.Fits -/
def A71 : Ann := (.seq .nil (.seq .nil .nil))
theorem V71 (af0_ : Int) (af1_ : Int) (width_ : Int) (h : Hp) (R : Ending → Hp → Prop) (H :
  ∀ b_ hp_, b_ = Array.size h → hp_ = Array.push h (.cells #[(Value.int .u64 af0_), (Value.int .u64 af1_)] 34) →
  CallsH Try.prog 69 #[(Value.int .i64 width_)] hp_ fun en_ hp_1 =>
  ∃ x6_ : Bool, en_ = .returned (Value.bool x6_) ∧
  ((x6_ = true →
    ∃ x8f0_ : Int, ∃ x8f1_ : Int, cellsAt hp_1 b_ 0 [(Value.int .u64 x8f0_), (Value.int .u64 x8f1_)] ∧
    CallsH Try.prog 72 #[(Value.agg #[(Value.int .u64 x8f0_), (Value.int .u64 x8f1_)]), (Value.int .i64 width_)] hp_1 fun en_1 hp_2 =>
    ∃ x10f0_ : Int, ∃ x10f1_ : Int, en_1 = .returned (Value.agg #[(Value.int .u64 x10f0_), (Value.int .u64 x10f1_)]) ∧
    ∃ x12_, EqV Try.prog 34 (Value.agg #[(Value.int .u64 x10f0_), (Value.int .u64 x10f1_)]) (Value.agg #[(Value.int .u64 (0 : Int)), (Value.int .u64 (0 : Int))]) x12_ ∧
    R (.returned (Value.bool x12_)) hp_2) ∧
   (x6_ = false →
    R (.returned (Value.bool false)) hp_1))) :
  CallsH Try.prog 71 #[(Value.agg #[(Value.int .u64 af0_), (Value.int .u64 af1_)]), (Value.int .i64 width_)] h R := calls_vc fine false Try.func71 (ann := A71) (args := [(Value.agg #[(Value.int .u64 af0_), (Value.int .u64 af1_)]), (Value.int .i64 width_)]) (by kernel_rfl) (Eq.mpr (by kernel_rfl) H)
/-- turnout/value.right -/
def A72 : Ann := (.seq .nil (.seq (.seq .nil (.cond (.seq .nil .nil) .nil)) (.seq .nil .nil)))
theorem V72 (af0_ : Int) (af1_ : Int) (n_ : Int) (h : Hp) (R : Ending → Hp → Prop) (H :
  ∀ b_ hp_, b_ = Array.size h → hp_ = Array.push h (.cells #[(Value.int .u64 af0_), (Value.int .u64 af1_)] 34) →
  ∀ b_1 hp_1, b_1 = Array.size hp_ → hp_1 = Array.push hp_ (.cells (zeros Try.prog 34) 34) → (∃ i z, Try.prog.info? 34 = some i ∧ i.zero = some z) ∧
  (((decide ((64 : Int) ≤ n_)) = true →
    ∃ x8_ : Int, cellsAt hp_1 b_ (0 + 0) [(Value.int .u64 x8_)] ∧
    ∃ x10_, IntKind.i64.wrap (n_ - (64 : Int)) = x10_ ∧
    0 ≤ x10_ ∧ ∃ x11_, shrI .u64 x8_ x10_ = x11_ ∧
    List.length [(Value.int .u64 (0 : Int)), (Value.int .u64 x11_)] = 2 ∧ (∀ c ∈ [(Value.int .u64 (0 : Int)), (Value.int .u64 x11_)], c.oneCell' = true) ∧ wrAt hp_1 b_1 0 2 ∧ ∀ hp_2, hp_2 = setsH hp_1 b_1 0 [(Value.int .u64 (0 : Int)), (Value.int .u64 x11_)] →
    ∃ resf0_ : Int, ∃ resf1_ : Int, cellsAt hp_2 b_1 0 [(Value.int .u64 resf0_), (Value.int .u64 resf1_)] ∧
    R (.returned (Value.agg #[(Value.int .u64 resf0_), (Value.int .u64 resf1_)])) hp_2) ∧
   ((decide ((64 : Int) ≤ n_)) = false →
    ∃ x14_ : Int, cellsAt hp_1 b_ (0 + 0) [(Value.int .u64 x14_)] ∧
    0 ≤ n_ ∧ ∃ x16_, shrI .u64 x14_ n_ = x16_ ∧
    ∃ x18_ : Int, cellsAt hp_1 b_ (0 + 1) [(Value.int .u64 x18_)] ∧
    0 ≤ n_ ∧ ∃ x20_, shrI .u64 x18_ n_ = x20_ ∧
    ∃ x22_ : Int, cellsAt hp_1 b_ (0 + 0) [(Value.int .u64 x22_)] ∧
    ∃ x24_, IntKind.i64.wrap ((64 : Int) - n_) = x24_ ∧
    0 ≤ x24_ ∧ ∃ x25_, shlI .u64 x22_ x24_ = x25_ ∧
    ∃ x26_, orI .u64 x20_ x25_ = x26_ ∧
    List.length [(Value.int .u64 x16_), (Value.int .u64 x26_)] = 2 ∧ (∀ c ∈ [(Value.int .u64 x16_), (Value.int .u64 x26_)], c.oneCell' = true) ∧ wrAt hp_1 b_1 0 2 ∧ ∀ hp_3, hp_3 = setsH hp_1 b_1 0 [(Value.int .u64 x16_), (Value.int .u64 x26_)] →
    ∃ resf0_1 : Int, ∃ resf1_1 : Int, cellsAt hp_3 b_1 0 [(Value.int .u64 resf0_1), (Value.int .u64 resf1_1)] ∧
    R (.returned (Value.agg #[(Value.int .u64 resf0_1), (Value.int .u64 resf1_1)])) hp_3))) :
  CallsH Try.prog 72 #[(Value.agg #[(Value.int .u64 af0_), (Value.int .u64 af1_)]), (Value.int .i64 n_)] h R := calls_vc fine false Try.func72 (ann := A72) (args := [(Value.agg #[(Value.int .u64 af0_), (Value.int .u64 af1_)]), (Value.int .i64 n_)]) (by kernel_rfl) (Eq.mpr (by kernel_rfl) H)
/-- turnout/turnoutref01.Fits -/
def A73 : Ann := (.seq .nil (.seq (.drawLast [6]) .nil))
theorem V73 (af0_ : Int) (af1_ : Int) (width_ : Int) (h : Hp) (R : Ending → Hp → Prop) (H :
  ∀ b_ hp_, b_ = Array.size h → hp_ = Array.push h (.cells #[(Value.int .u64 af0_), (Value.int .u64 af1_)] 34) →
  ∃ Cv_ : Hp → Prop, Cv_ hp_ ∧
  CallsH Try.prog 66 #[(Value.int .i64 width_)] hp_ fun en_ hp_1 =>
  ∃ x6_ : Bool, en_ = .returned (Value.bool x6_) ∧
  Cv_ hp_1 ∧
  ((x6_ = true →
    ∃ x8f0_ : Int, ∃ x8f1_ : Int, cellsAt hp_1 b_ 0 [(Value.int .u64 x8f0_), (Value.int .u64 x8f1_)] ∧
    CallsH Try.prog 75 #[(Value.agg #[(Value.int .u64 x8f0_), (Value.int .u64 x8f1_)]), (Value.int .i64 width_)] hp_1 fun en_1 hp_2 =>
    ∃ x10f0_ : Int, ∃ x10f1_ : Int, en_1 = .returned (Value.agg #[(Value.int .u64 x10f0_), (Value.int .u64 x10f1_)]) ∧
    Cv_ hp_2 ∧
    ∃ x11f0_ : Int, ∃ x11f1_ : Int, (∀ h', Cv_ h' → cellsAt h' b_ 0 [(Value.int .u64 x11f0_), (Value.int .u64 x11f1_)]) ∧
    ∃ x12_, EqV Try.prog 34 (Value.agg #[(Value.int .u64 x10f0_), (Value.int .u64 x10f1_)]) (Value.agg #[(Value.int .u64 x11f0_), (Value.int .u64 x11f1_)]) x12_ ∧
    R (.returned (Value.bool x12_)) hp_2) ∧
   (x6_ = false →
    R (.returned (Value.bool false)) hp_1))) :
  CallsH Try.prog 73 #[(Value.agg #[(Value.int .u64 af0_), (Value.int .u64 af1_)]), (Value.int .i64 width_)] h R := calls_vc fine false Try.func73 (ann := A73) (args := [(Value.agg #[(Value.int .u64 af0_), (Value.int .u64 af1_)]), (Value.int .i64 width_)]) (by kernel_rfl) (Eq.mpr (by kernel_rfl) H)
/-- turnout/turnoutref01.more -/
def A74 : Ann := (.seq .nil (.seq .nil (.seq (.seq .nil (.block (.loop [(8, (.int .i64))] (.seq (.seq .nil (.cond .nil .nil)) (.seq (.block .nil) .nil))))) (.seq .nil .nil))))
theorem V74 (af0_ : Int) (af1_ : Int) (base_ : Int) (n_ : Int) (h : Hp) (R : Ending → Hp → Prop) (H :
  ∀ b_ hp_, b_ = Array.size h → hp_ = Array.push h (.cells #[(Value.int .u64 af0_), (Value.int .u64 af1_)] 34) →
  ∀ b_1 hp_1, b_1 = Array.size hp_ → hp_1 = Array.push hp_ (.cells (zeros Try.prog 34) 34) → (∃ i z, Try.prog.info? 34 = some i ∧ i.zero = some z) ∧
  ∃ x10_, IntKind.u64.wrap n_ = x10_ ∧
  ∀ b_2 hp_2, b_2 = Array.size hp_1 → hp_2 = Array.push hp_1 (.cells (zeros Try.prog 34) 34) → (∃ i z, Try.prog.info? 34 = some i ∧ i.zero = some z) ∧
  List.length [(Value.int .u64 (0 : Int)), (Value.int .u64 x10_)] = 2 ∧ (∀ c ∈ [(Value.int .u64 (0 : Int)), (Value.int .u64 x10_)], c.oneCell' = true) ∧ wrAt hp_2 b_2 0 2 ∧ ∀ hp_3, hp_3 = setsH hp_2 b_2 0 [(Value.int .u64 (0 : Int)), (Value.int .u64 x10_)] →
  ∃ (Iv_ : List Value → Hp → Prop) (m_ : List Value → Hp → Nat), Iv_ [(Value.int .i64 (0 : Int))] hp_3 ∧
  (∀ (i_ : Int) hp_4, Iv_ [(Value.int .i64 i_)] hp_4 →
   (((decide (i_ < base_)) = true →
     ∃ x17f0_ : Int, ∃ x17f1_ : Int, cellsAt hp_4 b_2 0 [(Value.int .u64 x17f0_), (Value.int .u64 x17f1_)] ∧
     ∃ x18f0_ : Int, ∃ x18f1_ : Int, cellsAt hp_4 b_ 0 [(Value.int .u64 x18f0_), (Value.int .u64 x18f1_)] ∧
     CallsH Try.prog 76 #[(Value.agg #[(Value.int .u64 x17f0_), (Value.int .u64 x17f1_)]), (Value.agg #[(Value.int .u64 x18f0_), (Value.int .u64 x18f1_)]), (Value.int .i64 (128 : Int))] hp_4 fun en_ hp_5 =>
     ∃ x19f0_ : Int, ∃ x19f1_ : Int, en_ = .returned (Value.agg #[(Value.int .u64 x19f0_), (Value.int .u64 x19f1_)]) ∧
     List.length [(Value.int .u64 x19f0_), (Value.int .u64 x19f1_)] = 2 ∧ (∀ c ∈ [(Value.int .u64 x19f0_), (Value.int .u64 x19f1_)], c.oneCell' = true) ∧ wrAt hp_5 b_2 0 2 ∧ ∀ hp_6, hp_6 = setsH hp_5 b_2 0 [(Value.int .u64 x19f0_), (Value.int .u64 x19f1_)] →
     ∃ x16_, IntKind.i64.wrap (i_ + (1 : Int)) = x16_ ∧
     (Iv_ [(Value.int .i64 x16_)] hp_6 ∧ m_ [(Value.int .i64 x16_)] hp_6 < m_ [(Value.int .i64 i_)] hp_4)) ∧
    ((decide (i_ < base_)) = false →
     ∃ x20f0_ : Int, ∃ x20f1_ : Int, cellsAt hp_4 b_2 0 [(Value.int .u64 x20f0_), (Value.int .u64 x20f1_)] ∧
     List.length [(Value.int .u64 x20f0_), (Value.int .u64 x20f1_)] = 2 ∧ (∀ c ∈ [(Value.int .u64 x20f0_), (Value.int .u64 x20f1_)], c.oneCell' = true) ∧ wrAt hp_4 b_1 0 2 ∧ ∀ hp_7, hp_7 = setsH hp_4 b_1 0 [(Value.int .u64 x20f0_), (Value.int .u64 x20f1_)] →
     ∃ resf0_ : Int, ∃ resf1_ : Int, cellsAt hp_7 b_1 0 [(Value.int .u64 resf0_), (Value.int .u64 resf1_)] ∧
     R (.returned (Value.agg #[(Value.int .u64 resf0_), (Value.int .u64 resf1_)])) hp_7)))) :
  CallsH Try.prog 74 #[(Value.agg #[(Value.int .u64 af0_), (Value.int .u64 af1_)]), (Value.int .i64 base_), (Value.int .i64 n_)] h R := calls_vc fine false Try.func74 (ann := A74) (args := [(Value.agg #[(Value.int .u64 af0_), (Value.int .u64 af1_)]), (Value.int .i64 base_), (Value.int .i64 n_)]) (by kernel_rfl) (Eq.mpr (by kernel_rfl) H)
/-- turnout/turnoutref01.Cut -/
def A75 : Ann := (.seq .nil (.seq (.seq .nil (.cond (.seq .nil .nil) .nil)) (.seq .nil (.seq (.seq .nil (.block (.loop [(6, (.int .i64))] (.seq (.seq .nil (.cond .nil .nil)) (.seq (.block .nil) .nil))))) (.seq .nil .nil)))))
theorem V75 (af0_ : Int) (af1_ : Int) (width_ : Int) (h : Hp) (R : Ending → Hp → Prop) (H :
  ∀ b_ hp_, b_ = Array.size h → hp_ = Array.push h (.cells #[(Value.int .u64 af0_), (Value.int .u64 af1_)] 34) →
  ∀ b_1 hp_1, b_1 = Array.size hp_ → hp_1 = Array.push hp_ (.cells (zeros Try.prog 34) 34) → (∃ i z, Try.prog.info? 34 = some i ∧ i.zero = some z) ∧
  CallsH Try.prog 66 #[(Value.int .i64 width_)] hp_1 fun en_ hp_2 =>
  ∃ x8_ : Bool, en_ = .returned (Value.bool x8_) ∧
  (((!x8_) = true →
    List.length [(Value.int .u64 (0 : Int)), (Value.int .u64 (0 : Int))] = 2 ∧ (∀ c ∈ [(Value.int .u64 (0 : Int)), (Value.int .u64 (0 : Int))], c.oneCell' = true) ∧ wrAt hp_2 b_1 0 2 ∧ ∀ hp_3, hp_3 = setsH hp_2 b_1 0 [(Value.int .u64 (0 : Int)), (Value.int .u64 (0 : Int))] →
    ∃ resf0_ : Int, ∃ resf1_ : Int, cellsAt hp_3 b_1 0 [(Value.int .u64 resf0_), (Value.int .u64 resf1_)] ∧
    R (.returned (Value.agg #[(Value.int .u64 resf0_), (Value.int .u64 resf1_)])) hp_3) ∧
   ((!x8_) = false →
    ∃ x11f0_ : Int, ∃ x11f1_ : Int, cellsAt hp_2 b_ 0 [(Value.int .u64 x11f0_), (Value.int .u64 x11f1_)] ∧
    CallsH Try.prog 77 #[(Value.agg #[(Value.int .u64 x11f0_), (Value.int .u64 x11f1_)])] hp_2 fun en_1 hp_4 =>
    ∃ x12z_ : List Bool, x12z_.length = 128 ∧ en_1 = .returned (Value.agg (x12z_.map Value.bool).toArray) ∧
    ∀ b_2 hp_5, b_2 = Array.size hp_4 → hp_5 = Array.push hp_4 (.cells (zeros Try.prog 95) 95) → (∃ i z, Try.prog.info? 95 = some i ∧ i.zero = some z) ∧
    List.length (x12z_.map Value.bool) = 128 ∧ (∀ c ∈ (x12z_.map Value.bool), c.oneCell' = true) ∧ wrAt hp_5 b_2 0 128 ∧ ∀ hp_6, hp_6 = setsH hp_5 b_2 0 (x12z_.map Value.bool) →
    ∃ (Iv_ : List Value → Hp → Prop) (m_ : List Value → Hp → Nat), Iv_ [(Value.int .i64 (0 : Int))] hp_6 ∧
    (∀ (i_ : Int) hp_7, Iv_ [(Value.int .i64 i_)] hp_7 →
     ∃ x15_, IntKind.i64.wrap ((128 : Int) - width_) = x15_ ∧
     (((decide (i_ < x15_)) = true →
       0 ≤ i_ ∧ i_ < ((128 : Nat) : Int) ∧
       Value.oneCell' (Value.bool false) = true ∧ wrAt hp_7 b_2 (0 + Int.toNat i_ * 1) 1 ∧ ∀ hp_8, hp_8 = setsH hp_7 b_2 (0 + Int.toNat i_ * 1) [(Value.bool false)] →
       ∃ x18_, IntKind.i64.wrap (i_ + (1 : Int)) = x18_ ∧
       (Iv_ [(Value.int .i64 x18_)] hp_8 ∧ m_ [(Value.int .i64 x18_)] hp_8 < m_ [(Value.int .i64 i_)] hp_7)) ∧
      ((decide (i_ < x15_)) = false →
       ∃ x21z_ : List Bool, x21z_.length = 128 ∧ cellsAt hp_7 b_2 0 (x21z_.map Value.bool) ∧
       CallsH Try.prog 78 #[(Value.agg (x21z_.map Value.bool).toArray)] hp_7 fun en_2 hp_9 =>
       ∃ x22f0_ : Int, ∃ x22f1_ : Int, en_2 = .returned (Value.agg #[(Value.int .u64 x22f0_), (Value.int .u64 x22f1_)]) ∧
       List.length [(Value.int .u64 x22f0_), (Value.int .u64 x22f1_)] = 2 ∧ (∀ c ∈ [(Value.int .u64 x22f0_), (Value.int .u64 x22f1_)], c.oneCell' = true) ∧ wrAt hp_9 b_1 0 2 ∧ ∀ hp_10, hp_10 = setsH hp_9 b_1 0 [(Value.int .u64 x22f0_), (Value.int .u64 x22f1_)] →
       ∃ resf0_1 : Int, ∃ resf1_1 : Int, cellsAt hp_10 b_1 0 [(Value.int .u64 resf0_1), (Value.int .u64 resf1_1)] ∧
       R (.returned (Value.agg #[(Value.int .u64 resf0_1), (Value.int .u64 resf1_1)])) hp_10)))))) :
  CallsH Try.prog 75 #[(Value.agg #[(Value.int .u64 af0_), (Value.int .u64 af1_)]), (Value.int .i64 width_)] h R := calls_vc fine false Try.func75 (ann := A75) (args := [(Value.agg #[(Value.int .u64 af0_), (Value.int .u64 af1_)]), (Value.int .i64 width_)]) (by kernel_rfl) (Eq.mpr (by kernel_rfl) H)
/-- turnout/turnoutref01.Add -/
def A76 : Ann := (.seq .nil (.seq .nil (.seq .nil (.seq .nil (.seq .nil (.seq (.seq .nil (.block (.loop [(10, .bool), (11, (.int .i64))] (.seq (.seq .nil (.cond .nil .nil)) (.seq (.block (.seq .nil (.cut (.seq .nil (.cond .nil .nil)) [(12, (.int .i64))] (.cut (.seq .nil (.cond .nil .nil)) [(12, (.int .i64))] (.cut (.seq .nil (.cond .nil .nil)) [(12, (.int .i64))] (.seq .nil .nil)))))) .nil))))) (.seq .nil .nil)))))))
theorem V76 (af0_ : Int) (af1_ : Int) (bf0_ : Int) (bf1_ : Int) (width_ : Int) (h : Hp) (R : Ending → Hp → Prop) (H :
  ∀ b_ hp_, b_ = Array.size h → hp_ = Array.push h (.cells #[(Value.int .u64 af0_), (Value.int .u64 af1_)] 34) →
  ∀ b_1 hp_1, b_1 = Array.size hp_ → hp_1 = Array.push hp_ (.cells #[(Value.int .u64 bf0_), (Value.int .u64 bf1_)] 34) →
  ∀ b_2 hp_2, b_2 = Array.size hp_1 → hp_2 = Array.push hp_1 (.cells (zeros Try.prog 34) 34) → (∃ i z, Try.prog.info? 34 = some i ∧ i.zero = some z) ∧
  ∃ x13f0_ : Int, ∃ x13f1_ : Int, cellsAt hp_2 b_ 0 [(Value.int .u64 x13f0_), (Value.int .u64 x13f1_)] ∧
  CallsH Try.prog 77 #[(Value.agg #[(Value.int .u64 x13f0_), (Value.int .u64 x13f1_)])] hp_2 fun en_ hp_3 =>
  ∃ x14z_ : List Bool, x14z_.length = 128 ∧ en_ = .returned (Value.agg (x14z_.map Value.bool).toArray) ∧
  ∀ b_3 hp_4, b_3 = Array.size hp_3 → hp_4 = Array.push hp_3 (.cells (zeros Try.prog 95) 95) → (∃ i z, Try.prog.info? 95 = some i ∧ i.zero = some z) ∧
  List.length (x14z_.map Value.bool) = 128 ∧ (∀ c ∈ (x14z_.map Value.bool), c.oneCell' = true) ∧ wrAt hp_4 b_3 0 128 ∧ ∀ hp_5, hp_5 = setsH hp_4 b_3 0 (x14z_.map Value.bool) →
  ∃ x15f0_ : Int, ∃ x15f1_ : Int, cellsAt hp_5 b_1 0 [(Value.int .u64 x15f0_), (Value.int .u64 x15f1_)] ∧
  CallsH Try.prog 77 #[(Value.agg #[(Value.int .u64 x15f0_), (Value.int .u64 x15f1_)])] hp_5 fun en_1 hp_6 =>
  ∃ x16z_ : List Bool, x16z_.length = 128 ∧ en_1 = .returned (Value.agg (x16z_.map Value.bool).toArray) ∧
  ∀ b_4 hp_7, b_4 = Array.size hp_6 → hp_7 = Array.push hp_6 (.cells (zeros Try.prog 95) 95) → (∃ i z, Try.prog.info? 95 = some i ∧ i.zero = some z) ∧
  List.length (x16z_.map Value.bool) = 128 ∧ (∀ c ∈ (x16z_.map Value.bool), c.oneCell' = true) ∧ wrAt hp_7 b_4 0 128 ∧ ∀ hp_8, hp_8 = setsH hp_7 b_4 0 (x16z_.map Value.bool) →
  ∀ b_5 hp_9, b_5 = Array.size hp_8 → hp_9 = Array.push hp_8 (.cells (zeros Try.prog 95) 95) → (∃ i z, Try.prog.info? 95 = some i ∧ i.zero = some z) ∧
  ∃ (Iv_ : List Value → Hp → Prop) (m_ : List Value → Hp → Nat), Iv_ [(Value.bool false), (Value.int .i64 (127 : Int))] hp_9 ∧
  (∀ (carry_ : Bool) (i_ : Int) hp_10, Iv_ [(Value.bool carry_), (Value.int .i64 i_)] hp_10 →
   (((decide ((0 : Int) ≤ i_)) = true →
     ∃ Jv_ : List Value → Hp → Prop,
     (0 ≤ i_ ∧ i_ < ((128 : Nat) : Int) ∧
      ∃ x23_ : Bool, cellsAt hp_10 b_3 (0 + Int.toNat i_ * 1) [(Value.bool x23_)] ∧
      ((x23_ = true →
        ∃ x25_, IntKind.i64.wrap ((0 : Int) + (1 : Int)) = x25_ ∧
        Jv_ [(Value.int .i64 x25_)] hp_10) ∧
       (x23_ = false →
        Jv_ [(Value.int .i64 (0 : Int))] hp_10))) ∧
     (∀ (n_ : Int) hp_11, Jv_ [(Value.int .i64 n_)] hp_11 →
      ∃ Jv_1 : List Value → Hp → Prop,
      (0 ≤ i_ ∧ i_ < ((128 : Nat) : Int) ∧
       ∃ x28_ : Bool, cellsAt hp_11 b_4 (0 + Int.toNat i_ * 1) [(Value.bool x28_)] ∧
       ((x28_ = true →
         ∃ x30_, IntKind.i64.wrap (n_ + (1 : Int)) = x30_ ∧
         Jv_1 [(Value.int .i64 x30_)] hp_11) ∧
        (x28_ = false →
         Jv_1 [(Value.int .i64 n_)] hp_11))) ∧
      (∀ (n_1 : Int) hp_12, Jv_1 [(Value.int .i64 n_1)] hp_12 →
       ∃ Jv_2 : List Value → Hp → Prop,
       (((carry_ = true →
          ∃ x33_, IntKind.i64.wrap (n_1 + (1 : Int)) = x33_ ∧
          Jv_2 [(Value.int .i64 x33_)] hp_12) ∧
         (carry_ = false →
          Jv_2 [(Value.int .i64 n_1)] hp_12))) ∧
       (∀ (n_2 : Int) hp_13, Jv_2 [(Value.int .i64 n_2)] hp_13 →
        (((decide (n_2 = (1 : Int))) = true →
          0 ≤ i_ ∧ i_ < ((128 : Nat) : Int) ∧
          Value.oneCell' (Value.bool true) = true ∧ wrAt hp_13 b_5 (0 + Int.toNat i_ * 1) 1 ∧ ∀ hp_14, hp_14 = setsH hp_13 b_5 (0 + Int.toNat i_ * 1) [(Value.bool true)] →
          ∃ x20_, IntKind.i64.wrap (i_ - (1 : Int)) = x20_ ∧
          (Iv_ [(Value.bool (decide ((1 : Int) < n_2))), (Value.int .i64 x20_)] hp_14 ∧ m_ [(Value.bool (decide ((1 : Int) < n_2))), (Value.int .i64 x20_)] hp_14 < m_ [(Value.bool carry_), (Value.int .i64 i_)] hp_10)) ∧
         ((decide (n_2 = (1 : Int))) = false →
          0 ≤ i_ ∧ i_ < ((128 : Nat) : Int) ∧
          Value.oneCell' (Value.bool (decide (n_2 = (3 : Int)))) = true ∧ wrAt hp_13 b_5 (0 + Int.toNat i_ * 1) 1 ∧ ∀ hp_15, hp_15 = setsH hp_13 b_5 (0 + Int.toNat i_ * 1) [(Value.bool (decide (n_2 = (3 : Int))))] →
          ∃ x20_1, IntKind.i64.wrap (i_ - (1 : Int)) = x20_1 ∧
          (Iv_ [(Value.bool (decide ((1 : Int) < n_2))), (Value.int .i64 x20_1)] hp_15 ∧ m_ [(Value.bool (decide ((1 : Int) < n_2))), (Value.int .i64 x20_1)] hp_15 < m_ [(Value.bool carry_), (Value.int .i64 i_)] hp_10))))))) ∧
    ((decide ((0 : Int) ≤ i_)) = false →
     ∃ x44z_ : List Bool, x44z_.length = 128 ∧ cellsAt hp_10 b_5 0 (x44z_.map Value.bool) ∧
     CallsH Try.prog 78 #[(Value.agg (x44z_.map Value.bool).toArray)] hp_10 fun en_2 hp_16 =>
     ∃ x45f0_ : Int, ∃ x45f1_ : Int, en_2 = .returned (Value.agg #[(Value.int .u64 x45f0_), (Value.int .u64 x45f1_)]) ∧
     CallsH Try.prog 75 #[(Value.agg #[(Value.int .u64 x45f0_), (Value.int .u64 x45f1_)]), (Value.int .i64 width_)] hp_16 fun en_3 hp_17 =>
     ∃ x47f0_ : Int, ∃ x47f1_ : Int, en_3 = .returned (Value.agg #[(Value.int .u64 x47f0_), (Value.int .u64 x47f1_)]) ∧
     List.length [(Value.int .u64 x47f0_), (Value.int .u64 x47f1_)] = 2 ∧ (∀ c ∈ [(Value.int .u64 x47f0_), (Value.int .u64 x47f1_)], c.oneCell' = true) ∧ wrAt hp_17 b_2 0 2 ∧ ∀ hp_18, hp_18 = setsH hp_17 b_2 0 [(Value.int .u64 x47f0_), (Value.int .u64 x47f1_)] →
     ∃ resf0_ : Int, ∃ resf1_ : Int, cellsAt hp_18 b_2 0 [(Value.int .u64 resf0_), (Value.int .u64 resf1_)] ∧
     R (.returned (Value.agg #[(Value.int .u64 resf0_), (Value.int .u64 resf1_)])) hp_18)))) :
  CallsH Try.prog 76 #[(Value.agg #[(Value.int .u64 af0_), (Value.int .u64 af1_)]), (Value.agg #[(Value.int .u64 bf0_), (Value.int .u64 bf1_)]), (Value.int .i64 width_)] h R := calls_vc fine false Try.func76 (ann := A76) (args := [(Value.agg #[(Value.int .u64 af0_), (Value.int .u64 af1_)]), (Value.agg #[(Value.int .u64 bf0_), (Value.int .u64 bf1_)]), (Value.int .i64 width_)]) (by kernel_rfl) (Eq.mpr (by kernel_rfl) H)
/-- turnout/turnoutref01.lay -/
def A77 : Ann := (.seq .nil (.seq .nil (.seq (.seq .nil (.block (.loop [(4, (.int .i64))] (.seq (.seq .nil (.cond .nil .nil)) (.seq (.block (.seq .nil .nil)) .nil))))) (.seq .nil .nil))))
theorem V77 (af0_ : Int) (af1_ : Int) (h : Hp) (R : Ending → Hp → Prop) (H :
  ∀ b_ hp_, b_ = Array.size h → hp_ = Array.push h (.cells #[(Value.int .u64 af0_), (Value.int .u64 af1_)] 34) →
  ∀ b_1 hp_1, b_1 = Array.size hp_ → hp_1 = Array.push hp_ (.cells (zeros Try.prog 95) 95) → (∃ i z, Try.prog.info? 95 = some i ∧ i.zero = some z) ∧
  ∀ b_2 hp_2, b_2 = Array.size hp_1 → hp_2 = Array.push hp_1 (.cells (zeros Try.prog 95) 95) → (∃ i z, Try.prog.info? 95 = some i ∧ i.zero = some z) ∧
  ∃ (Iv_ : List Value → Hp → Prop) (m_ : List Value → Hp → Nat), Iv_ [(Value.int .i64 (0 : Int))] hp_2 ∧
  (∀ (i_ : Int) hp_3, Iv_ [(Value.int .i64 i_)] hp_3 →
   (((decide (i_ < (64 : Int))) = true →
     ∃ x10_, IntKind.i64.wrap ((63 : Int) - i_) = x10_ ∧
     ∃ x12_ : Int, cellsAt hp_3 b_ (0 + 0) [(Value.int .u64 x12_)] ∧
     ∃ x14_, IntKind.u64.wrap i_ = x14_ ∧
     0 ≤ x14_ ∧ ∃ x15_, shrI .u64 x12_ x14_ = x15_ ∧
     ∃ x16_, andI .u64 x15_ (1 : Int) = x16_ ∧
     0 ≤ x10_ ∧ x10_ < ((128 : Nat) : Int) ∧
     Value.oneCell' (Value.bool (decide (x16_ = (1 : Int)))) = true ∧ wrAt hp_3 b_2 (0 + Int.toNat x10_ * 1) 1 ∧ ∀ hp_4, hp_4 = setsH hp_3 b_2 (0 + Int.toNat x10_ * 1) [(Value.bool (decide (x16_ = (1 : Int))))] →
     ∃ x20_, IntKind.i64.wrap ((127 : Int) - i_) = x20_ ∧
     ∃ x22_ : Int, cellsAt hp_4 b_ (0 + 1) [(Value.int .u64 x22_)] ∧
     ∃ x24_, IntKind.u64.wrap i_ = x24_ ∧
     0 ≤ x24_ ∧ ∃ x25_, shrI .u64 x22_ x24_ = x25_ ∧
     ∃ x26_, andI .u64 x25_ (1 : Int) = x26_ ∧
     0 ≤ x20_ ∧ x20_ < ((128 : Nat) : Int) ∧
     Value.oneCell' (Value.bool (decide (x26_ = (1 : Int)))) = true ∧ wrAt hp_4 b_2 (0 + Int.toNat x20_ * 1) 1 ∧ ∀ hp_5, hp_5 = setsH hp_4 b_2 (0 + Int.toNat x20_ * 1) [(Value.bool (decide (x26_ = (1 : Int))))] →
     ∃ x8_, IntKind.i64.wrap (i_ + (1 : Int)) = x8_ ∧
     (Iv_ [(Value.int .i64 x8_)] hp_5 ∧ m_ [(Value.int .i64 x8_)] hp_5 < m_ [(Value.int .i64 i_)] hp_3)) ∧
    ((decide (i_ < (64 : Int))) = false →
     ∃ x29z_ : List Bool, x29z_.length = 128 ∧ cellsAt hp_3 b_2 0 (x29z_.map Value.bool) ∧
     List.length (x29z_.map Value.bool) = 128 ∧ (∀ c ∈ (x29z_.map Value.bool), c.oneCell' = true) ∧ wrAt hp_3 b_1 0 128 ∧ ∀ hp_6, hp_6 = setsH hp_3 b_1 0 (x29z_.map Value.bool) →
     ∃ resz_ : List Bool, resz_.length = 128 ∧ cellsAt hp_6 b_1 0 (resz_.map Value.bool) ∧
     R (.returned (Value.agg (resz_.map Value.bool).toArray)) hp_6)))) :
  CallsH Try.prog 77 #[(Value.agg #[(Value.int .u64 af0_), (Value.int .u64 af1_)])] h R := calls_vc fine false Try.func77 (ann := A77) (args := [(Value.agg #[(Value.int .u64 af0_), (Value.int .u64 af1_)])]) (by kernel_rfl) (Eq.mpr (by kernel_rfl) H)
/-- turnout/turnoutref01.take -/
def A78 : Ann := (.seq .nil (.seq .nil (.seq (.seq .nil (.block (.loop [(4, (.int .i64))] (.seq (.seq .nil (.cond .nil .nil)) (.seq (.block (.seq .nil (.seq .nil (.cut (.seq .nil (.cond .nil .nil)) [] (.seq .nil (.cond .nil .nil)))))) .nil))))) (.seq .nil .nil))))
theorem V78 (b_ : List Bool) (h : Hp) (R : Ending → Hp → Prop) (H :
  ∀ b_1 hp_, b_1 = Array.size h → hp_ = Array.push h (.cells (b_.map Value.bool).toArray 95) →
  ∀ b_2 hp_1, b_2 = Array.size hp_ → hp_1 = Array.push hp_ (.cells (zeros Try.prog 34) 34) → (∃ i z, Try.prog.info? 34 = some i ∧ i.zero = some z) ∧
  ∀ b_3 hp_2, b_3 = Array.size hp_1 → hp_2 = Array.push hp_1 (.cells (zeros Try.prog 34) 34) → (∃ i z, Try.prog.info? 34 = some i ∧ i.zero = some z) ∧
  List.length [(Value.int .u64 (0 : Int)), (Value.int .u64 (0 : Int))] = 2 ∧ (∀ c ∈ [(Value.int .u64 (0 : Int)), (Value.int .u64 (0 : Int))], c.oneCell' = true) ∧ wrAt hp_2 b_3 0 2 ∧ ∀ hp_3, hp_3 = setsH hp_2 b_3 0 [(Value.int .u64 (0 : Int)), (Value.int .u64 (0 : Int))] →
  ∃ (Iv_ : List Value → Hp → Prop) (m_ : List Value → Hp → Nat), Iv_ [(Value.int .i64 (0 : Int))] hp_3 ∧
  (∀ (i_ : Int) hp_4, Iv_ [(Value.int .i64 i_)] hp_4 →
   (((decide (i_ < (64 : Int))) = true →
     ∃ x11_ : Int, cellsAt hp_4 b_3 (0 + 0) [(Value.int .u64 x11_)] ∧
     ∃ x12_, IntKind.u64.wrap (x11_ * (2 : Int)) = x12_ ∧
     Value.oneCell' (Value.int .u64 x12_) = true ∧ wrAt hp_4 b_3 (0 + 0) 1 ∧ ∀ hp_5, hp_5 = setsH hp_4 b_3 (0 + 0) [(Value.int .u64 x12_)] →
     ∃ x15_ : Int, cellsAt hp_5 b_3 (0 + 1) [(Value.int .u64 x15_)] ∧
     ∃ x16_, IntKind.u64.wrap (x15_ * (2 : Int)) = x16_ ∧
     Value.oneCell' (Value.int .u64 x16_) = true ∧ wrAt hp_5 b_3 (0 + 1) 1 ∧ ∀ hp_6, hp_6 = setsH hp_5 b_3 (0 + 1) [(Value.int .u64 x16_)] →
     ∃ Jv_ : List Value → Hp → Prop,
     (0 ≤ i_ ∧ i_ < ((128 : Nat) : Int) ∧
      ∃ x20_ : Bool, cellsAt hp_6 b_1 (0 + Int.toNat i_ * 1) [(Value.bool x20_)] ∧
      ((x20_ = true →
        ∃ x22_ : Int, cellsAt hp_6 b_3 (0 + 0) [(Value.int .u64 x22_)] ∧
        ∃ x23_, IntKind.u64.wrap (x22_ + (1 : Int)) = x23_ ∧
        Value.oneCell' (Value.int .u64 x23_) = true ∧ wrAt hp_6 b_3 (0 + 0) 1 ∧ ∀ hp_7, hp_7 = setsH hp_6 b_3 (0 + 0) [(Value.int .u64 x23_)] →
        Jv_ [] hp_7) ∧
       (x20_ = false →
        Jv_ [] hp_6))) ∧
     (∀  hp_8, Jv_ [] hp_8 →
      ∃ x26_, IntKind.i64.wrap ((64 : Int) + i_) = x26_ ∧
      0 ≤ x26_ ∧ x26_ < ((128 : Nat) : Int) ∧
      ∃ x28_ : Bool, cellsAt hp_8 b_1 (0 + Int.toNat x26_ * 1) [(Value.bool x28_)] ∧
      ((x28_ = true →
        ∃ x30_ : Int, cellsAt hp_8 b_3 (0 + 1) [(Value.int .u64 x30_)] ∧
        ∃ x31_, IntKind.u64.wrap (x30_ + (1 : Int)) = x31_ ∧
        Value.oneCell' (Value.int .u64 x31_) = true ∧ wrAt hp_8 b_3 (0 + 1) 1 ∧ ∀ hp_9, hp_9 = setsH hp_8 b_3 (0 + 1) [(Value.int .u64 x31_)] →
        ∃ x9_, IntKind.i64.wrap (i_ + (1 : Int)) = x9_ ∧
        (Iv_ [(Value.int .i64 x9_)] hp_9 ∧ m_ [(Value.int .i64 x9_)] hp_9 < m_ [(Value.int .i64 i_)] hp_4)) ∧
       (x28_ = false →
        ∃ x9_1, IntKind.i64.wrap (i_ + (1 : Int)) = x9_1 ∧
        (Iv_ [(Value.int .i64 x9_1)] hp_8 ∧ m_ [(Value.int .i64 x9_1)] hp_8 < m_ [(Value.int .i64 i_)] hp_4))))) ∧
    ((decide (i_ < (64 : Int))) = false →
     ∃ x33f0_ : Int, ∃ x33f1_ : Int, cellsAt hp_4 b_3 0 [(Value.int .u64 x33f0_), (Value.int .u64 x33f1_)] ∧
     List.length [(Value.int .u64 x33f0_), (Value.int .u64 x33f1_)] = 2 ∧ (∀ c ∈ [(Value.int .u64 x33f0_), (Value.int .u64 x33f1_)], c.oneCell' = true) ∧ wrAt hp_4 b_2 0 2 ∧ ∀ hp_10, hp_10 = setsH hp_4 b_2 0 [(Value.int .u64 x33f0_), (Value.int .u64 x33f1_)] →
     ∃ resf0_ : Int, ∃ resf1_ : Int, cellsAt hp_10 b_2 0 [(Value.int .u64 resf0_), (Value.int .u64 resf1_)] ∧
     R (.returned (Value.agg #[(Value.int .u64 resf0_), (Value.int .u64 resf1_)])) hp_10)))) :
  CallsH Try.prog 78 #[(Value.agg (b_.map Value.bool).toArray)] h R := calls_vc fine false Try.func78 (ann := A78) (args := [(Value.agg (b_.map Value.bool).toArray)]) (by kernel_rfl) (Eq.mpr (by kernel_rfl) H)
end Go.Vc
