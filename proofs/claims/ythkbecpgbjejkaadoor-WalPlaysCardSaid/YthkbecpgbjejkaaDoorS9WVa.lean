import Derived.Test.YthkbecpgbjejkaaDoorVcI
import Derived.Test.YthkbecpgbjejkaaDoorProg
set_option maxRecDepth 10000
namespace Go.Vc
open Go Go.Proofs
set_option maxRecDepth 100000
theorem fine : Fine Tryd.prog := fine_of (by kernel_rfl) (by kernel_rfl)
/-- turnout/turnoutlaw19.WalNil -/
def A3 : Ann := (.seq .nil (.seq .nil (.seq .nil (.seq .nil (.seq .nil (.seq .nil (.seq .nil (.seq .nil (.seq .nil (.seq .nil .nil))))))))))
theorem V3 (r_ : ByteArray) (first_ : Int) (count_ : Int) (epoch_ : Int) (h : Hp) (R : Ending → Hp → Prop) (H :
  CallsH Tryd.prog 10 #[] h fun en_ hp_ =>
  ∃ x21_ : Bool, en_ = .returned (Value.bool x21_) ∧
  CallsH Tryd.prog 11 #[(Value.pointer none), (Value.string r_)] hp_ fun en_1 hp_1 =>
  ∃ x24_ : Int, en_1 = .returned (Value.int .i64 x24_) ∧
  CallsH Tryd.prog 12 #[(Value.pointer none)] hp_1 fun en_2 hp_2 =>
  ∃ x26_ : Int, en_2 = .returned (Value.int .i64 x26_) ∧
  CallsH Tryd.prog 13 #[(Value.pointer none)] hp_2 fun en_3 hp_3 =>
  ∃ x29r0_ : Int, ∃ x29r1_ : Int, en_3 = .returned (Value.tuple #[(Value.int .i64 x29r0_), (Value.int .i64 x29r1_)]) ∧
  CallsH Tryd.prog 14 #[(Value.pointer none), (Value.int .i64 first_), (Value.int .i64 count_), (Value.int .u64 epoch_)] hp_3 fun en_4 hp_4 =>
  ∃ x36r0_ : Option Addr, ∃ x36r1_ : Int, en_4 = .returned (Value.tuple #[(Value.pointer x36r0_), (Value.int .i64 x36r1_)]) ∧
  CallsH Tryd.prog 15 #[(Value.pointer none), (Value.int .i64 first_), (Value.int .i64 count_), (Value.int .u64 epoch_)] hp_4 fun en_5 hp_5 =>
  ∃ (x43r0p_ : Option Addr) (x43r0n_ x43r0c_ : Nat), ∃ x43r1_ : Int, en_5 = .returned (Value.tuple #[(Value.slice x43r0p_ x43r0n_ x43r0c_), (Value.int .i64 x43r1_)]) ∧
  CallsH Tryd.prog 16 #[(Value.pointer none), (Value.int .i64 first_), (Value.int .i64 count_)] hp_5 fun en_6 hp_6 =>
  ∃ x49r0_ : Int, ∃ x49r1_ : Int, en_6 = .returned (Value.tuple #[(Value.int .u64 x49r0_), (Value.int .i64 x49r1_)]) ∧
  ((x21_ = true →
    (((decide (x24_ = (1 : Int))) = true →
      (((decide (x26_ = (1 : Int))) = true →
        (((decide (x29r0_ = (0 : Int))) = true →
          (((decide (x29r1_ = (0 : Int))) = true →
            CallsH Tryd.prog 17 #[(Value.pointer none)] hp_6 fun en_7 hp_7 =>
            ∃ x71_ : Int, en_7 = .returned (Value.int .i64 x71_) ∧
            (((decide (x71_ = (0 : Int))) = true →
              ∃ x76_, EqV Tryd.prog 24 (Value.pointer x36r0_) (Value.pointer none) x76_ ∧
              ((x76_ = true →
                (((decide (x36r1_ = (1 : Int))) = true →
                  (((decide (((x43r0n_ : Nat) : Int) = (0 : Int))) = true →
                    (((decide (x43r1_ = (1 : Int))) = true →
                      (((decide (x49r0_ = (0 : Int))) = true →
                        R (.returned (Value.bool (decide (x49r1_ = (1 : Int))))) hp_7) ∧
                       ((decide (x49r0_ = (0 : Int))) = false →
                        R (.returned (Value.bool false)) hp_7))) ∧
                     ((decide (x43r1_ = (1 : Int))) = false →
                      R (.returned (Value.bool false)) hp_7))) ∧
                   ((decide (((x43r0n_ : Nat) : Int) = (0 : Int))) = false →
                    R (.returned (Value.bool false)) hp_7))) ∧
                 ((decide (x36r1_ = (1 : Int))) = false →
                  R (.returned (Value.bool false)) hp_7))) ∧
               (x76_ = false →
                R (.returned (Value.bool false)) hp_7))) ∧
             ((decide (x71_ = (0 : Int))) = false →
              R (.returned (Value.bool false)) hp_7))) ∧
           ((decide (x29r1_ = (0 : Int))) = false →
            R (.returned (Value.bool false)) hp_6))) ∧
         ((decide (x29r0_ = (0 : Int))) = false →
          R (.returned (Value.bool false)) hp_6))) ∧
       ((decide (x26_ = (1 : Int))) = false →
        R (.returned (Value.bool false)) hp_6))) ∧
     ((decide (x24_ = (1 : Int))) = false →
      R (.returned (Value.bool false)) hp_6))) ∧
   (x21_ = false →
    R (.returned (Value.bool false)) hp_6))) :
  CallsH Tryd.prog 3 #[(Value.string r_), (Value.int .i64 first_), (Value.int .i64 count_), (Value.int .u64 epoch_)] h R := calls_vc fine false Tryd.func3 (ann := A3) (args := [(Value.string r_), (Value.int .i64 first_), (Value.int .i64 count_), (Value.int .u64 epoch_)]) (by kernel_rfl) (Eq.mpr (by kernel_rfl) H)
/-- turnout/turnoutlaw19.WalFull -/
def A4 : Ann := (.seq .nil (.seq .nil (.seq .nil (.seq .nil (.cut (.seq (.join 41) (.cond (.seq .nil .nil) .nil)) [] (.seq .nil (.cut (.seq .nil (.cond (.seq .nil .nil) .nil)) [] (.seq .nil (.seq .nil (.seq .nil (.seq .nil (.seq .nil (.seq .nil (.cut (.seq (.drawLast [36]) (.cond (.seq .nil .nil) .nil)) [] (.seq (.seq .nil (.cond (.seq (.join 4) .nil) .nil)) (.seq .nil (.seq .nil (.seq (.join 4) .nil))))))))))))))))))
theorem V4 (count_ : Int) (rawp_ : Option Addr) (rawn_ rawc_ : Nat) (h : Hp) (R : Ending → Hp → Prop) (H :
  CallsH Tryd.prog 10 #[] h fun en_ hp_ =>
  ∃ x23_ : Bool, en_ = .returned (Value.bool x23_) ∧
  CallsH Tryd.prog 18 #[(Value.int .i64 count_), (Value.int .i64 (140 : Int))] hp_ fun en_1 hp_1 =>
  ∃ x25_ : Int, en_1 = .returned (Value.int .i64 x25_) ∧
  ∃ x26_, IntKind.i64.wrap ((1 : Int) + x25_) = x26_ ∧
  CallsH Tryd.prog 19 #[(Value.int .i64 x26_)] hp_1 fun en_2 hp_2 =>
  ∃ x29r0_ : Option Addr, ∃ x29r1_ : Int, en_2 = .returned (Value.tuple #[(Value.pointer x29r0_), (Value.int .i64 x29r1_)]) ∧
  ∃ Jv_ : List Value → Hp → Prop,
  (∃ B_ : Bool, ((((!x23_) = true →
      hp_2 = hp_2 ∧ B_ = true) ∧
     ((!x23_) = false →
      ∃ x36_, EqV Tryd.prog 41 (Value.pointer x29r0_) (Value.pointer none) x36_ ∧
      ((x36_ = true →
        hp_2 = hp_2 ∧ B_ = true) ∧
       (x36_ = false →
        hp_2 = hp_2 ∧ B_ = (decide (x29r1_ ≠ (0 : Int)))))))) ∧
   ((B_ = true →
     R (.returned (Value.bool false)) hp_2) ∧
    (B_ = false →
     Jv_ [] hp_2))) ∧
  (∀  hp_3, Jv_ [] hp_3 →
   CallsH Tryd.prog 14 #[(Value.pointer x29r0_), (Value.int .i64 (0 : Int)), (Value.int .i64 x26_), (Value.int .u64 (5 : Int))] hp_3 fun en_3 hp_4 =>
   ∃ x45r0_ : Option Addr, ∃ x45r1_ : Int, en_3 = .returned (Value.tuple #[(Value.pointer x45r0_), (Value.int .i64 x45r1_)]) ∧
   ∃ Jv_1 : List Value → Hp → Prop,
   (∃ x49_, EqV Tryd.prog 24 (Value.pointer x45r0_) (Value.pointer none) x49_ ∧
    ((x49_ = true →
      R (.returned (Value.bool false)) hp_4) ∧
     (x49_ = false →
      (((decide (x45r1_ ≠ (0 : Int))) = true →
        R (.returned (Value.bool false)) hp_4) ∧
       ((decide (x45r1_ ≠ (0 : Int))) = false →
        CallsH Tryd.prog 17 #[(Value.pointer x45r0_)] hp_4 fun en_4 hp_5 =>
        ∃ x56_ : Int, en_4 = .returned (Value.int .i64 x56_) ∧
        ∃ x58_, IntKind.i64.wrap ((488 : Int) * x26_) = x58_ ∧
        (((decide (x56_ ≠ (min x58_ (65536 : Int)))) = true →
          R (.returned (Value.bool false)) hp_5) ∧
         ((decide (x56_ ≠ (min x58_ (65536 : Int)))) = false →
          Jv_1 [] hp_5))))))) ∧
   (∀  hp_6, Jv_1 [] hp_6 →
    CallsH Tryd.prog 21 #[(Value.slice rawp_ rawn_ rawc_)] hp_6 fun en_5 hp_7 =>
    ∃ (x65p_ : Option Addr) (x65n_ x65c_ : Nat), en_5 = .returned (Value.slice x65p_ x65n_ x65c_) ∧
    CallsH Tryd.prog 20 #[(Value.pointer x45r0_), (Value.slice x65p_ x65n_ x65c_), (Value.int .i64 (1 : Int))] hp_7 fun en_6 hp_8 =>
    ∃ (x66r0p_ : Option Addr) (x66r0n_ x66r0c_ : Nat), ∃ x66r1_ : Int, ∃ x66r2_ : Bool, en_6 = .returned (Value.tuple #[(Value.slice x66r0p_ x66r0n_ x66r0c_), (Value.int .i64 x66r1_), (Value.bool x66r2_)]) ∧
    CallsH Tryd.prog 13 #[(Value.pointer x45r0_)] hp_8 fun en_7 hp_9 =>
    ∃ x72r0_ : Int, ∃ x72r1_ : Int, en_7 = .returned (Value.tuple #[(Value.int .i64 x72r0_), (Value.int .i64 x72r1_)]) ∧
    CallsH Tryd.prog 17 #[(Value.pointer x45r0_)] hp_9 fun en_8 hp_10 =>
    ∃ x76_ : Int, en_8 = .returned (Value.int .i64 x76_) ∧
    CallsH Tryd.prog 22 #[(Value.pointer x29r0_)] hp_10 fun en_9 hp_11 =>
    ∃ x78f0_ : Int, ∃ x78f1_ : Int, ∃ x78f2_ : Int, en_9 = .returned (Value.agg #[(Value.int .i64 x78f0_), (Value.int .i64 x78f1_), (Value.int .i64 x78f2_)]) ∧
    ∀ b_ hp_12, b_ = Array.size hp_11 → hp_12 = Array.push hp_11 (.cells (zeros Tryd.prog 48) 48) → (∃ i z, Tryd.prog.info? 48 = some i ∧ i.zero = some z) ∧
    List.length [(Value.int .i64 x78f0_), (Value.int .i64 x78f1_), (Value.int .i64 x78f2_)] = 3 ∧ (∀ c ∈ [(Value.int .i64 x78f0_), (Value.int .i64 x78f1_), (Value.int .i64 x78f2_)], c.oneCell' = true) ∧ wrAt hp_12 b_ 0 3 ∧ ∀ hp_13, hp_13 = setsH hp_12 b_ 0 [(Value.int .i64 x78f0_), (Value.int .i64 x78f1_), (Value.int .i64 x78f2_)] →
    ∃ x81_, IntKind.i64.wrap (x76_ + (1 : Int)) = x81_ ∧
    CallsH Tryd.prog 23 #[(Value.int .i64 x81_), (Value.int .i64 (7 : Int))] hp_13 fun en_10 hp_14 =>
    ∃ x82_ : ByteArray, en_10 = .returned (Value.string x82_) ∧
    CallsH Tryd.prog 11 #[(Value.pointer x45r0_), (Value.string x82_)] hp_14 fun en_11 hp_15 =>
    ∃ x83_ : Int, en_11 = .returned (Value.int .i64 x83_) ∧
    CallsH Tryd.prog 13 #[(Value.pointer x45r0_)] hp_15 fun en_12 hp_16 =>
    ∃ x86r0_ : Int, ∃ x86r1_ : Int, en_12 = .returned (Value.tuple #[(Value.int .i64 x86r0_), (Value.int .i64 x86r1_)]) ∧
    ∃ Jv_2 : List Value → Hp → Prop,
    (∃ Cv_ : Hp → Prop, Cv_ hp_16 ∧
     (((!x66r2_) = true →
       R (.returned (Value.bool false)) hp_16) ∧
      ((!x66r2_) = false →
       (((decide (x83_ ≠ (190 : Int))) = true →
         (((decide (x83_ = (2 : Int))) = true →
           (((!(decide (x76_ = (65536 : Int)))) = true →
             R (.returned (Value.bool false)) hp_16) ∧
            ((!(decide (x76_ = (65536 : Int)))) = false →
             (((decide (x72r0_ ≠ x86r0_)) = true →
               R (.returned (Value.bool false)) hp_16) ∧
              ((decide (x72r0_ ≠ x86r0_)) = false →
               (((decide (x72r1_ ≠ x86r1_)) = true →
                 R (.returned (Value.bool false)) hp_16) ∧
                ((decide (x72r1_ ≠ x86r1_)) = false →
                 CallsH Tryd.prog 17 #[(Value.pointer x45r0_)] hp_16 fun en_13 hp_17 =>
                 ∃ x116_ : Int, en_13 = .returned (Value.int .i64 x116_) ∧
                 Cv_ hp_17 ∧
                 (((decide (x116_ ≠ x76_)) = true →
                   R (.returned (Value.bool false)) hp_17) ∧
                  ((decide (x116_ ≠ x76_)) = false →
                   CallsH Tryd.prog 22 #[(Value.pointer x29r0_)] hp_17 fun en_14 hp_18 =>
                   ∃ x122f0_ : Int, ∃ x122f1_ : Int, ∃ x122f2_ : Int, en_14 = .returned (Value.agg #[(Value.int .i64 x122f0_), (Value.int .i64 x122f1_), (Value.int .i64 x122f2_)]) ∧
                   Cv_ hp_18 ∧
                   ∃ x125_ : Int, (∀ h', Cv_ h' → cellsAt h' b_ (0 + 1) [(Value.int .i64 x125_)]) ∧
                   (((decide (x122f1_ ≠ x125_)) = true →
                     R (.returned (Value.bool false)) hp_18) ∧
                    ((decide (x122f1_ ≠ x125_)) = false →
                     Jv_2 [] hp_18))))))))))) ∧
          ((decide (x83_ = (2 : Int))) = false →
           R (.returned (Value.bool false)) hp_16))) ∧
        ((decide (x83_ ≠ (190 : Int))) = false →
         (((decide (x72r0_ ≠ x86r0_)) = true →
           R (.returned (Value.bool false)) hp_16) ∧
          ((decide (x72r0_ ≠ x86r0_)) = false →
           (((decide (x72r1_ ≠ x86r1_)) = true →
             R (.returned (Value.bool false)) hp_16) ∧
            ((decide (x72r1_ ≠ x86r1_)) = false →
             CallsH Tryd.prog 17 #[(Value.pointer x45r0_)] hp_16 fun en_15 hp_19 =>
             ∃ x116_1 : Int, en_15 = .returned (Value.int .i64 x116_1) ∧
             Cv_ hp_19 ∧
             (((decide (x116_1 ≠ x76_)) = true →
               R (.returned (Value.bool false)) hp_19) ∧
              ((decide (x116_1 ≠ x76_)) = false →
               CallsH Tryd.prog 22 #[(Value.pointer x29r0_)] hp_19 fun en_16 hp_20 =>
               ∃ x122f0_1 : Int, ∃ x122f1_1 : Int, ∃ x122f2_1 : Int, en_16 = .returned (Value.agg #[(Value.int .i64 x122f0_1), (Value.int .i64 x122f1_1), (Value.int .i64 x122f2_1)]) ∧
               Cv_ hp_20 ∧
               ∃ x125_1 : Int, (∀ h', Cv_ h' → cellsAt h' b_ (0 + 1) [(Value.int .i64 x125_1)]) ∧
               (((decide (x122f1_1 ≠ x125_1)) = true →
                 R (.returned (Value.bool false)) hp_20) ∧
                ((decide (x122f1_1 ≠ x125_1)) = false →
                 Jv_2 [] hp_20))))))))))))) ∧
    (∀  hp_21, Jv_2 [] hp_21 →
     (((decide (x76_ = (0 : Int))) = true →
       ∃ B_1 : Bool, ((((decide (x72r0_ = x26_)) = true →
          hp_21 = hp_21 ∧ B_1 = true) ∧
         ((decide (x72r0_ = x26_)) = false →
          hp_21 = hp_21 ∧ B_1 = (decide (x26_ = (0 : Int)))))) ∧
       R (.returned (Value.bool B_1)) hp_21) ∧
      ((decide (x76_ = (0 : Int))) = false →
       CallsH Tryd.prog 23 #[(Value.int .i64 x76_), (Value.int .i64 (8 : Int))] hp_21 fun en_17 hp_22 =>
       ∃ x139_ : ByteArray, en_17 = .returned (Value.string x139_) ∧
       CallsH Tryd.prog 11 #[(Value.pointer x45r0_), (Value.string x139_)] hp_22 fun en_18 hp_23 =>
       ∃ x140_ : Int, en_18 = .returned (Value.int .i64 x140_) ∧
       CallsH Tryd.prog 17 #[(Value.pointer x45r0_)] hp_23 fun en_19 hp_24 =>
       ∃ x142_ : Int, en_19 = .returned (Value.int .i64 x142_) ∧
       ∃ B_2 : Bool, ((((decide (x140_ = (0 : Int))) = true →
          (((decide (x142_ ≤ x76_)) = true →
            (((decide (x76_ = (65536 : Int))) = true →
              hp_24 = hp_24 ∧ B_2 = true) ∧
             ((decide (x76_ = (65536 : Int))) = false →
              hp_24 = hp_24 ∧ B_2 = (decide (x142_ = (0 : Int)))))) ∧
           ((decide (x142_ ≤ x76_)) = false →
            hp_24 = hp_24 ∧ B_2 = false))) ∧
         ((decide (x140_ = (0 : Int))) = false →
          hp_24 = hp_24 ∧ B_2 = false))) ∧
       R (.returned (Value.bool B_2)) hp_24)))))) :
  CallsH Tryd.prog 4 #[(Value.int .i64 count_), (Value.slice rawp_ rawn_ rawc_)] h R := calls_vc fine false Tryd.func4 (ann := A4) (args := [(Value.int .i64 count_), (Value.slice rawp_ rawn_ rawc_)]) (by kernel_rfl) (Eq.mpr (by kernel_rfl) H)
/-- turnout/turnoutlaw19.WalOnce -/
def A5 : Ann := (.seq .nil (.seq .nil (.seq .nil (.seq .nil (.seq .nil (.seq .nil (.cut (.seq (.join 51) (.cond (.seq .nil .nil) .nil)) [] (.seq .nil (.cut (.seq (.join 64) (.cond (.seq .nil .nil) .nil)) [] (.seq .nil (.seq .nil (.seq (.seq .nil (.block (.loop [(18, .slice), (19, (.int .i64))] (.seq (.seq .nil (.cond .nil .nil)) (.seq (.block (.seq .nil (.seq .nil (.seq .nil (.seq .nil (.cond (.seq .nil (.seq .nil (.cond (.seq .nil .nil) .nil))) .nil)))))) .nil))))) (.seq .nil (.seq (.seq .nil (.cond (.seq .nil .nil) .nil)) (.seq .nil (.seq (.seq .nil (.block (.loop [(22, (.int .i64)), (23, (.int .i64))] (.seq (.seq .nil (.cond .nil .nil)) (.seq (.block (.seq (.seq (.join 143) (.cond (.seq .nil .nil) .nil)) .nil)) .nil))))) (.seq .nil .nil)))))))))))))))))
theorem V5 (sectors_ : Int) (first_ : Int) (count_ : Int) (rawp_ : Option Addr) (rawn_ rawc_ : Nat) (h : Hp) (R : Ending → Hp → Prop) (H :
  CallsH Tryd.prog 10 #[] h fun en_ hp_ =>
  ∃ x24_ : Bool, en_ = .returned (Value.bool x24_) ∧
  CallsH Tryd.prog 18 #[(Value.int .i64 sectors_), (Value.int .i64 (14 : Int))] hp_ fun en_1 hp_1 =>
  ∃ x26_ : Int, en_1 = .returned (Value.int .i64 x26_) ∧
  ∃ x27_, IntKind.i64.wrap ((1 : Int) + x26_) = x27_ ∧
  CallsH Tryd.prog 18 #[(Value.int .i64 first_), (Value.int .i64 x27_)] hp_1 fun en_2 hp_2 =>
  ∃ x30_ : Int, en_2 = .returned (Value.int .i64 x30_) ∧
  ∃ x34_, IntKind.i64.wrap (x27_ - x30_) = x34_ ∧
  CallsH Tryd.prog 18 #[(Value.int .i64 count_), (Value.int .i64 x34_)] hp_2 fun en_3 hp_3 =>
  ∃ x35_ : Int, en_3 = .returned (Value.int .i64 x35_) ∧
  ∃ x36_, IntKind.i64.wrap ((1 : Int) + x35_) = x36_ ∧
  CallsH Tryd.prog 19 #[(Value.int .i64 x27_)] hp_3 fun en_4 hp_4 =>
  ∃ x39r0_ : Option Addr, ∃ x39r1_ : Int, en_4 = .returned (Value.tuple #[(Value.pointer x39r0_), (Value.int .i64 x39r1_)]) ∧
  ∃ Jv_ : List Value → Hp → Prop,
  (∃ B_ : Bool, ((((!x24_) = true →
      hp_4 = hp_4 ∧ B_ = true) ∧
     ((!x24_) = false →
      ∃ x46_, EqV Tryd.prog 41 (Value.pointer x39r0_) (Value.pointer none) x46_ ∧
      ((x46_ = true →
        hp_4 = hp_4 ∧ B_ = true) ∧
       (x46_ = false →
        hp_4 = hp_4 ∧ B_ = (decide (x39r1_ ≠ (0 : Int)))))))) ∧
   ((B_ = true →
     R (.returned (Value.bool false)) hp_4) ∧
    (B_ = false →
     Jv_ [] hp_4))) ∧
  (∀  hp_5, Jv_ [] hp_5 →
   CallsH Tryd.prog 14 #[(Value.pointer x39r0_), (Value.int .i64 x30_), (Value.int .i64 x36_), (Value.int .u64 (1 : Int))] hp_5 fun en_5 hp_6 =>
   ∃ x56r0_ : Option Addr, ∃ x56r1_ : Int, en_5 = .returned (Value.tuple #[(Value.pointer x56r0_), (Value.int .i64 x56r1_)]) ∧
   ∃ Jv_1 : List Value → Hp → Prop,
   (∃ B_1 : Bool, (∃ x60_, EqV Tryd.prog 24 (Value.pointer x56r0_) (Value.pointer none) x60_ ∧
     ((x60_ = true →
       hp_6 = hp_6 ∧ B_1 = true) ∧
      (x60_ = false →
       hp_6 = hp_6 ∧ B_1 = (decide (x56r1_ ≠ (0 : Int)))))) ∧
    ((B_1 = true →
      R (.returned (Value.bool false)) hp_6) ∧
     (B_1 = false →
      Jv_1 [] hp_6))) ∧
   (∀  hp_7, Jv_1 [] hp_7 →
    CallsH Tryd.prog 21 #[(Value.slice rawp_ rawn_ rawc_)] hp_7 fun en_6 hp_8 =>
    ∃ (x66p_ : Option Addr) (x66n_ x66c_ : Nat), en_6 = .returned (Value.slice x66p_ x66n_ x66c_) ∧
    ∃ (Iv_ : List Value → Hp → Prop) (m_ : List Value → Hp → Nat), Iv_ [(Value.slice none 0 0), (Value.int .i64 (0 : Int))] hp_8 ∧
    (∀ (metp_ : Option Addr) (metn_ metc_ : Nat) (i_ : Int) hp_9, Iv_ [(Value.slice metp_ metn_ metc_), (Value.int .i64 i_)] hp_9 →
     (((decide (i_ < ((x66n_ : Nat) : Int))) = true →
       ∃ b_ o_, x66p_ = some ⟨b_, o_, none⟩ ∧ 0 ≤ i_ ∧ i_ < (x66n_ : Int) ∧
       ∃ x78_ : Int, cellsAt hp_9 b_ ((o_ + Int.toNat i_ * 2) + 0) [(Value.int .i64 x78_)] ∧
       CallsH Tryd.prog 18 #[(Value.int .i64 x78_), (Value.int .i64 (1200 : Int))] hp_9 fun en_7 hp_10 =>
       ∃ x79_ : Int, en_7 = .returned (Value.int .i64 x79_) ∧
       ∃ x80_, IntKind.i64.wrap ((1 : Int) + x79_) = x80_ ∧
       CallsH Tryd.prog 23 #[(Value.int .i64 x80_), (Value.int .i64 i_)] hp_10 fun en_8 hp_11 =>
       ∃ x82_ : ByteArray, en_8 = .returned (Value.string x82_) ∧
       CallsH Tryd.prog 11 #[(Value.pointer x56r0_), (Value.string x82_)] hp_11 fun en_9 hp_12 =>
       ∃ x83_ : Int, en_9 = .returned (Value.int .i64 x83_) ∧
       CallsH Tryd.prog 24 #[(Value.pointer x39r0_)] hp_12 fun en_10 hp_13 =>
       ∃ (x85p_ : Option Addr) (x85n_ x85c_ : Nat), en_10 = .returned (Value.slice x85p_ x85n_ x85c_) ∧
       SemH Tryd.prog (Builtin.append_ #[52, 52] 52 #[(Value.slice metp_ metn_ metc_), (Value.slice x85p_ x85n_ x85c_)]) hp_13 fun v_ hp_14 =>
       ∃ (x88p_ : Option Addr) (x88n_ x88c_ : Nat), v_ = (Value.slice x88p_ x88n_ x88c_) ∧
       ∃ b_1 o_1, x66p_ = some ⟨b_1, o_1, none⟩ ∧ 0 ≤ i_ ∧ i_ < (x66n_ : Int) ∧
       ∃ x93_ : Bool, cellsAt hp_14 b_1 ((o_1 + Int.toNat i_ * 2) + 1) [(Value.bool x93_)] ∧
       ((x93_ = true →
         CallsH Tryd.prog 12 #[(Value.pointer x56r0_)] hp_14 fun en_11 hp_15 =>
         ∃ x95_ : Int, en_11 = .returned (Value.int .i64 x95_) ∧
         (((decide (x95_ ≠ (0 : Int))) = true →
           R (.returned (Value.bool false)) hp_15) ∧
          ((decide (x95_ ≠ (0 : Int))) = false →
           CallsH Tryd.prog 24 #[(Value.pointer x39r0_)] hp_15 fun en_12 hp_16 =>
           ∃ (x100p_ : Option Addr) (x100n_ x100c_ : Nat), en_12 = .returned (Value.slice x100p_ x100n_ x100c_) ∧
           (((decide (((x100n_ : Nat) : Int) ≠ (0 : Int))) = true →
             R (.returned (Value.bool false)) hp_16) ∧
            ((decide (((x100n_ : Nat) : Int) ≠ (0 : Int))) = false →
             ∃ x72_, IntKind.i64.wrap (i_ + (1 : Int)) = x72_ ∧
             (Iv_ [(Value.slice x88p_ x88n_ x88c_), (Value.int .i64 x72_)] hp_16 ∧ m_ [(Value.slice x88p_ x88n_ x88c_), (Value.int .i64 x72_)] hp_16 < m_ [(Value.slice metp_ metn_ metc_), (Value.int .i64 i_)] hp_9)))))) ∧
        (x93_ = false →
         ∃ x109_, IntKind.i64.wrap (((x88n_ : Nat) : Int) - ((x85n_ : Nat) : Int)) = x109_ ∧
         ∃ u_ : Nat, x109_ = (u_ : Int) ∧
         0 ≤ u_ ∧ u_ ≤ x88c_ ∧ ∃ x110p_, cutP x88p_ x88c_ 0 1 = x110p_ ∧
         ∃ x72_1, IntKind.i64.wrap (i_ + (1 : Int)) = x72_1 ∧
         (Iv_ [(Value.slice x110p_ (u_ - 0) (x88c_ - 0)), (Value.int .i64 x72_1)] hp_14 ∧ m_ [(Value.slice x110p_ (u_ - 0) (x88c_ - 0)), (Value.int .i64 x72_1)] hp_14 < m_ [(Value.slice metp_ metn_ metc_), (Value.int .i64 i_)] hp_9)))) ∧
      ((decide (i_ < ((x66n_ : Nat) : Int))) = false →
       CallsH Tryd.prog 24 #[(Value.pointer x39r0_)] hp_9 fun en_13 hp_17 =>
       ∃ (x113p_ : Option Addr) (x113n_ x113c_ : Nat), en_13 = .returned (Value.slice x113p_ x113n_ x113c_) ∧
       SemH Tryd.prog (Builtin.append_ #[52, 52] 52 #[(Value.slice metp_ metn_ metc_), (Value.slice x113p_ x113n_ x113c_)]) hp_17 fun v_1 hp_18 =>
       ∃ (x114p_ : Option Addr) (x114n_ x114c_ : Nat), v_1 = (Value.slice x114p_ x114n_ x114c_) ∧
       CallsH Tryd.prog 22 #[(Value.pointer x39r0_)] hp_18 fun en_14 hp_19 =>
       ∃ x116f0_ : Int, ∃ x116f1_ : Int, ∃ x116f2_ : Int, en_14 = .returned (Value.agg #[(Value.int .i64 x116f0_), (Value.int .i64 x116f1_), (Value.int .i64 x116f2_)]) ∧
       (((decide (x36_ < x116f1_)) = true →
         R (.returned (Value.bool false)) hp_19) ∧
        ((decide (x36_ < x116f1_)) = false →
         ∃ x121_, IntKind.i64.wrap (x30_ - (1 : Int)) = x121_ ∧
         ∃ (Iv_1 : List Value → Hp → Prop) (m_1 : List Value → Hp → Nat), Iv_1 [(Value.int .i64 x121_), (Value.int .i64 (0 : Int))] hp_19 ∧
         (∀ (last_ : Int) (i_1 : Int) hp_20, Iv_1 [(Value.int .i64 last_), (Value.int .i64 i_1)] hp_20 →
          (((decide (i_1 < ((x114n_ : Nat) : Int))) = true →
            ∃ B_2 : Bool, (∃ b_2 o_2, x114p_ = some ⟨b_2, o_2, none⟩ ∧ 0 ≤ i_1 ∧ i_1 < (x114n_ : Int) ∧
             ∃ x131_ : Int, cellsAt hp_20 b_2 (o_2 + Int.toNat i_1 * 1) [(Value.int .i64 x131_)] ∧
             (((decide (x131_ ≤ last_)) = true →
               hp_20 = hp_20 ∧ B_2 = true) ∧
              ((decide (x131_ ≤ last_)) = false →
               ∃ b_3 o_3, x114p_ = some ⟨b_3, o_3, none⟩ ∧ 0 ≤ i_1 ∧ i_1 < (x114n_ : Int) ∧
               ∃ x138_ : Int, cellsAt hp_20 b_3 (o_3 + Int.toNat i_1 * 1) [(Value.int .i64 x138_)] ∧
               ∃ x141_, IntKind.i64.wrap (x30_ + x36_) = x141_ ∧
               hp_20 = hp_20 ∧ B_2 = (decide (x141_ ≤ x138_))))) ∧
            ((B_2 = true →
              R (.returned (Value.bool false)) hp_20) ∧
             (B_2 = false →
              ∃ b_4 o_4, x114p_ = some ⟨b_4, o_4, none⟩ ∧ 0 ≤ i_1 ∧ i_1 < (x114n_ : Int) ∧
              ∃ x147_ : Int, cellsAt hp_20 b_4 (o_4 + Int.toNat i_1 * 1) [(Value.int .i64 x147_)] ∧
              ∃ x127_, IntKind.i64.wrap (i_1 + (1 : Int)) = x127_ ∧
              (Iv_1 [(Value.int .i64 x147_), (Value.int .i64 x127_)] hp_20 ∧ m_1 [(Value.int .i64 x147_), (Value.int .i64 x127_)] hp_20 < m_1 [(Value.int .i64 last_), (Value.int .i64 i_1)] hp_20)))) ∧
           ((decide (i_1 < ((x114n_ : Nat) : Int))) = false →
            R (.returned (Value.bool true)) hp_20))))))))))) :
  CallsH Tryd.prog 5 #[(Value.int .i64 sectors_), (Value.int .i64 first_), (Value.int .i64 count_), (Value.slice rawp_ rawn_ rawc_)] h R := calls_vc fine false Tryd.func5 (ann := A5) (args := [(Value.int .i64 sectors_), (Value.int .i64 first_), (Value.int .i64 count_), (Value.slice rawp_ rawn_ rawc_)]) (by kernel_rfl) (Eq.mpr (by kernel_rfl) H)
/-- turnout/turnoutlaw19.WalScans -/
def A6 : Ann := (.seq .nil (.seq .nil (.seq .nil (.seq .nil (.cut (.seq (.join 42) (.cond (.seq .nil .nil) .nil)) [] (.cut (.seq (.join 48) (.cond (.seq .nil .nil) .nil)) [] (.seq .nil (.seq .nil (.seq .nil (.seq .nil (.seq (.join 8) .nil)))))))))))
theorem V6 (image_ : ByteArray) (first_ : Int) (count_ : Int) (epoch_ : Int) (h : Hp) (R : Ending → Hp → Prop) (H :
  CallsH Tryd.prog 10 #[] h fun en_ hp_ =>
  ∃ x18_ : Bool, en_ = .returned (Value.bool x18_) ∧
  CallsH Tryd.prog 25 #[(Value.string image_)] hp_ fun en_1 hp_1 =>
  ∃ x21r0_ : Option Addr, ∃ x21r1_ : Int, en_1 = .returned (Value.tuple #[(Value.pointer x21r0_), (Value.int .i64 x21r1_)]) ∧
  CallsH Tryd.prog 26 #[(Value.string image_)] hp_1 fun en_2 hp_2 =>
  ∃ x26r0_ : Option Addr, ∃ x26r1_ : Int, en_2 = .returned (Value.tuple #[(Value.pointer x26r0_), (Value.int .i64 x26r1_)]) ∧
  ∃ Jv_ : List Value → Hp → Prop,
  (∃ B_ : Bool, ((((!x18_) = true →
      hp_2 = hp_2 ∧ B_ = true) ∧
     ((!x18_) = false →
      (((decide (x21r1_ ≠ x26r1_)) = true →
        hp_2 = hp_2 ∧ B_ = true) ∧
       ((decide (x21r1_ ≠ x26r1_)) = false →
        ∃ x38_, EqV Tryd.prog 41 (Value.pointer x21r0_) (Value.pointer none) x38_ ∧
        ∃ x40_, EqV Tryd.prog 58 (Value.pointer x26r0_) (Value.pointer none) x40_ ∧
        ∃ x41_, EqV Tryd.prog 4 (Value.bool x38_) (Value.bool x40_) x41_ ∧
        hp_2 = hp_2 ∧ B_ = (!x41_)))))) ∧
   ((B_ = true →
     R (.returned (Value.bool false)) hp_2) ∧
    (B_ = false →
     Jv_ [] hp_2))) ∧
  (∀  hp_3, Jv_ [] hp_3 →
   ∃ Jv_1 : List Value → Hp → Prop,
   (∃ B_1 : Bool, (∃ x44_, EqV Tryd.prog 41 (Value.pointer x21r0_) (Value.pointer none) x44_ ∧
     ((x44_ = true →
       hp_3 = hp_3 ∧ B_1 = true) ∧
      (x44_ = false →
       ∃ x47_, EqV Tryd.prog 58 (Value.pointer x26r0_) (Value.pointer none) x47_ ∧
       hp_3 = hp_3 ∧ B_1 = x47_))) ∧
    ((B_1 = true →
      R (.returned (Value.bool true)) hp_3) ∧
     (B_1 = false →
      Jv_1 [] hp_3))) ∧
   (∀  hp_4, Jv_1 [] hp_4 →
    ∀ b_ hp_5, b_ = Array.size hp_4 → hp_5 = Array.push hp_4 (.cells #[(Value.pointer x21r0_), (Value.pointer x26r0_), (Value.pointer none), (Value.pointer none)] 64) →
    CallsH Tryd.prog 27 #[(Value.pointer (some ⟨b_, 0, none⟩)), (Value.int .i64 first_), (Value.int .i64 count_), (Value.int .u64 epoch_)] hp_5 fun en_3 hp_6 =>
    ∃ x57_ : Bool, en_3 = .returned (Value.bool x57_) ∧
    CallsH Tryd.prog 28 #[(Value.pointer (some ⟨b_, 0, none⟩)), (Value.int .i64 first_), (Value.int .i64 count_)] hp_6 fun en_4 hp_7 =>
    ∃ x61_ : Bool, en_4 = .returned (Value.bool x61_) ∧
    CallsH Tryd.prog 22 #[(Value.pointer x21r0_)] hp_7 fun en_5 hp_8 =>
    ∃ x63f0_ : Int, ∃ x63f1_ : Int, ∃ x63f2_ : Int, en_5 = .returned (Value.agg #[(Value.int .i64 x63f0_), (Value.int .i64 x63f1_), (Value.int .i64 x63f2_)]) ∧
    ∀ b_1 hp_9, b_1 = Array.size hp_8 → hp_9 = Array.push hp_8 (.cells (zeros Tryd.prog 48) 48) → (∃ i z, Tryd.prog.info? 48 = some i ∧ i.zero = some z) ∧
    List.length [(Value.int .i64 x63f0_), (Value.int .i64 x63f1_), (Value.int .i64 x63f2_)] = 3 ∧ (∀ c ∈ [(Value.int .i64 x63f0_), (Value.int .i64 x63f1_), (Value.int .i64 x63f2_)], c.oneCell' = true) ∧ wrAt hp_9 b_1 0 3 ∧ ∀ hp_10, hp_10 = setsH hp_9 b_1 0 [(Value.int .i64 x63f0_), (Value.int .i64 x63f1_), (Value.int .i64 x63f2_)] →
    ∃ B_2 : Bool, (((x57_ = true →
       ((x61_ = true →
         ∃ x70_ : Int, cellsAt hp_10 b_1 (0 + 1) [(Value.int .i64 x70_)] ∧
         (((decide (x70_ = (0 : Int))) = true →
           ∃ x75_ : Int, cellsAt hp_10 b_1 (0 + 2) [(Value.int .i64 x75_)] ∧
           hp_10 = hp_10 ∧ B_2 = (decide (x75_ = (0 : Int)))) ∧
          ((decide (x70_ = (0 : Int))) = false →
           hp_10 = hp_10 ∧ B_2 = false))) ∧
        (x61_ = false →
         hp_10 = hp_10 ∧ B_2 = false))) ∧
      (x57_ = false →
       hp_10 = hp_10 ∧ B_2 = false))) ∧
    R (.returned (Value.bool B_2)) hp_10))) :
  CallsH Tryd.prog 6 #[(Value.string image_), (Value.int .i64 first_), (Value.int .i64 count_), (Value.int .u64 epoch_)] h R := calls_vc fine false Tryd.func6 (ann := A6) (args := [(Value.string image_), (Value.int .i64 first_), (Value.int .i64 count_), (Value.int .u64 epoch_)]) (by kernel_rfl) (Eq.mpr (by kernel_rfl) H)
/-- turnout/turnoutlaw19.WalBack -/
def A7 : Ann := (.seq .nil (.seq .nil (.seq .nil (.seq .nil (.seq .nil (.cut (.seq (.join 46) (.cond (.seq .nil .nil) .nil)) [] (.seq .nil (.cut (.seq (.join 59) (.cond (.seq .nil .nil) .nil)) [] (.seq .nil (.seq .nil (.seq .nil (.seq .nil (.seq .nil (.seq .nil (.seq .nil (.seq (.join 6) .nil))))))))))))))))
theorem V7 (count_ : Int) (epoch_ : Int) (rawp_ : Option Addr) (rawn_ rawc_ : Nat) (h : Hp) (R : Ending → Hp → Prop) (H :
  CallsH Tryd.prog 10 #[] h fun en_ hp_ =>
  ∃ x25_ : Bool, en_ = .returned (Value.bool x25_) ∧
  CallsH Tryd.prog 18 #[(Value.int .i64 count_), (Value.int .i64 (12 : Int))] hp_ fun en_1 hp_1 =>
  ∃ x27_ : Int, en_1 = .returned (Value.int .i64 x27_) ∧
  ∃ x28_, IntKind.i64.wrap ((1 : Int) + x27_) = x28_ ∧
  (4611686018427387904 : Int) ≠ 0 ∧ ∃ x30_, Int.tmod epoch_ (4611686018427387904 : Int) = x30_ ∧
  ∃ x31_, IntKind.u64.wrap ((1 : Int) + x30_) = x31_ ∧
  CallsH Tryd.prog 19 #[(Value.int .i64 x28_)] hp_1 fun en_2 hp_2 =>
  ∃ x34r0_ : Option Addr, ∃ x34r1_ : Int, en_2 = .returned (Value.tuple #[(Value.pointer x34r0_), (Value.int .i64 x34r1_)]) ∧
  ∃ Jv_ : List Value → Hp → Prop,
  (∃ B_ : Bool, ((((!x25_) = true →
      hp_2 = hp_2 ∧ B_ = true) ∧
     ((!x25_) = false →
      ∃ x41_, EqV Tryd.prog 41 (Value.pointer x34r0_) (Value.pointer none) x41_ ∧
      ((x41_ = true →
        hp_2 = hp_2 ∧ B_ = true) ∧
       (x41_ = false →
        hp_2 = hp_2 ∧ B_ = (decide (x34r1_ ≠ (0 : Int)))))))) ∧
   ((B_ = true →
     R (.returned (Value.bool false)) hp_2) ∧
    (B_ = false →
     Jv_ [] hp_2))) ∧
  (∀  hp_3, Jv_ [] hp_3 →
   CallsH Tryd.prog 14 #[(Value.pointer x34r0_), (Value.int .i64 (0 : Int)), (Value.int .i64 x28_), (Value.int .u64 x31_)] hp_3 fun en_3 hp_4 =>
   ∃ x51r0_ : Option Addr, ∃ x51r1_ : Int, en_3 = .returned (Value.tuple #[(Value.pointer x51r0_), (Value.int .i64 x51r1_)]) ∧
   ∃ Jv_1 : List Value → Hp → Prop,
   (∃ B_1 : Bool, (∃ x55_, EqV Tryd.prog 24 (Value.pointer x51r0_) (Value.pointer none) x55_ ∧
     ((x55_ = true →
       hp_4 = hp_4 ∧ B_1 = true) ∧
      (x55_ = false →
       hp_4 = hp_4 ∧ B_1 = (decide (x51r1_ ≠ (0 : Int)))))) ∧
    ((B_1 = true →
      R (.returned (Value.bool false)) hp_4) ∧
     (B_1 = false →
      Jv_1 [] hp_4))) ∧
   (∀  hp_5, Jv_1 [] hp_5 →
    CallsH Tryd.prog 21 #[(Value.slice rawp_ rawn_ rawc_)] hp_5 fun en_4 hp_6 =>
    ∃ (x63p_ : Option Addr) (x63n_ x63c_ : Nat), en_4 = .returned (Value.slice x63p_ x63n_ x63c_) ∧
    CallsH Tryd.prog 20 #[(Value.pointer x51r0_), (Value.slice x63p_ x63n_ x63c_), (Value.int .i64 (1 : Int))] hp_6 fun en_5 hp_7 =>
    ∃ (x64r0p_ : Option Addr) (x64r0n_ x64r0c_ : Nat), ∃ x64r1_ : Int, ∃ x64r2_ : Bool, en_5 = .returned (Value.tuple #[(Value.slice x64r0p_ x64r0n_ x64r0c_), (Value.int .i64 x64r1_), (Value.bool x64r2_)]) ∧
    CallsH Tryd.prog 12 #[(Value.pointer x51r0_)] hp_7 fun en_6 hp_8 =>
    ∃ x69_ : Int, en_6 = .returned (Value.int .i64 x69_) ∧
    CallsH Tryd.prog 29 #[(Value.pointer x34r0_), (Value.slice none 0 0)] hp_8 fun en_7 hp_9 =>
    en_7 = .returned (Value.tuple #[]) ∧
    CallsH Tryd.prog 15 #[(Value.pointer x34r0_), (Value.int .i64 (0 : Int)), (Value.int .i64 x28_), (Value.int .u64 x31_)] hp_9 fun en_8 hp_10 =>
    ∃ (x76r0p_ : Option Addr) (x76r0n_ x76r0c_ : Nat), ∃ x76r1_ : Int, en_8 = .returned (Value.tuple #[(Value.slice x76r0p_ x76r0n_ x76r0c_), (Value.int .i64 x76r1_)]) ∧
    ∃ x83_, IntKind.u64.wrap (x31_ + (1 : Int)) = x83_ ∧
    CallsH Tryd.prog 15 #[(Value.pointer x34r0_), (Value.int .i64 (0 : Int)), (Value.int .i64 x28_), (Value.int .u64 x83_)] hp_10 fun en_9 hp_11 =>
    ∃ (x84r0p_ : Option Addr) (x84r0n_ x84r0c_ : Nat), ∃ x84r1_ : Int, en_9 = .returned (Value.tuple #[(Value.slice x84r0p_ x84r0n_ x84r0c_), (Value.int .i64 x84r1_)]) ∧
    CallsH Tryd.prog 30 #[(Value.slice x76r0p_ x76r0n_ x76r0c_), (Value.slice x64r0p_ x64r0n_ x64r0c_)] hp_11 fun en_10 hp_12 =>
    ∃ x89_ : Bool, en_10 = .returned (Value.bool x89_) ∧
    CallsH Tryd.prog 16 #[(Value.pointer x34r0_), (Value.int .i64 (0 : Int)), (Value.int .i64 x28_)] hp_12 fun en_11 hp_13 =>
    ∃ x93r0_ : Int, ∃ x93r1_ : Int, en_11 = .returned (Value.tuple #[(Value.int .u64 x93r0_), (Value.int .i64 x93r1_)]) ∧
    ∃ B_2 : Bool, (((x64r2_ = true →
       ((x89_ = true →
         (((decide (x69_ = (0 : Int))) = true →
           (((decide (x76r1_ = (0 : Int))) = true →
             (((decide (x84r1_ = (0 : Int))) = true →
               (((decide (((x84r0n_ : Nat) : Int) = (0 : Int))) = true →
                 (((decide (x93r1_ = (0 : Int))) = true →
                   (((decide (x93r0_ = x31_)) = true →
                     hp_13 = hp_13 ∧ B_2 = true) ∧
                    ((decide (x93r0_ = x31_)) = false →
                     (((decide (x93r0_ = (0 : Int))) = true →
                       hp_13 = hp_13 ∧ B_2 = (decide (((x64r0n_ : Nat) : Int) = (0 : Int)))) ∧
                      ((decide (x93r0_ = (0 : Int))) = false →
                       hp_13 = hp_13 ∧ B_2 = false))))) ∧
                  ((decide (x93r1_ = (0 : Int))) = false →
                   hp_13 = hp_13 ∧ B_2 = false))) ∧
                ((decide (((x84r0n_ : Nat) : Int) = (0 : Int))) = false →
                 hp_13 = hp_13 ∧ B_2 = false))) ∧
              ((decide (x84r1_ = (0 : Int))) = false →
               hp_13 = hp_13 ∧ B_2 = false))) ∧
            ((decide (x76r1_ = (0 : Int))) = false →
             hp_13 = hp_13 ∧ B_2 = false))) ∧
          ((decide (x69_ = (0 : Int))) = false →
           hp_13 = hp_13 ∧ B_2 = false))) ∧
        (x89_ = false →
         hp_13 = hp_13 ∧ B_2 = false))) ∧
      (x64r2_ = false →
       hp_13 = hp_13 ∧ B_2 = false))) ∧
    R (.returned (Value.bool B_2)) hp_13))) :
  CallsH Tryd.prog 7 #[(Value.int .i64 count_), (Value.int .u64 epoch_), (Value.slice rawp_ rawn_ rawc_)] h R := calls_vc fine false Tryd.func7 (ann := A7) (args := [(Value.int .i64 count_), (Value.int .u64 epoch_), (Value.slice rawp_ rawn_ rawc_)]) (by kernel_rfl) (Eq.mpr (by kernel_rfl) H)
/-- turnout/turnoutlaw19.WalCrash -/
def A8 : Ann := (.seq .nil (.seq .nil (.seq .nil (.seq .nil (.seq .nil (.seq .nil (.cut (.seq (.join 52) (.cond (.seq .nil .nil) .nil)) [] (.seq .nil (.seq (.seq .nil (.cond (.seq .nil .nil) .nil)) (.seq (.seq .nil (.block (.loop [(12, (.int .u64)), (14, (.int .i64))] (.cut (.seq (.join 72) (.cond .nil .nil)) [] (.seq (.block (.seq .nil (.seq .nil (.cut (.seq (.join 89) (.cond (.seq .nil .nil) .nil)) [] (.seq .nil (.seq .nil (.seq .nil (.seq .nil (.seq .nil (.seq .nil (.seq (.join 156) (.cond (.seq .nil .nil) .nil)))))))))))) .nil))))) (.seq .nil .nil)))))))))))
theorem V8 (first_ : ByteArray) (count_ : Int) (rawp_ : Option Addr) (rawn_ rawc_ : Nat) (h : Hp) (R : Ending → Hp → Prop) (H :
  CallsH Tryd.prog 10 #[] h fun en_ hp_ =>
  ∃ x25_ : Bool, en_ = .returned (Value.bool x25_) ∧
  CallsH Tryd.prog 18 #[(Value.int .i64 count_), (Value.int .i64 (9 : Int))] hp_ fun en_1 hp_1 =>
  ∃ x27_ : Int, en_1 = .returned (Value.int .i64 x27_) ∧
  ∃ x28_, IntKind.i64.wrap ((1 : Int) + x27_) = x28_ ∧
  ∃ x30_, IntKind.i64.wrap ((512 : Int) * x28_) = x30_ ∧
  ∃ x31_, IntKind.i64.wrap (x30_ + (512 : Int)) = x31_ ∧
  SemH Tryd.prog (Instr.makeSlice 71 (Value.int .i64 x31_) (Value.int .i64 x31_)) hp_1 fun v_ hp_2 =>
  ∃ (x32p_ : Option Addr) (x32n_ x32c_ : Nat), v_ = (Value.slice x32p_ x32n_ x32c_) ∧
  ∃ l_ : Nat, (512 : Int) = (l_ : Int) ∧
  l_ ≤ x32n_ ∧ x32n_ ≤ x32c_ ∧ ∃ x34p_, cutP x32p_ x32c_ l_ 1 = x34p_ ∧
  SemH Tryd.prog (Builtin.copy_ #[71, 9] 3 #[(Value.slice x34p_ (x32n_ - l_) (x32c_ - l_)), (Value.string first_)]) hp_2 fun v_1 hp_3 =>
  ∃ x36_ : Int, v_1 = (Value.int .i64 x36_) ∧
  SemH Tryd.prog (convert 71 9 (Value.slice x32p_ x32n_ x32c_)) hp_3 fun v_2 hp_4 =>
  ∃ x39_ : ByteArray, v_2 = (Value.string x39_) ∧
  CallsH Tryd.prog 25 #[(Value.string x39_)] hp_4 fun en_2 hp_5 =>
  ∃ x40r0_ : Option Addr, ∃ x40r1_ : Int, en_2 = .returned (Value.tuple #[(Value.pointer x40r0_), (Value.int .i64 x40r1_)]) ∧
  ∃ Jv_ : List Value → Hp → Prop,
  (∃ B_ : Bool, ((((!x25_) = true →
      hp_5 = hp_5 ∧ B_ = true) ∧
     ((!x25_) = false →
      ∃ x47_, EqV Tryd.prog 41 (Value.pointer x40r0_) (Value.pointer none) x47_ ∧
      ((x47_ = true →
        hp_5 = hp_5 ∧ B_ = true) ∧
       (x47_ = false →
        hp_5 = hp_5 ∧ B_ = (decide (x40r1_ ≠ (0 : Int)))))))) ∧
   ((B_ = true →
     R (.returned (Value.bool false)) hp_5) ∧
    (B_ = false →
     Jv_ [] hp_5))) ∧
  (∀  hp_6, Jv_ [] hp_6 →
   CallsH Tryd.prog 16 #[(Value.pointer x40r0_), (Value.int .i64 (1 : Int)), (Value.int .i64 x28_)] hp_6 fun en_3 hp_7 =>
   ∃ x56r0_ : Int, ∃ x56r1_ : Int, en_3 = .returned (Value.tuple #[(Value.int .u64 x56r0_), (Value.int .i64 x56r1_)]) ∧
   (((decide (x56r1_ ≠ (0 : Int))) = true →
     R (.returned (Value.bool false)) hp_7) ∧
    ((decide (x56r1_ ≠ (0 : Int))) = false →
     ∃ (Iv_ : List Value → Hp → Prop) (m_ : List Value → Hp → Nat), Iv_ [(Value.int .u64 x56r0_), (Value.int .i64 (0 : Int))] hp_7 ∧
     (∀ (epoch_ : Int) (i_ : Int) hp_8, Iv_ [(Value.int .u64 epoch_), (Value.int .i64 i_)] hp_8 →
      ∃ Jv_1 : List Value → Hp → Prop,
      (∃ B_1 : Bool, ((((decide (i_ < ((rawn_ : Nat) : Int))) = true →
          (((decide (i_ < (6 : Int))) = true →
            hp_8 = hp_8 ∧ B_1 = (decide (epoch_ < (4611686018427387904 : Int)))) ∧
           ((decide (i_ < (6 : Int))) = false →
            hp_8 = hp_8 ∧ B_1 = false))) ∧
         ((decide (i_ < ((rawn_ : Nat) : Int))) = false →
          hp_8 = hp_8 ∧ B_1 = false))) ∧
       ((B_1 = true →
         Jv_1 [] hp_8) ∧
        (B_1 = false →
         R (.returned (Value.bool true)) hp_8))) ∧
      (∀  hp_9, Jv_1 [] hp_9 →
       ∃ x76_, IntKind.u64.wrap (epoch_ + (1 : Int)) = x76_ ∧
       CallsH Tryd.prog 14 #[(Value.pointer x40r0_), (Value.int .i64 (1 : Int)), (Value.int .i64 x28_), (Value.int .u64 x76_)] hp_9 fun en_4 hp_10 =>
       ∃ x81r0_ : Option Addr, ∃ x81r1_ : Int, en_4 = .returned (Value.tuple #[(Value.pointer x81r0_), (Value.int .i64 x81r1_)]) ∧
       ∃ Jv_2 : List Value → Hp → Prop,
       (∃ B_2 : Bool, (∃ x85_, EqV Tryd.prog 24 (Value.pointer x81r0_) (Value.pointer none) x85_ ∧
         ((x85_ = true →
           hp_10 = hp_10 ∧ B_2 = true) ∧
          (x85_ = false →
           hp_10 = hp_10 ∧ B_2 = (decide (x81r1_ ≠ (0 : Int)))))) ∧
        ((B_2 = true →
          R (.returned (Value.bool false)) hp_10) ∧
         (B_2 = false →
          Jv_2 [] hp_10))) ∧
       (∀  hp_11, Jv_2 [] hp_11 →
        ∃ b_ o_, rawp_ = some ⟨b_, o_, none⟩ ∧ 0 ≤ i_ ∧ i_ < (rawn_ : Int) ∧
        ∃ x95_ : Int, cellsAt hp_11 b_ ((o_ + Int.toNat i_ * 3) + 1) [(Value.int .i64 x95_)] ∧
        CallsH Tryd.prog 18 #[(Value.int .i64 x95_), (Value.int .i64 (12 : Int))] hp_11 fun en_5 hp_12 =>
        ∃ x96_ : Int, en_5 = .returned (Value.int .i64 x96_) ∧
        CallsH Tryd.prog 31 #[(Value.pointer x40r0_), (Value.int .i64 x96_)] hp_12 fun en_6 hp_13 =>
        en_6 = .returned (Value.tuple #[]) ∧
        ∃ b_1 o_1, rawp_ = some ⟨b_1, o_1, none⟩ ∧ 0 ≤ i_ ∧ i_ < (rawn_ : Int) ∧
        ∃ (x104p_ : Option Addr) (x104n_ x104c_ : Nat), cellsAt hp_13 b_1 ((o_1 + Int.toNat i_ * 3) + 0) [(Value.slice x104p_ x104n_ x104c_)] ∧
        CallsH Tryd.prog 21 #[(Value.slice x104p_ x104n_ x104c_)] hp_13 fun en_7 hp_14 =>
        ∃ (x105p_ : Option Addr) (x105n_ x105c_ : Nat), en_7 = .returned (Value.slice x105p_ x105n_ x105c_) ∧
        ∃ x107_, IntKind.i64.wrap ((40 : Int) * i_) = x107_ ∧
        CallsH Tryd.prog 20 #[(Value.pointer x81r0_), (Value.slice x105p_ x105n_ x105c_), (Value.int .i64 x107_)] hp_14 fun en_8 hp_15 =>
        ∃ (x108r0p_ : Option Addr) (x108r0n_ x108r0c_ : Nat), ∃ x108r1_ : Int, ∃ x108r2_ : Bool, en_8 = .returned (Value.tuple #[(Value.slice x108r0p_ x108r0n_ x108r0c_), (Value.int .i64 x108r1_), (Value.bool x108r2_)]) ∧
        ∃ b_2 o_2, rawp_ = some ⟨b_2, o_2, none⟩ ∧ 0 ≤ i_ ∧ i_ < (rawn_ : Int) ∧
        ∃ (x117p_ : Option Addr) (x117n_ x117c_ : Nat), cellsAt hp_15 b_2 ((o_2 + Int.toNat i_ * 3) + 2) [(Value.slice x117p_ x117n_ x117c_)] ∧
        CallsH Tryd.prog 29 #[(Value.pointer x40r0_), (Value.slice x117p_ x117n_ x117c_)] hp_15 fun en_9 hp_16 =>
        en_9 = .returned (Value.tuple #[]) ∧
        CallsH Tryd.prog 15 #[(Value.pointer x40r0_), (Value.int .i64 (1 : Int)), (Value.int .i64 x28_), (Value.int .u64 x76_)] hp_16 fun en_10 hp_17 =>
        ∃ (x123r0p_ : Option Addr) (x123r0n_ x123r0c_ : Nat), ∃ x123r1_ : Int, en_10 = .returned (Value.tuple #[(Value.slice x123r0p_ x123r0n_ x123r0c_), (Value.int .i64 x123r1_)]) ∧
        ∃ x130_, IntKind.u64.wrap (x76_ + (1 : Int)) = x130_ ∧
        CallsH Tryd.prog 15 #[(Value.pointer x40r0_), (Value.int .i64 (1 : Int)), (Value.int .i64 x28_), (Value.int .u64 x130_)] hp_17 fun en_11 hp_18 =>
        ∃ (x131r0p_ : Option Addr) (x131r0n_ x131r0c_ : Nat), ∃ x131r1_ : Int, en_11 = .returned (Value.tuple #[(Value.slice x131r0p_ x131r0n_ x131r0c_), (Value.int .i64 x131r1_)]) ∧
        CallsH Tryd.prog 32 #[(Value.slice x123r0p_ x123r0n_ x123r0c_), (Value.slice x108r0p_ x108r0n_ x108r0c_), (Value.int .i64 x108r1_)] hp_18 fun en_12 hp_19 =>
        ∃ x137_ : Bool, en_12 = .returned (Value.bool x137_) ∧
        ∃ B_3 : Bool, ((((!x108r2_) = true →
           hp_19 = hp_19 ∧ B_3 = true) ∧
          ((!x108r2_) = false →
           (((!x137_) = true →
             hp_19 = hp_19 ∧ B_3 = true) ∧
            ((!x137_) = false →
             (((decide (x123r1_ ≠ (0 : Int))) = true →
               hp_19 = hp_19 ∧ B_3 = true) ∧
              ((decide (x123r1_ ≠ (0 : Int))) = false →
               (((decide (x131r1_ ≠ (0 : Int))) = true →
                 hp_19 = hp_19 ∧ B_3 = true) ∧
                ((decide (x131r1_ ≠ (0 : Int))) = false →
                 hp_19 = hp_19 ∧ B_3 = (decide (((x131r0n_ : Nat) : Int) ≠ (0 : Int)))))))))))) ∧
        ((B_3 = true →
          R (.returned (Value.bool false)) hp_19) ∧
         (B_3 = false →
          ∃ x74_, IntKind.i64.wrap (i_ + (1 : Int)) = x74_ ∧
          (Iv_ [(Value.int .u64 x76_), (Value.int .i64 x74_)] hp_19 ∧ m_ [(Value.int .u64 x76_), (Value.int .i64 x74_)] hp_19 < m_ [(Value.int .u64 epoch_), (Value.int .i64 i_)] hp_8)))))))))) :
  CallsH Tryd.prog 8 #[(Value.string first_), (Value.int .i64 count_), (Value.slice rawp_ rawn_ rawc_)] h R := calls_vc fine false Tryd.func8 (ann := A8) (args := [(Value.string first_), (Value.int .i64 count_), (Value.slice rawp_ rawn_ rawc_)]) (by kernel_rfl) (Eq.mpr (by kernel_rfl) H)
/-- turnout/turnoutlaw19.WalPlays -/
def A9 : Ann := (.seq .nil (.seq .nil (.seq .nil (.seq .nil (.seq .nil (.seq (.seq .nil (.block (.loop [(10, .slice), (11, (.int .i64))] (.seq (.seq .nil (.cond .nil .nil)) (.seq (.block (.seq .nil (.seq .nil (.cut (.seq (.join 55) (.cond (.seq .nil .nil) .nil)) [] (.seq .nil (.seq .nil (.seq (.seq (.join 77) (.cond (.seq .nil .nil) .nil)) .nil))))))) .nil))))) (.seq (.seq .nil (.block (.loop [(18, (.int .i64))] (.seq (.seq .nil (.cond .nil .nil)) (.seq (.block (.seq .nil (.seq .nil (.seq (.seq .nil (.cond (.seq .nil .nil) .nil)) (.seq .nil (.seq .nil (.seq (.join 118) (.cond (.seq .nil .nil) .nil)))))))) .nil))))) (.seq .nil (.seq .nil (.seq (.join 6) .nil))))))))))
theorem V9 (sectors_ : Int) (first_ : Int) (scriptp_ : Option Addr) (scriptn_ scriptc_ : Nat) (h : Hp) (R : Ending → Hp → Prop) (H :
  CallsH Tryd.prog 10 #[] h fun en_ hp_ =>
  ∃ x25_ : Bool, en_ = .returned (Value.bool x25_) ∧
  CallsH Tryd.prog 18 #[(Value.int .i64 sectors_), (Value.int .i64 (7 : Int))] hp_ fun en_1 hp_1 =>
  ∃ x27_ : Int, en_1 = .returned (Value.int .i64 x27_) ∧
  ∃ x28_, IntKind.i64.wrap ((2 : Int) + x27_) = x28_ ∧
  CallsH Tryd.prog 18 #[(Value.int .i64 first_), (Value.int .i64 x28_)] hp_1 fun en_2 hp_2 =>
  ∃ x31_ : Int, en_2 = .returned (Value.int .i64 x31_) ∧
  ∃ (Iv_ : List Value → Hp → Prop) (m_ : List Value → Hp → Nat), Iv_ [(Value.slice none 0 0), (Value.int .i64 (0 : Int))] hp_2 ∧
  (∀ (lp_ : Option Addr) (ln_ lc_ : Nat) (k_ : Int) hp_3, Iv_ [(Value.slice lp_ ln_ lc_), (Value.int .i64 k_)] hp_3 →
   (((decide (k_ < (2 : Int))) = true →
     CallsH Tryd.prog 19 #[(Value.int .i64 x28_)] hp_3 fun en_3 hp_4 =>
     ∃ x38r0_ : Option Addr, ∃ x38r1_ : Int, en_3 = .returned (Value.tuple #[(Value.pointer x38r0_), (Value.int .i64 x38r1_)]) ∧
     CallsH Tryd.prog 33 #[(Value.int .i64 x28_)] hp_4 fun en_4 hp_5 =>
     ∃ x43r0_ : Option Addr, ∃ x43r1_ : Int, en_4 = .returned (Value.tuple #[(Value.pointer x43r0_), (Value.int .i64 x43r1_)]) ∧
     ∃ Jv_ : List Value → Hp → Prop,
     (∃ B_ : Bool, ((((!x25_) = true →
         hp_5 = hp_5 ∧ B_ = true) ∧
        ((!x25_) = false →
         ∃ x50_, EqV Tryd.prog 41 (Value.pointer x38r0_) (Value.pointer none) x50_ ∧
         ((x50_ = true →
           hp_5 = hp_5 ∧ B_ = true) ∧
          (x50_ = false →
           hp_5 = hp_5 ∧ B_ = (decide (x38r1_ ≠ (0 : Int)))))))) ∧
      ((B_ = true →
        R (.returned (Value.bool false)) hp_5) ∧
       (B_ = false →
        Jv_ [] hp_5))) ∧
     (∀  hp_6, Jv_ [] hp_6 →
      ∀ b_ hp_7, b_ = Array.size hp_6 → hp_7 = Array.push hp_6 (.cells #[(Value.pointer x38r0_), (Value.pointer x43r0_), (Value.pointer none), (Value.pointer none)] 64) →
      ∃ x64_, IntKind.i64.wrap (x28_ - x31_) = x64_ ∧
      ∃ x66_, IntKind.u64.wrap k_ = x66_ ∧
      ∃ x67_, IntKind.u64.wrap ((1 : Int) + x66_) = x67_ ∧
      CallsH Tryd.prog 34 #[(Value.pointer (some ⟨b_, 0, none⟩)), (Value.int .i64 x31_), (Value.int .i64 x64_), (Value.int .u64 x67_)] hp_7 fun en_5 hp_8 =>
      ∃ x68_ : Bool, en_5 = .returned (Value.bool x68_) ∧
      ∃ B_1 : Bool, ((((!x68_) = true →
         hp_8 = hp_8 ∧ B_1 = true) ∧
        ((!x68_) = false →
         ∃ x75_ : Option Addr, cellsAt hp_8 b_ (0 + 2) [(Value.pointer x75_)] ∧
         ∃ x76_, EqV Tryd.prog 24 (Value.pointer x75_) (Value.pointer none) x76_ ∧
         hp_8 = hp_8 ∧ B_1 = x76_))) ∧
      ((B_1 = true →
        R (.returned (Value.bool false)) hp_8) ∧
       (B_1 = false →
        SemH Tryd.prog (Instr.buildSlice 79 1 #[(0, (Value.pointer (some ⟨b_, 0, none⟩)))]) hp_8 fun v_ hp_9 =>
        ∃ (x80p_ : Option Addr) (x80n_ x80c_ : Nat), v_ = (Value.slice x80p_ x80n_ x80c_) ∧
        SemH Tryd.prog (Builtin.append_ #[79, 79] 79 #[(Value.slice lp_ ln_ lc_), (Value.slice x80p_ x80n_ x80c_)]) hp_9 fun v_1 hp_10 =>
        ∃ (x81p_ : Option Addr) (x81n_ x81c_ : Nat), v_1 = (Value.slice x81p_ x81n_ x81c_) ∧
        ∃ x35_, IntKind.i64.wrap (k_ + (1 : Int)) = x35_ ∧
        (Iv_ [(Value.slice x81p_ x81n_ x81c_), (Value.int .i64 x35_)] hp_10 ∧ m_ [(Value.slice x81p_ x81n_ x81c_), (Value.int .i64 x35_)] hp_10 < m_ [(Value.slice lp_ ln_ lc_), (Value.int .i64 k_)] hp_3))))) ∧
    ((decide (k_ < (2 : Int))) = false →
     ∃ (Iv_1 : List Value → Hp → Prop) (m_1 : List Value → Hp → Nat), Iv_1 [(Value.int .i64 (0 : Int))] hp_3 ∧
     (∀ (i_ : Int) hp_11, Iv_1 [(Value.int .i64 i_)] hp_11 →
      (((decide (i_ < ((scriptn_ : Nat) : Int))) = true →
        ∃ b_1 o_, scriptp_ = some ⟨b_1, o_, none⟩ ∧ 0 ≤ i_ ∧ i_ < (scriptn_ : Int) ∧
        ∃ x93_ : Int, cellsAt hp_11 b_1 ((o_ + Int.toNat i_ * 8) + 1) [(Value.int .i64 x93_)] ∧
        CallsH Tryd.prog 18 #[(Value.int .i64 x93_), (Value.int .i64 (2 : Int))] hp_11 fun en_6 hp_12 =>
        ∃ x94_ : Int, en_6 = .returned (Value.int .i64 x94_) ∧
        ∃ b_2 o_1, lp_ = some ⟨b_2, o_1, none⟩ ∧ 0 ≤ x94_ ∧ x94_ < (ln_ : Int) ∧
        ∃ x96_ : Option Addr, cellsAt hp_12 b_2 (o_1 + Int.toNat x94_ * 1) [(Value.pointer x96_)] ∧
        ∃ b_3 o_2, scriptp_ = some ⟨b_3, o_2, none⟩ ∧ 0 ≤ i_ ∧ i_ < (scriptn_ : Int) ∧
        ∃ x101f0_ : Int, ∃ x101f1_ : Int, ∃ x101f2_ : Int, ∃ x101f3_ : Int, ∃ x101f4_ : Int, ∃ x101f5_ : Int, ∃ x101f6_ : ByteArray, ∃ (x101f7p_ : Option Addr) (x101f7n_ x101f7c_ : Nat), cellsAt hp_12 b_3 (o_2 + Int.toNat i_ * 8) [(Value.int .i64 x101f0_), (Value.int .i64 x101f1_), (Value.int .i64 x101f2_), (Value.int .i64 x101f3_), (Value.int .i64 x101f4_), (Value.int .u64 x101f5_), (Value.string x101f6_), (Value.slice x101f7p_ x101f7n_ x101f7c_)] ∧
        CallsH Tryd.prog 35 #[(Value.pointer x96_), (Value.agg #[(Value.int .i64 x101f0_), (Value.int .i64 x101f1_), (Value.int .i64 x101f2_), (Value.int .i64 x101f3_), (Value.int .i64 x101f4_), (Value.int .u64 x101f5_), (Value.string x101f6_), (Value.slice x101f7p_ x101f7n_ x101f7c_)])] hp_12 fun en_7 hp_13 =>
        ∃ x102_ : Bool, en_7 = .returned (Value.bool x102_) ∧
        (((!x102_) = true →
          R (.returned (Value.bool false)) hp_13) ∧
         ((!x102_) = false →
          ∃ b_4 o_3, lp_ = some ⟨b_4, o_3, none⟩ ∧ 0 ≤ (0 : Int) ∧ (0 : Int) < (ln_ : Int) ∧
          ∃ x107_ : Option Addr, cellsAt hp_13 b_4 (o_3 + Int.toNat (0 : Int) * 1) [(Value.pointer x107_)] ∧
          CallsH Tryd.prog 36 #[(Value.pointer x107_)] hp_13 fun en_8 hp_14 =>
          ∃ x108_ : Bool, en_8 = .returned (Value.bool x108_) ∧
          ∃ b_5 o_4, lp_ = some ⟨b_5, o_4, none⟩ ∧ 0 ≤ (1 : Int) ∧ (1 : Int) < (ln_ : Int) ∧
          ∃ x111_ : Option Addr, cellsAt hp_14 b_5 (o_4 + Int.toNat (1 : Int) * 1) [(Value.pointer x111_)] ∧
          CallsH Tryd.prog 36 #[(Value.pointer x111_)] hp_14 fun en_9 hp_15 =>
          ∃ x112_ : Bool, en_9 = .returned (Value.bool x112_) ∧
          ∃ B_2 : Bool, ((((!x108_) = true →
             hp_15 = hp_15 ∧ B_2 = true) ∧
            ((!x108_) = false →
             hp_15 = hp_15 ∧ B_2 = (!x112_)))) ∧
          ((B_2 = true →
            R (.returned (Value.bool false)) hp_15) ∧
           (B_2 = false →
            ∃ x87_, IntKind.i64.wrap (i_ + (1 : Int)) = x87_ ∧
            (Iv_1 [(Value.int .i64 x87_)] hp_15 ∧ m_1 [(Value.int .i64 x87_)] hp_15 < m_1 [(Value.int .i64 i_)] hp_11)))))) ∧
       ((decide (i_ < ((scriptn_ : Nat) : Int))) = false →
        ∃ b_6 o_5, lp_ = some ⟨b_6, o_5, none⟩ ∧ 0 ≤ (0 : Int) ∧ (0 : Int) < (ln_ : Int) ∧
        ∃ x121_ : Option Addr, cellsAt hp_11 b_6 (o_5 + Int.toNat (0 : Int) * 1) [(Value.pointer x121_)] ∧
        CallsH Tryd.prog 37 #[(Value.pointer x121_)] hp_11 fun en_10 hp_16 =>
        ∃ x122_ : Bool, en_10 = .returned (Value.bool x122_) ∧
        ∃ b_7 o_6, lp_ = some ⟨b_7, o_6, none⟩ ∧ 0 ≤ (1 : Int) ∧ (1 : Int) < (ln_ : Int) ∧
        ∃ x125_ : Option Addr, cellsAt hp_16 b_7 (o_6 + Int.toNat (1 : Int) * 1) [(Value.pointer x125_)] ∧
        CallsH Tryd.prog 37 #[(Value.pointer x125_)] hp_16 fun en_11 hp_17 =>
        ∃ x126_ : Bool, en_11 = .returned (Value.bool x126_) ∧
        ∃ B_3 : Bool, (((x122_ = true →
           hp_17 = hp_17 ∧ B_3 = x126_) ∧
          (x122_ = false →
           hp_17 = hp_17 ∧ B_3 = false))) ∧
        R (.returned (Value.bool B_3)) hp_17))))))) :
  CallsH Tryd.prog 9 #[(Value.int .i64 sectors_), (Value.int .i64 first_), (Value.slice scriptp_ scriptn_ scriptc_)] h R := calls_vc fine false Tryd.func9 (ann := A9) (args := [(Value.int .i64 sectors_), (Value.int .i64 first_), (Value.slice scriptp_ scriptn_ scriptc_)]) (by kernel_rfl) (Eq.mpr (by kernel_rfl) H)
/-- turnout/turnoutlaw19.awake -/
def A10 : Ann := (.seq .nil (.seq .nil (.cut (.seq (.join 25) (.cond (.seq .nil .nil) .nil)) [] (.seq .nil (.cut (.seq .nil (.cond (.seq .nil .nil) .nil)) [] (.seq .nil (.seq .nil (.seq .nil (.seq .nil (.seq .nil (.seq .nil (.seq .nil (.seq .nil (.seq (.drawLast [38, 45]) .nil))))))))))))))
theorem V10  (h : Hp) (R : Ending → Hp → Prop) (H :
  CallsH Tryd.prog 19 #[(Value.int .i64 (3 : Int))] h fun en_ hp_ =>
  ∃ x17r0_ : Option Addr, ∃ x17r1_ : Int, en_ = .returned (Value.tuple #[(Value.pointer x17r0_), (Value.int .i64 x17r1_)]) ∧
  ∃ Jv_ : List Value → Hp → Prop,
  (∃ B_ : Bool, (∃ x21_, EqV Tryd.prog 41 (Value.pointer x17r0_) (Value.pointer none) x21_ ∧
    ((x21_ = true →
      hp_ = hp_ ∧ B_ = true) ∧
     (x21_ = false →
      hp_ = hp_ ∧ B_ = (decide (x17r1_ ≠ (0 : Int)))))) ∧
   ((B_ = true →
     R (.returned (Value.bool false)) hp_) ∧
    (B_ = false →
     Jv_ [] hp_))) ∧
  (∀  hp_1, Jv_ [] hp_1 →
   CallsH Tryd.prog 14 #[(Value.pointer x17r0_), (Value.int .i64 (1 : Int)), (Value.int .i64 (2 : Int)), (Value.int .u64 (9 : Int))] hp_1 fun en_1 hp_2 =>
   ∃ x28r0_ : Option Addr, ∃ x28r1_ : Int, en_1 = .returned (Value.tuple #[(Value.pointer x28r0_), (Value.int .i64 x28r1_)]) ∧
   ∃ Jv_1 : List Value → Hp → Prop,
   (∃ x32_, EqV Tryd.prog 24 (Value.pointer x28r0_) (Value.pointer none) x32_ ∧
    ((x32_ = true →
      R (.returned (Value.bool false)) hp_2) ∧
     (x32_ = false →
      (((decide (x28r1_ ≠ (0 : Int))) = true →
        R (.returned (Value.bool false)) hp_2) ∧
       ((decide (x28r1_ ≠ (0 : Int))) = false →
        CallsH Tryd.prog 17 #[(Value.pointer x28r0_)] hp_2 fun en_2 hp_3 =>
        ∃ x39_ : Int, en_2 = .returned (Value.int .i64 x39_) ∧
        (((decide (x39_ ≠ (976 : Int))) = true →
          R (.returned (Value.bool false)) hp_3) ∧
         ((decide (x39_ ≠ (976 : Int))) = false →
          Jv_1 [] hp_3))))))) ∧
   (∀  hp_4, Jv_1 [] hp_4 →
    CallsH Tryd.prog 23 #[(Value.int .i64 (488 : Int)), (Value.int .i64 (1 : Int))] hp_4 fun en_3 hp_5 =>
    ∃ x43_ : ByteArray, en_3 = .returned (Value.string x43_) ∧
    CallsH Tryd.prog 11 #[(Value.pointer x28r0_), (Value.string x43_)] hp_5 fun en_4 hp_6 =>
    ∃ x44_ : Int, en_4 = .returned (Value.int .i64 x44_) ∧
    CallsH Tryd.prog 23 #[(Value.int .i64 (100 : Int)), (Value.int .i64 (2 : Int))] hp_6 fun en_5 hp_7 =>
    ∃ x46_ : ByteArray, en_5 = .returned (Value.string x46_) ∧
    CallsH Tryd.prog 11 #[(Value.pointer x28r0_), (Value.string x46_)] hp_7 fun en_6 hp_8 =>
    ∃ x47_ : Int, en_6 = .returned (Value.int .i64 x47_) ∧
    CallsH Tryd.prog 13 #[(Value.pointer x28r0_)] hp_8 fun en_7 hp_9 =>
    ∃ x50r0_ : Int, ∃ x50r1_ : Int, en_7 = .returned (Value.tuple #[(Value.int .i64 x50r0_), (Value.int .i64 x50r1_)]) ∧
    CallsH Tryd.prog 17 #[(Value.pointer x28r0_)] hp_9 fun en_8 hp_10 =>
    ∃ x54_ : Int, en_8 = .returned (Value.int .i64 x54_) ∧
    CallsH Tryd.prog 23 #[(Value.int .i64 (386 : Int)), (Value.int .i64 (3 : Int))] hp_10 fun en_9 hp_11 =>
    ∃ x56_ : ByteArray, en_9 = .returned (Value.string x56_) ∧
    CallsH Tryd.prog 11 #[(Value.pointer x28r0_), (Value.string x56_)] hp_11 fun en_10 hp_12 =>
    ∃ x57_ : Int, en_10 = .returned (Value.int .i64 x57_) ∧
    CallsH Tryd.prog 12 #[(Value.pointer x28r0_)] hp_12 fun en_11 hp_13 =>
    ∃ x59_ : Int, en_11 = .returned (Value.int .i64 x59_) ∧
    CallsH Tryd.prog 15 #[(Value.pointer x17r0_), (Value.int .i64 (1 : Int)), (Value.int .i64 (2 : Int)), (Value.int .u64 (9 : Int))] hp_13 fun en_12 hp_14 =>
    ∃ (x62r0p_ : Option Addr) (x62r0n_ x62r0c_ : Nat), ∃ x62r1_ : Int, en_12 = .returned (Value.tuple #[(Value.slice x62r0p_ x62r0n_ x62r0c_), (Value.int .i64 x62r1_)]) ∧
    CallsH Tryd.prog 16 #[(Value.pointer x17r0_), (Value.int .i64 (0 : Int)), (Value.int .i64 (3 : Int))] hp_14 fun en_13 hp_15 =>
    ∃ x67r0_ : Int, ∃ x67r1_ : Int, en_13 = .returned (Value.tuple #[(Value.int .u64 x67r0_), (Value.int .i64 x67r1_)]) ∧
    ∃ Cv_ : Hp → Prop, Cv_ hp_15 ∧
    (((decide (x44_ = (0 : Int))) = true →
      (((decide (x47_ = (0 : Int))) = true →
        (((decide (x50r0_ = (1 : Int))) = true →
          (((decide (x50r1_ = (103 : Int))) = true →
            (((decide (x54_ = (385 : Int))) = true →
              (((decide (x57_ = (190 : Int))) = true →
                (((decide (x59_ = (0 : Int))) = true →
                  (((decide (x62r1_ = (0 : Int))) = true →
                    (((decide (((x62r0n_ : Nat) : Int) = (2 : Int))) = true →
                      ∃ b_ o_, x62r0p_ = some ⟨b_, o_, none⟩ ∧ 0 ≤ (0 : Int) ∧ (0 : Int) < (x62r0n_ : Int) ∧
                      ∃ x108_ : ByteArray, (∀ h', Cv_ h' → cellsAt h' b_ (o_ + Int.toNat (0 : Int) * 1) [(Value.string x108_)]) ∧
                      CallsH Tryd.prog 23 #[(Value.int .i64 (488 : Int)), (Value.int .i64 (1 : Int))] hp_15 fun en_14 hp_16 =>
                      ∃ x109_ : ByteArray, en_14 = .returned (Value.string x109_) ∧
                      Cv_ hp_16 ∧
                      (((decide (x108_ = x109_)) = true →
                        ∃ b_1 o_1, x62r0p_ = some ⟨b_1, o_1, none⟩ ∧ 0 ≤ (1 : Int) ∧ (1 : Int) < (x62r0n_ : Int) ∧
                        ∃ x115_ : ByteArray, (∀ h', Cv_ h' → cellsAt h' b_1 (o_1 + Int.toNat (1 : Int) * 1) [(Value.string x115_)]) ∧
                        CallsH Tryd.prog 23 #[(Value.int .i64 (100 : Int)), (Value.int .i64 (2 : Int))] hp_16 fun en_15 hp_17 =>
                        ∃ x116_ : ByteArray, en_15 = .returned (Value.string x116_) ∧
                        Cv_ hp_17 ∧
                        (((decide (x115_ = x116_)) = true →
                          (((decide (x67r0_ = (9 : Int))) = true →
                            R (.returned (Value.bool (decide (x67r1_ = (0 : Int))))) hp_17) ∧
                           ((decide (x67r0_ = (9 : Int))) = false →
                            R (.returned (Value.bool false)) hp_17))) ∧
                         ((decide (x115_ = x116_)) = false →
                          R (.returned (Value.bool false)) hp_17))) ∧
                       ((decide (x108_ = x109_)) = false →
                        R (.returned (Value.bool false)) hp_16))) ∧
                     ((decide (((x62r0n_ : Nat) : Int) = (2 : Int))) = false →
                      R (.returned (Value.bool false)) hp_15))) ∧
                   ((decide (x62r1_ = (0 : Int))) = false →
                    R (.returned (Value.bool false)) hp_15))) ∧
                 ((decide (x59_ = (0 : Int))) = false →
                  R (.returned (Value.bool false)) hp_15))) ∧
               ((decide (x57_ = (190 : Int))) = false →
                R (.returned (Value.bool false)) hp_15))) ∧
             ((decide (x54_ = (385 : Int))) = false →
              R (.returned (Value.bool false)) hp_15))) ∧
           ((decide (x50r1_ = (103 : Int))) = false →
            R (.returned (Value.bool false)) hp_15))) ∧
         ((decide (x50r0_ = (1 : Int))) = false →
          R (.returned (Value.bool false)) hp_15))) ∧
       ((decide (x47_ = (0 : Int))) = false →
        R (.returned (Value.bool false)) hp_15))) ∧
     ((decide (x44_ = (0 : Int))) = false →
      R (.returned (Value.bool false)) hp_15))))) :
  CallsH Tryd.prog 10 #[] h R := calls_vc fine false Tryd.func10 (ann := A10) (args := []) (by kernel_rfl) (Eq.mpr (by kernel_rfl) H)
/-- (*turnout/wal.Log).Append -/
def A11 : Ann := (.seq .nil (.cut (.block (.seq (.join 8) (.cond (.seq .nil .nil) (.seq .nil (.cond (.seq .nil .nil) (.seq .nil (.cond (.seq .nil .nil) (.seq .nil (.cond (.seq .nil .nil) .nil))))))))) [] (.seq (.seq .nil (.block (.loop [(1, .str), (5, .bool)] (.seq (.seq .nil (.cond .nil .nil)) (.seq (.block (.seq .nil (.seq (.drawLast [4]) (.seq .nil (.seq .nil (.seq .nil (.cond (.seq .nil (.seq .nil (.cond (.seq .nil .nil) .nil))) .nil))))))) .nil))))) (.seq .nil .nil))))
theorem V11 (l_ : Option Addr) (record_ : ByteArray) (h : Hp) (R : Ending → Hp → Prop) (H :
  ∃ Jv_ : List Value → Hp → Prop,
  (∃ B_ : Bool, (∃ x10_, EqV Tryd.prog 24 (Value.pointer l_) (Value.pointer none) x10_ ∧
    ((x10_ = true →
      h = h ∧ B_ = true) ∧
     (x10_ = false →
      ∃ b_ o_, l_ = some ⟨b_, o_, none⟩ ∧
      ∃ x15_ : Bool, cellsAt h b_ (o_ + 6) [(Value.bool x15_)] ∧
      (((!x15_) = true →
        h = h ∧ B_ = (decide (record_ = (⟨#[]⟩ : ByteArray)))) ∧
       ((!x15_) = false →
        h = h ∧ B_ = false))))) ∧
   ((B_ = true →
     R (.returned (Value.int .i64 (1 : Int))) h) ∧
    (B_ = false →
     ∃ b_1 o_1, l_ = some ⟨b_1, o_1, none⟩ ∧
     ∃ x26_ : Bool, cellsAt h b_1 (o_1 + 6) [(Value.bool x26_)] ∧
     ((x26_ = true →
       R (.returned (Value.int .i64 (191 : Int))) h) ∧
      (x26_ = false →
       (((decide ((65536 : Int) < (ByteArray.size record_ : Int))) = true →
         R (.returned (Value.int .i64 (2 : Int))) h) ∧
        ((decide ((65536 : Int) < (ByteArray.size record_ : Int))) = false →
         CallsH Tryd.prog 17 #[(Value.pointer l_)] h fun en_ hp_ =>
         ∃ x35_ : Int, en_ = .returned (Value.int .i64 x35_) ∧
         (((decide (x35_ < (ByteArray.size record_ : Int))) = true →
           R (.returned (Value.int .i64 (190 : Int))) hp_) ∧
          ((decide (x35_ < (ByteArray.size record_ : Int))) = false →
           Jv_ [] hp_))))))))) ∧
  (∀  hp_1, Jv_ [] hp_1 →
   ∃ (Iv_ : List Value → Hp → Prop) (m_ : List Value → Hp → Nat), Iv_ [(Value.string record_), (Value.bool true)] hp_1 ∧
   (∀ (record_1 : ByteArray) (begins_ : Bool) hp_2, Iv_ [(Value.string record_1), (Value.bool begins_)] hp_2 →
    (((decide (record_1 ≠ (⟨#[]⟩ : ByteArray))) = true →
      CallsH Tryd.prog 38 #[(Value.pointer l_)] hp_2 fun en_1 hp_3 =>
      ∃ x42_ : Int, en_1 = .returned (Value.int .i64 x42_) ∧
      ∃ x43_, IntKind.i64.wrap (x42_ - (3 : Int)) = x43_ ∧
      ∃ Cv_ : Hp → Prop, Cv_ hp_3 ∧
      ∃ b_2 o_2, l_ = some ⟨b_2, o_2, none⟩ ∧
      ∃ (x49p_ : Option Addr) (x49n_ x49c_ : Nat), (∀ h', Cv_ h' → cellsAt h' b_2 (o_2 + 5) [(Value.slice x49p_ x49n_ x49c_)]) ∧
      CallsH Tryd.prog 39 #[(Value.bool begins_), (Value.bool (decide ((min (ByteArray.size record_1 : Int) x43_) = (ByteArray.size record_1 : Int))))] hp_3 fun en_2 hp_4 =>
      ∃ x55_ : Int, en_2 = .returned (Value.int .u8 x55_) ∧
      Cv_ hp_4 ∧
      0 ≤ (8 : Int) ∧ ∃ x57_, shrI .i64 (min (ByteArray.size record_1 : Int) x43_) (8 : Int) = x57_ ∧
      ∃ x58_, IntKind.u8.wrap x57_ = x58_ ∧
      ∃ x60_, IntKind.u8.wrap (min (ByteArray.size record_1 : Int) x43_) = x60_ ∧
      SemH Tryd.prog (Instr.buildSlice 71 3 #[(0, (Value.int .u8 x55_)), (1, (Value.int .u8 x58_)), (2, (Value.int .u8 x60_))]) hp_4 fun v_ hp_5 =>
      ∃ (x61p_ : Option Addr) (x61n_ x61c_ : Nat), v_ = (Value.slice x61p_ x61n_ x61c_) ∧
      Cv_ hp_5 ∧
      SemH Tryd.prog (Builtin.append_ #[71, 71] 71 #[(Value.slice x49p_ x49n_ x49c_), (Value.slice x61p_ x61n_ x61c_)]) hp_5 fun v_1 hp_6 =>
      ∃ (x62p_ : Option Addr) (x62n_ x62c_ : Nat), v_1 = (Value.slice x62p_ x62n_ x62c_) ∧
      Cv_ hp_6 ∧
      ∃ b_3 o_3, l_ = some ⟨b_3, o_3, none⟩ ∧
      Value.oneCell' (Value.slice x62p_ x62n_ x62c_) = true ∧ wrAt hp_6 b_3 (o_3 + 5) 1 ∧ ∀ hp_7, hp_7 = setsH hp_6 b_3 (o_3 + 5) [(Value.slice x62p_ x62n_ x62c_)] →
      ∃ b_4 o_4, l_ = some ⟨b_4, o_4, none⟩ ∧
      ∃ (x69p_ : Option Addr) (x69n_ x69c_ : Nat), cellsAt hp_7 b_4 (o_4 + 5) [(Value.slice x69p_ x69n_ x69c_)] ∧
      ∃ u_ : Nat, (min (ByteArray.size record_1 : Int) x43_) = (u_ : Int) ∧
      0 ≤ u_ ∧ u_ ≤ ByteArray.size record_1 ∧ ∃ x72_, ByteArray.extract record_1 0 u_ = x72_ ∧
      SemH Tryd.prog (Builtin.append_ #[71, 9] 71 #[(Value.slice x69p_ x69n_ x69c_), (Value.string x72_)]) hp_7 fun v_2 hp_8 =>
      ∃ (x73p_ : Option Addr) (x73n_ x73c_ : Nat), v_2 = (Value.slice x73p_ x73n_ x73c_) ∧
      ∃ b_5 o_5, l_ = some ⟨b_5, o_5, none⟩ ∧
      Value.oneCell' (Value.slice x73p_ x73n_ x73c_) = true ∧ wrAt hp_8 b_5 (o_5 + 5) 1 ∧ ∀ hp_9, hp_9 = setsH hp_8 b_5 (o_5 + 5) [(Value.slice x73p_ x73n_ x73c_)] →
      ∃ l_1 : Nat, (min (ByteArray.size record_1 : Int) x43_) = (l_1 : Int) ∧
      l_1 ≤ (ByteArray.size record_1) ∧ (ByteArray.size record_1) ≤ ByteArray.size record_1 ∧ ∃ x78_, ByteArray.extract record_1 l_1 (ByteArray.size record_1) = x78_ ∧
      CallsH Tryd.prog 38 #[(Value.pointer l_)] hp_9 fun en_3 hp_10 =>
      ∃ x80_ : Int, en_3 = .returned (Value.int .i64 x80_) ∧
      (((decide (x80_ ≤ (3 : Int))) = true →
        CallsH Tryd.prog 40 #[(Value.pointer l_)] hp_10 fun en_4 hp_11 =>
        ∃ x83_ : Int, en_4 = .returned (Value.int .i64 x83_) ∧
        (((decide (x83_ ≠ (0 : Int))) = true →
          R (.returned (Value.int .i64 x83_)) hp_11) ∧
         ((decide (x83_ ≠ (0 : Int))) = false →
          (Iv_ [(Value.string x78_), (Value.bool false)] hp_11 ∧ m_ [(Value.string x78_), (Value.bool false)] hp_11 < m_ [(Value.string record_1), (Value.bool begins_)] hp_2)))) ∧
       ((decide (x80_ ≤ (3 : Int))) = false →
        (Iv_ [(Value.string x78_), (Value.bool false)] hp_10 ∧ m_ [(Value.string x78_), (Value.bool false)] hp_10 < m_ [(Value.string record_1), (Value.bool begins_)] hp_2)))) ∧
     ((decide (record_1 ≠ (⟨#[]⟩ : ByteArray))) = false →
      R (.returned (Value.int .i64 (0 : Int))) hp_2))))) :
  CallsH Tryd.prog 11 #[(Value.pointer l_), (Value.string record_)] h R := calls_vc fine false Tryd.func11 (ann := A11) (args := [(Value.pointer l_), (Value.string record_)]) (by kernel_rfl) (Eq.mpr (by kernel_rfl) H)
/-- (*turnout/wal.Log).Sync -/
def A12 : Ann := (.seq .nil (.seq (.seq .nil (.cond (.seq .nil .nil) .nil)) (.seq (.seq .nil (.cond (.seq .nil .nil) .nil)) (.cut (.seq .nil (.cond (.seq .nil (.seq .nil (.cond (.seq .nil .nil) .nil))) .nil)) [] (.seq .nil (.seq .nil (.seq .nil .nil)))))))
theorem V12 (l_ : Option Addr) (h : Hp) (R : Ending → Hp → Prop) (H :
  ∃ x6_, EqV Tryd.prog 24 (Value.pointer l_) (Value.pointer none) x6_ ∧
  ((x6_ = true →
    R (.returned (Value.int .i64 (1 : Int))) h) ∧
   (x6_ = false →
    ∃ b_ o_, l_ = some ⟨b_, o_, none⟩ ∧
    ∃ x10_ : Bool, cellsAt h b_ (o_ + 6) [(Value.bool x10_)] ∧
    ((x10_ = true →
      R (.returned (Value.int .i64 (191 : Int))) h) ∧
     (x10_ = false →
      ∃ Jv_ : List Value → Hp → Prop,
      (∃ b_1 o_1, l_ = some ⟨b_1, o_1, none⟩ ∧
       ∃ (x14p_ : Option Addr) (x14n_ x14c_ : Nat), cellsAt h b_1 (o_1 + 5) [(Value.slice x14p_ x14n_ x14c_)] ∧
       (((decide ((0 : Int) < ((x14n_ : Nat) : Int))) = true →
         CallsH Tryd.prog 40 #[(Value.pointer l_)] h fun en_ hp_ =>
         ∃ x18_ : Int, en_ = .returned (Value.int .i64 x18_) ∧
         (((decide (x18_ ≠ (0 : Int))) = true →
           R (.returned (Value.int .i64 x18_)) hp_) ∧
          ((decide (x18_ ≠ (0 : Int))) = false →
           Jv_ [] hp_))) ∧
        ((decide ((0 : Int) < ((x14n_ : Nat) : Int))) = false →
         Jv_ [] h))) ∧
      (∀  hp_1, Jv_ [] hp_1 →
       ∃ b_2 o_2, l_ = some ⟨b_2, o_2, none⟩ ∧
       ∃ x25_ : Option Addr, cellsAt hp_1 b_2 (o_2 + 0) [(Value.pointer x25_)] ∧
       CallsH Tryd.prog 41 #[(Value.pointer x25_)] hp_1 fun en_1 hp_2 =>
       ∃ x26_ : Int, en_1 = .returned (Value.int .i64 x26_) ∧
       ∃ b_3 o_3, l_ = some ⟨b_3, o_3, none⟩ ∧
       Value.oneCell' (Value.bool (decide (x26_ ≠ (0 : Int)))) = true ∧ wrAt hp_2 b_3 (o_3 + 6) 1 ∧ ∀ hp_3, hp_3 = setsH hp_2 b_3 (o_3 + 6) [(Value.bool (decide (x26_ ≠ (0 : Int))))] →
       R (.returned (Value.int .i64 x26_)) hp_3)))))) :
  CallsH Tryd.prog 12 #[(Value.pointer l_)] h R := calls_vc fine false Tryd.func12 (ann := A12) (args := [(Value.pointer l_)]) (by kernel_rfl) (Eq.mpr (by kernel_rfl) H)
/-- (*turnout/wal.Log).At -/
def A13 : Ann := (.seq .nil (.seq (.seq .nil (.cond (.seq .nil .nil) .nil)) (.seq .nil .nil)))
theorem V13 (l_ : Option Addr) (h : Hp) (R : Ending → Hp → Prop) (H :
  ∃ x5_, EqV Tryd.prog 24 (Value.pointer l_) (Value.pointer none) x5_ ∧
  ((x5_ = true →
    R (.returned (Value.tuple #[(Value.int .i64 (0 : Int)), (Value.int .i64 (0 : Int))])) h) ∧
   (x5_ = false →
    ∃ b_ o_, l_ = some ⟨b_, o_, none⟩ ∧
    ∃ x9_ : Int, cellsAt h b_ (o_ + 4) [(Value.int .i64 x9_)] ∧
    ∃ b_1 o_1, l_ = some ⟨b_1, o_1, none⟩ ∧
    ∃ (x13p_ : Option Addr) (x13n_ x13c_ : Nat), cellsAt h b_1 (o_1 + 5) [(Value.slice x13p_ x13n_ x13c_)] ∧
    R (.returned (Value.tuple #[(Value.int .i64 x9_), (Value.int .i64 ((x13n_ : Nat) : Int))])) h))) :
  CallsH Tryd.prog 13 #[(Value.pointer l_)] h R := calls_vc fine false Tryd.func13 (ann := A13) (args := [(Value.pointer l_)]) (by kernel_rfl) (Eq.mpr (by kernel_rfl) H)
/-- turnout/wal.New -/
def A14 : Ann := (.seq .nil (.cut (.seq .nil (.cond (.seq .nil .nil) .nil)) [] (.seq .nil .nil)))
theorem V14 (d_ : Option Addr) (first_ : Int) (count_ : Int) (epoch_ : Int) (h : Hp) (R : Ending → Hp → Prop) (H :
  ∃ Jv_ : List Value → Hp → Prop,
  (CallsH Tryd.prog 42 #[(Value.pointer d_), (Value.int .i64 first_), (Value.int .i64 count_)] h fun en_ hp_ =>
   ∃ x13_ : Bool, en_ = .returned (Value.bool x13_) ∧
   (((!x13_) = true →
     R (.returned (Value.tuple #[(Value.pointer none), (Value.int .i64 (1 : Int))])) hp_) ∧
    ((!x13_) = false →
     (((decide (epoch_ < (1 : Int))) = true →
       R (.returned (Value.tuple #[(Value.pointer none), (Value.int .i64 (1 : Int))])) hp_) ∧
      ((decide (epoch_ < (1 : Int))) = false →
       (((decide ((9223372036854775807 : Int) < epoch_)) = true →
         R (.returned (Value.tuple #[(Value.pointer none), (Value.int .i64 (1 : Int))])) hp_) ∧
        ((decide ((9223372036854775807 : Int) < epoch_)) = false →
         Jv_ [] hp_))))))) ∧
  (∀  hp_1, Jv_ [] hp_1 →
   ∀ b_ hp_2, b_ = Array.size hp_1 → hp_2 = Array.push hp_1 (.cells #[(Value.pointer d_), (Value.int .i64 first_), (Value.int .i64 count_), (Value.int .u64 epoch_), (Value.int .i64 (0 : Int)), (Value.slice none 0 0), (Value.bool false)] 86) →
   R (.returned (Value.tuple #[(Value.pointer (some ⟨b_, 0, none⟩)), (Value.int .i64 (0 : Int))])) hp_2)) :
  CallsH Tryd.prog 14 #[(Value.pointer d_), (Value.int .i64 first_), (Value.int .i64 count_), (Value.int .u64 epoch_)] h R := calls_vc fine false Tryd.func14 (ann := A14) (args := [(Value.pointer d_), (Value.int .i64 first_), (Value.int .i64 count_), (Value.int .u64 epoch_)]) (by kernel_rfl) (Eq.mpr (by kernel_rfl) H)
/-- turnout/wal.Scan -/
def A15 : Ann := (.seq .nil (.cut (.seq .nil (.cond (.seq .nil .nil) .nil)) [] (.seq .nil (.seq (.seq .nil (.block (.loop [(31, (.int .i64))] (.seq .nil (.seq (.cond .nil .nil) (.seq (.block (.seq .nil (.seq .nil (.seq (.seq .nil (.cond (.seq .nil .nil) .nil)) (.cut (.seq (.join 63) (.cond .nil .nil)) [] (.seq .nil (.seq (.join 75) (.cond .nil .nil)))))))) .nil)))))) (.seq .nil .nil)))))
theorem V15 (d_ : Option Addr) (first_ : Int) (count_ : Int) (epoch_ : Int) (h : Hp) (R : Ending → Hp → Prop) (H :
  ∃ Jv_ : List Value → Hp → Prop,
  (CallsH Tryd.prog 42 #[(Value.pointer d_), (Value.int .i64 first_), (Value.int .i64 count_)] h fun en_ hp_ =>
   ∃ x18_ : Bool, en_ = .returned (Value.bool x18_) ∧
   (((!x18_) = true →
     R (.returned (Value.tuple #[(Value.slice none 0 0), (Value.int .i64 (1 : Int))])) hp_) ∧
    ((!x18_) = false →
     (((decide (epoch_ < (1 : Int))) = true →
       R (.returned (Value.tuple #[(Value.slice none 0 0), (Value.int .i64 (1 : Int))])) hp_) ∧
      ((decide (epoch_ < (1 : Int))) = false →
       (((decide ((9223372036854775807 : Int) < epoch_)) = true →
         R (.returned (Value.tuple #[(Value.slice none 0 0), (Value.int .i64 (1 : Int))])) hp_) ∧
        ((decide ((9223372036854775807 : Int) < epoch_)) = false →
         Jv_ [] hp_))))))) ∧
  (∀  hp_1, Jv_ [] hp_1 →
   ∀ b_ hp_2, b_ = Array.size hp_1 → hp_2 = Array.push hp_1 (.cells #[(Value.slice none 0 0), (Value.slice none 0 0), (Value.bool false)] 92) →
   ∃ (Iv_ : List Value → Hp → Prop) (m_ : List Value → Hp → Nat), Iv_ [(Value.int .i64 (0 : Int))] hp_2 ∧
   (∀ (x31_ : Int) hp_3, Iv_ [(Value.int .i64 x31_)] hp_3 →
    (((decide (x31_ < count_)) = true →
      ∃ x38_, IntKind.i64.wrap (first_ + x31_) = x38_ ∧
      CallsH Tryd.prog 43 #[(Value.pointer d_), (Value.int .i64 x38_)] hp_3 fun en_1 hp_4 =>
      ∃ x39r0f0_ : Int, ∃ x39r0f1_ : Int, ∃ x39r0f2_ : Int, ∃ x39r0f3_ : ByteArray, ∃ x39r1_ : Int, en_1 = .returned (Value.tuple #[(Value.agg #[(Value.int .i64 x39r0f0_), (Value.int .u64 x39r0f1_), (Value.int .i64 x39r0f2_), (Value.string x39r0f3_)]), (Value.int .i64 x39r1_)]) ∧
      ∀ b_1 hp_5, b_1 = Array.size hp_4 → hp_5 = Array.push hp_4 (.cells (zeros Tryd.prog 94) 94) → (∃ i z, Tryd.prog.info? 94 = some i ∧ i.zero = some z) ∧
      List.length [(Value.int .i64 x39r0f0_), (Value.int .u64 x39r0f1_), (Value.int .i64 x39r0f2_), (Value.string x39r0f3_)] = 4 ∧ (∀ c ∈ [(Value.int .i64 x39r0f0_), (Value.int .u64 x39r0f1_), (Value.int .i64 x39r0f2_), (Value.string x39r0f3_)], c.oneCell' = true) ∧ wrAt hp_5 b_1 0 4 ∧ ∀ hp_6, hp_6 = setsH hp_5 b_1 0 [(Value.int .i64 x39r0f0_), (Value.int .u64 x39r0f1_), (Value.int .i64 x39r0f2_), (Value.string x39r0f3_)] →
      (((decide (x39r1_ = (40 : Int))) = true →
        R (.returned (Value.tuple #[(Value.slice none 0 0), (Value.int .i64 x39r1_)])) hp_6) ∧
       ((decide (x39r1_ = (40 : Int))) = false →
        ∃ Jv_1 : List Value → Hp → Prop,
        (∃ B_ : Bool, ((((decide (x39r1_ ≠ (0 : Int))) = true →
            hp_6 = hp_6 ∧ B_ = true) ∧
           ((decide (x39r1_ ≠ (0 : Int))) = false →
            ∃ x49_ : Int, cellsAt hp_6 b_1 (0 + 0) [(Value.int .i64 x49_)] ∧
            (((decide (x49_ ≠ (3 : Int))) = true →
              hp_6 = hp_6 ∧ B_ = true) ∧
             ((decide (x49_ ≠ (3 : Int))) = false →
              ∃ x54_ : Int, cellsAt hp_6 b_1 (0 + 1) [(Value.int .u64 x54_)] ∧
              (((decide (x54_ ≠ epoch_)) = true →
                hp_6 = hp_6 ∧ B_ = true) ∧
               ((decide (x54_ ≠ epoch_)) = false →
                ∃ x60_ : Int, cellsAt hp_6 b_1 (0 + 2) [(Value.int .i64 x60_)] ∧
                hp_6 = hp_6 ∧ B_ = (decide (x60_ ≠ x31_))))))))) ∧
         ((B_ = true →
           ∃ (x80p_ : Option Addr) (x80n_ x80c_ : Nat), cellsAt hp_6 b_ (0 + 0) [(Value.slice x80p_ x80n_ x80c_)] ∧
           R (.returned (Value.tuple #[(Value.slice x80p_ x80n_ x80c_), (Value.int .i64 (0 : Int))])) hp_6) ∧
          (B_ = false →
           Jv_1 [] hp_6))) ∧
        (∀  hp_7, Jv_1 [] hp_7 →
         ∃ x66_ : ByteArray, cellsAt hp_7 b_1 (0 + 3) [(Value.string x66_)] ∧
         CallsH Tryd.prog 44 #[(Value.pointer (some ⟨b_, 0, none⟩)), (Value.string x66_)] hp_7 fun en_2 hp_8 =>
         ∃ x67_ : Value, en_2 = .returned x67_ ∧
         ∃ B_1 : Bool, (∃ x69_ : Value, cellsAt hp_8 0 0 [x69_] ∧
          guardFree Tryd.prog 98 x67_ x69_ = true ∧ ∃ x70_, EqH Tryd.prog hp_8 98 x67_ x69_ x70_ ∧
          ((x70_ = true →
            hp_8 = hp_8 ∧ B_1 = true) ∧
           (x70_ = false →
            ∃ x73_ : Value, cellsAt hp_8 1 0 [x73_] ∧
            guardFree Tryd.prog 98 x67_ x73_ = true ∧ ∃ x74_, EqH Tryd.prog hp_8 98 x67_ x73_ x74_ ∧
            hp_8 = hp_8 ∧ B_1 = x74_))) ∧
         ((B_1 = true →
           ∃ (x80p_1 : Option Addr) (x80n_1 x80c_1 : Nat), cellsAt hp_8 b_ (0 + 0) [(Value.slice x80p_1 x80n_1 x80c_1)] ∧
           R (.returned (Value.tuple #[(Value.slice x80p_1 x80n_1 x80c_1), (Value.int .i64 (0 : Int))])) hp_8) ∧
          (B_1 = false →
           ∃ x76_, IntKind.i64.wrap (x31_ + (1 : Int)) = x76_ ∧
           (Iv_ [(Value.int .i64 x76_)] hp_8 ∧ m_ [(Value.int .i64 x76_)] hp_8 < m_ [(Value.int .i64 x31_)] hp_3))))))) ∧
     ((decide (x31_ < count_)) = false →
      ∃ (x80p_2 : Option Addr) (x80n_2 x80c_2 : Nat), cellsAt hp_3 b_ (0 + 0) [(Value.slice x80p_2 x80n_2 x80c_2)] ∧
      R (.returned (Value.tuple #[(Value.slice x80p_2 x80n_2 x80c_2), (Value.int .i64 (0 : Int))])) hp_3))))) :
  CallsH Tryd.prog 15 #[(Value.pointer d_), (Value.int .i64 first_), (Value.int .i64 count_), (Value.int .u64 epoch_)] h R := calls_vc fine false Tryd.func15 (ann := A15) (args := [(Value.pointer d_), (Value.int .i64 first_), (Value.int .i64 count_), (Value.int .u64 epoch_)]) (by kernel_rfl) (Eq.mpr (by kernel_rfl) H)
/-- turnout/wal.Last -/
def A16 : Ann := (.seq .nil (.seq (.seq .nil (.cond (.seq .nil .nil) .nil)) (.seq .nil (.seq (.seq .nil (.block (.loop [(8, (.int .u64)), (18, (.int .i64))] (.seq .nil (.seq (.cond .nil .nil) (.seq (.block (.seq .nil (.seq .nil (.block (.seq .nil (.cond (.seq .nil .nil) (.seq (.join 33) (.cond .nil .nil)))))))) .nil)))))) (.seq .nil .nil)))))
theorem V16 (d_ : Option Addr) (first_ : Int) (count_ : Int) (h : Hp) (R : Ending → Hp → Prop) (H :
  CallsH Tryd.prog 42 #[(Value.pointer d_), (Value.int .i64 first_), (Value.int .i64 count_)] h fun en_ hp_ =>
  ∃ x15_ : Bool, en_ = .returned (Value.bool x15_) ∧
  (((!x15_) = true →
    R (.returned (Value.tuple #[(Value.int .u64 (0 : Int)), (Value.int .i64 (1 : Int))])) hp_) ∧
   ((!x15_) = false →
    ∃ (Iv_ : List Value → Hp → Prop) (m_ : List Value → Hp → Nat), Iv_ [(Value.int .u64 (0 : Int)), (Value.int .i64 (0 : Int))] hp_ ∧
    (∀ (n_ : Int) (x18_ : Int) hp_1, Iv_ [(Value.int .u64 n_), (Value.int .i64 x18_)] hp_1 →
     (((decide (x18_ < count_)) = true →
       ∃ x25_, IntKind.i64.wrap (first_ + x18_) = x25_ ∧
       CallsH Tryd.prog 43 #[(Value.pointer d_), (Value.int .i64 x25_)] hp_1 fun en_1 hp_2 =>
       ∃ x26r0f0_ : Int, ∃ x26r0f1_ : Int, ∃ x26r0f2_ : Int, ∃ x26r0f3_ : ByteArray, ∃ x26r1_ : Int, en_1 = .returned (Value.tuple #[(Value.agg #[(Value.int .i64 x26r0f0_), (Value.int .u64 x26r0f1_), (Value.int .i64 x26r0f2_), (Value.string x26r0f3_)]), (Value.int .i64 x26r1_)]) ∧
       ∀ b_ hp_3, b_ = Array.size hp_2 → hp_3 = Array.push hp_2 (.cells (zeros Tryd.prog 94) 94) → (∃ i z, Tryd.prog.info? 94 = some i ∧ i.zero = some z) ∧
       List.length [(Value.int .i64 x26r0f0_), (Value.int .u64 x26r0f1_), (Value.int .i64 x26r0f2_), (Value.string x26r0f3_)] = 4 ∧ (∀ c ∈ [(Value.int .i64 x26r0f0_), (Value.int .u64 x26r0f1_), (Value.int .i64 x26r0f2_), (Value.string x26r0f3_)], c.oneCell' = true) ∧ wrAt hp_3 b_ 0 4 ∧ ∀ hp_4, hp_4 = setsH hp_3 b_ 0 [(Value.int .i64 x26r0f0_), (Value.int .u64 x26r0f1_), (Value.int .i64 x26r0f2_), (Value.string x26r0f3_)] →
       (((decide (x26r1_ = (40 : Int))) = true →
         R (.returned (Value.tuple #[(Value.int .u64 (0 : Int)), (Value.int .i64 x26r1_)])) hp_4) ∧
        ((decide (x26r1_ = (40 : Int))) = false →
         ∃ B_ : Bool, ((((decide (x26r1_ = (0 : Int))) = true →
            ∃ x38_ : Int, cellsAt hp_4 b_ (0 + 0) [(Value.int .i64 x38_)] ∧
            hp_4 = hp_4 ∧ B_ = (decide (x38_ = (3 : Int)))) ∧
           ((decide (x26r1_ = (0 : Int))) = false →
            hp_4 = hp_4 ∧ B_ = false))) ∧
         ((B_ = true →
           ∃ x43_ : Int, cellsAt hp_4 b_ (0 + 1) [(Value.int .u64 x43_)] ∧
           ∃ x45_, IntKind.i64.wrap (x18_ + (1 : Int)) = x45_ ∧
           (Iv_ [(Value.int .u64 (max n_ x43_)), (Value.int .i64 x45_)] hp_4 ∧ m_ [(Value.int .u64 (max n_ x43_)), (Value.int .i64 x45_)] hp_4 < m_ [(Value.int .u64 n_), (Value.int .i64 x18_)] hp_1)) ∧
          (B_ = false →
           ∃ x45_1, IntKind.i64.wrap (x18_ + (1 : Int)) = x45_1 ∧
           (Iv_ [(Value.int .u64 n_), (Value.int .i64 x45_1)] hp_4 ∧ m_ [(Value.int .u64 n_), (Value.int .i64 x45_1)] hp_4 < m_ [(Value.int .u64 n_), (Value.int .i64 x18_)] hp_1)))))) ∧
      ((decide (x18_ < count_)) = false →
       R (.returned (Value.tuple #[(Value.int .u64 n_), (Value.int .i64 (0 : Int))])) hp_1)))))) :
  CallsH Tryd.prog 16 #[(Value.pointer d_), (Value.int .i64 first_), (Value.int .i64 count_)] h R := calls_vc fine false Tryd.func16 (ann := A16) (args := [(Value.pointer d_), (Value.int .i64 first_), (Value.int .i64 count_)]) (by kernel_rfl) (Eq.mpr (by kernel_rfl) H)
/-- (*turnout/wal.Log).Free -/
def A17 : Ann := (.seq .nil (.cut (.seq (.join 22) (.cond (.seq .nil .nil) .nil)) [] (.seq (.drawLast [7, 11]) (.seq .nil .nil))))
theorem V17 (l_ : Option Addr) (h : Hp) (R : Ending → Hp → Prop) (H :
  ∃ Jv_ : List Value → Hp → Prop,
  (∃ B_ : Bool, (∃ x5_, EqV Tryd.prog 24 (Value.pointer l_) (Value.pointer none) x5_ ∧
    ((x5_ = true →
      h = h ∧ B_ = true) ∧
     (x5_ = false →
      ∃ b_ o_, l_ = some ⟨b_, o_, none⟩ ∧
      ∃ x10_ : Bool, cellsAt h b_ (o_ + 6) [(Value.bool x10_)] ∧
      ((x10_ = true →
        h = h ∧ B_ = true) ∧
       (x10_ = false →
        ∃ b_1 o_1, l_ = some ⟨b_1, o_1, none⟩ ∧
        ∃ x16_ : Int, cellsAt h b_1 (o_1 + 4) [(Value.int .i64 x16_)] ∧
        ∃ b_2 o_2, l_ = some ⟨b_2, o_2, none⟩ ∧
        ∃ x20_ : Int, cellsAt h b_2 (o_2 + 2) [(Value.int .i64 x20_)] ∧
        h = h ∧ B_ = (decide (x16_ = x20_))))))) ∧
   ((B_ = true →
     R (.returned (Value.int .i64 (0 : Int))) h) ∧
    (B_ = false →
     Jv_ [] h))) ∧
  (∀  hp_, Jv_ [] hp_ →
   ∃ Cv_ : Hp → Prop, Cv_ hp_ ∧
   CallsH Tryd.prog 38 #[(Value.pointer l_)] hp_ fun en_ hp_1 =>
   ∃ x24_ : Int, en_ = .returned (Value.int .i64 x24_) ∧
   Cv_ hp_1 ∧
   ∃ x25_, IntKind.i64.wrap (x24_ - (3 : Int)) = x25_ ∧
   ∃ b_3 o_3, l_ = some ⟨b_3, o_3, none⟩ ∧
   ∃ x30_ : Int, (∀ h', Cv_ h' → cellsAt h' b_3 (o_3 + 2) [(Value.int .i64 x30_)]) ∧
   ∃ b_4 o_4, l_ = some ⟨b_4, o_4, none⟩ ∧
   ∃ x34_ : Int, (∀ h', Cv_ h' → cellsAt h' b_4 (o_4 + 4) [(Value.int .i64 x34_)]) ∧
   ∃ x35_, IntKind.i64.wrap (x30_ - x34_) = x35_ ∧
   ∃ x36_, IntKind.i64.wrap (x35_ - (1 : Int)) = x36_ ∧
   ∃ x37_, IntKind.i64.wrap ((488 : Int) * x36_) = x37_ ∧
   ∃ x38_, IntKind.i64.wrap ((max x25_ (0 : Int)) + x37_) = x38_ ∧
   R (.returned (Value.int .i64 (min x38_ (65536 : Int)))) hp_1)) :
  CallsH Tryd.prog 17 #[(Value.pointer l_)] h R := calls_vc fine false Tryd.func17 (ann := A17) (args := [(Value.pointer l_)]) (by kernel_rfl) (Eq.mpr (by kernel_rfl) H)
/-- turnout/turnoutlaw19.pick -/
def A18 : Ann := (.seq .nil (.seq (.seq .nil (.cond .nil .nil)) (.seq .nil .nil)))
theorem V18 (c_ : Int) (n_ : Int) (h : Hp) (R : Ending → Hp → Prop) (H :
  (((decide (c_ < (0 : Int))) = true →
    ∃ x8_, IntKind.i64.wrap (c_ + (1 : Int)) = x8_ ∧
    ∃ x9_, IntKind.i64.wrap (0 - x8_) = x9_ ∧
    n_ ≠ 0 ∧ ∃ x12_, Int.tmod x9_ n_ = x12_ ∧
    R (.returned (Value.int .i64 x12_)) h) ∧
   ((decide (c_ < (0 : Int))) = false →
    n_ ≠ 0 ∧ ∃ x12_1, Int.tmod c_ n_ = x12_1 ∧
    R (.returned (Value.int .i64 x12_1)) h))) :
  CallsH Tryd.prog 18 #[(Value.int .i64 c_), (Value.int .i64 n_)] h R := calls_vc fine false Tryd.func18 (ann := A18) (args := [(Value.int .i64 c_), (Value.int .i64 n_)]) (by kernel_rfl) (Eq.mpr (by kernel_rfl) H)
/-- turnout/disk.New -/
def A19 : Ann := (.seq .nil (.cut (.seq (.join 12) (.cond (.seq .nil .nil) .nil)) [] (.seq .nil (.seq .nil (.seq (.seq .nil (.block (.loop [(25, (.int .i64))] (.seq .nil (.seq (.cond .nil .nil) (.seq (.block (.seq .nil .nil)) .nil)))))) (.seq .nil .nil))))))
theorem V19 (sectors_ : Int) (h : Hp) (R : Ending → Hp → Prop) (H :
  ∃ Jv_ : List Value → Hp → Prop,
  (∃ B_ : Bool, ((((decide (sectors_ < (1 : Int))) = true →
      h = h ∧ B_ = true) ∧
     ((decide (sectors_ < (1 : Int))) = false →
      h = h ∧ B_ = (decide ((4096 : Int) < sectors_))))) ∧
   ((B_ = true →
     R (.returned (Value.tuple #[(Value.pointer none), (Value.int .i64 (1 : Int))])) h) ∧
    (B_ = false →
     Jv_ [] h))) ∧
  (∀  hp_, Jv_ [] hp_ →
   SemH Tryd.prog (Instr.makeSlice 71 (Value.int .i64 (512 : Int)) (Value.int .i64 (512 : Int))) hp_ fun v_ hp_1 =>
   ∃ (x13p_ : Option Addr) (x13n_ x13c_ : Nat), v_ = (Value.slice x13p_ x13n_ x13c_) ∧
   SemH Tryd.prog (convert 71 9 (Value.slice x13p_ x13n_ x13c_)) hp_1 fun v_1 hp_2 =>
   ∃ x14_ : ByteArray, v_1 = (Value.string x14_) ∧
   SemH Tryd.prog (Instr.makeSlice 32 (Value.int .i64 sectors_) (Value.int .i64 sectors_)) hp_2 fun v_2 hp_3 =>
   ∃ (x16p_ : Option Addr) (x16n_ x16c_ : Nat), v_2 = (Value.slice x16p_ x16n_ x16c_) ∧
   ∀ r_ hp_4, r_ = Array.size hp_3 → hp_4 = Array.push hp_3 (.map #[] 0) →
   ∀ b_ hp_5, b_ = Array.size hp_4 → hp_5 = Array.push hp_4 (.cells #[(Value.slice x16p_ x16n_ x16c_), (Value.map (some r_)), (Value.slice none 0 0), (Value.slice none 0 0), (Value.bool false), (Value.int .i64 (0 : Int)), (Value.int .i64 (0 : Int)), (Value.int .i64 (0 : Int)), (Value.int .i64 (0 : Int))] 103) →
   ∃ (x23p_ : Option Addr) (x23n_ x23c_ : Nat), cellsAt hp_5 b_ (0 + 0) [(Value.slice x23p_ x23n_ x23c_)] ∧
   ∃ (Iv_ : List Value → Hp → Prop) (m_ : List Value → Hp → Nat), Iv_ [(Value.int .i64 (0 : Int))] hp_5 ∧
   (∀ (x25_ : Int) hp_6, Iv_ [(Value.int .i64 x25_)] hp_6 →
    (((decide (x25_ < ((x23n_ : Nat) : Int))) = true →
      ∃ (x31p_ : Option Addr) (x31n_ x31c_ : Nat), cellsAt hp_6 b_ (0 + 0) [(Value.slice x31p_ x31n_ x31c_)] ∧
      ∃ b_1 o_, x31p_ = some ⟨b_1, o_, none⟩ ∧ 0 ≤ x25_ ∧ x25_ < (x31n_ : Int) ∧
      Value.oneCell' (Value.string x14_) = true ∧ wrAt hp_6 b_1 (o_ + Int.toNat x25_ * 1) 1 ∧ ∀ hp_7, hp_7 = setsH hp_6 b_1 (o_ + Int.toNat x25_ * 1) [(Value.string x14_)] →
      ∃ x35_, IntKind.i64.wrap (x25_ + (1 : Int)) = x35_ ∧
      (Iv_ [(Value.int .i64 x35_)] hp_7 ∧ m_ [(Value.int .i64 x35_)] hp_7 < m_ [(Value.int .i64 x25_)] hp_6)) ∧
     ((decide (x25_ < ((x23n_ : Nat) : Int))) = false →
      R (.returned (Value.tuple #[(Value.pointer (some ⟨b_, 0, none⟩)), (Value.int .i64 (0 : Int))])) hp_6))))) :
  CallsH Tryd.prog 19 #[(Value.int .i64 sectors_)] h R := calls_vc fine false Tryd.func19 (ann := A19) (args := [(Value.int .i64 sectors_)]) (by kernel_rfl) (Eq.mpr (by kernel_rfl) H)
/-- turnout/turnoutlaw19.wrote -/
def A20 : Ann := (.seq .nil (.seq .nil (.seq .nil (.seq (.seq .nil (.block (.loop [(9, .slice), (10, (.int .i64)), (11, (.int .i64))] (.seq (.seq .nil (.cond .nil .nil)) (.seq (.block (.seq .nil (.seq .nil (.seq .nil (.cut (.block (.seq (.join 40) (.cond .nil (.seq (.join 53) (.cond .nil (.seq (.join 62) (.cond (.seq .nil .nil) (.seq .nil .nil)))))))) [(9, .slice)] (.seq .nil (.cond (.seq .nil (.seq (.seq .nil (.cond (.seq .nil .nil) .nil)) (.seq (.seq .nil (.cond (.seq .nil .nil) .nil)) .nil))) .nil))))))) .nil))))) (.seq .nil .nil)))))
theorem V20 (l_ : Option Addr) (stepsp_ : Option Addr) (stepsn_ stepsc_ : Nat) (which_ : Int) (h : Hp) (R : Ending → Hp → Prop) (H :
  ∃ (Iv_ : List Value → Hp → Prop) (m_ : List Value → Hp → Nat), Iv_ [(Value.slice none 0 0), (Value.int .i64 (0 : Int)), (Value.int .i64 (0 : Int))] h ∧
  (∀ (outp_ : Option Addr) (outn_ outc_ : Nat) (safe_ : Int) (i_ : Int) hp_, Iv_ [(Value.slice outp_ outn_ outc_), (Value.int .i64 safe_), (Value.int .i64 i_)] hp_ →
   (((decide (i_ < ((stepsn_ : Nat) : Int))) = true →
     ∃ b_ o_, stepsp_ = some ⟨b_, o_, none⟩ ∧ 0 ≤ i_ ∧ i_ < (stepsn_ : Int) ∧
     ∃ x26_ : Int, cellsAt hp_ b_ ((o_ + Int.toNat i_ * 2) + 0) [(Value.int .i64 x26_)] ∧
     CallsH Tryd.prog 18 #[(Value.int .i64 x26_), (Value.int .i64 (1200 : Int))] hp_ fun en_ hp_1 =>
     ∃ x27_ : Int, en_ = .returned (Value.int .i64 x27_) ∧
     ∃ x28_, IntKind.i64.wrap ((1 : Int) + x27_) = x28_ ∧
     ∃ x31_, IntKind.i64.wrap (which_ + i_) = x31_ ∧
     CallsH Tryd.prog 23 #[(Value.int .i64 x28_), (Value.int .i64 x31_)] hp_1 fun en_1 hp_2 =>
     ∃ x32_ : ByteArray, en_1 = .returned (Value.string x32_) ∧
     CallsH Tryd.prog 17 #[(Value.pointer l_)] hp_2 fun en_2 hp_3 =>
     ∃ x34_ : Int, en_2 = .returned (Value.int .i64 x34_) ∧
     CallsH Tryd.prog 11 #[(Value.pointer l_), (Value.string x32_)] hp_3 fun en_3 hp_4 =>
     ∃ x37_ : Int, en_3 = .returned (Value.int .i64 x37_) ∧
     ∃ Jv_ : List Value → Hp → Prop,
     (∃ B_ : Bool, ((((decide (x37_ = (0 : Int))) = true →
         hp_4 = hp_4 ∧ B_ = (decide ((ByteArray.size x32_ : Int) ≤ x34_))) ∧
        ((decide (x37_ = (0 : Int))) = false →
         hp_4 = hp_4 ∧ B_ = false))) ∧
      ((B_ = true →
        SemH Tryd.prog (Instr.buildSlice 32 1 #[(0, (Value.string x32_))]) hp_4 fun v_ hp_5 =>
        ∃ (x51p_ : Option Addr) (x51n_ x51c_ : Nat), v_ = (Value.slice x51p_ x51n_ x51c_) ∧
        SemH Tryd.prog (Builtin.append_ #[32, 32] 32 #[(Value.slice outp_ outn_ outc_), (Value.slice x51p_ x51n_ x51c_)]) hp_5 fun v_1 hp_6 =>
        ∃ (x52p_ : Option Addr) (x52n_ x52c_ : Nat), v_1 = (Value.slice x52p_ x52n_ x52c_) ∧
        Jv_ [(Value.slice x52p_ x52n_ x52c_)] hp_6) ∧
       (B_ = false →
        ∃ B_1 : Bool, ((((decide (x37_ = (190 : Int))) = true →
           hp_4 = hp_4 ∧ B_1 = (decide (x34_ < (ByteArray.size x32_ : Int)))) ∧
          ((decide (x37_ = (190 : Int))) = false →
           hp_4 = hp_4 ∧ B_1 = false))) ∧
        ((B_1 = true →
          Jv_ [(Value.slice outp_ outn_ outc_)] hp_4) ∧
         (B_1 = false →
          ∃ B_2 : Bool, ((((decide (x37_ = (40 : Int))) = true →
             (((decide ((ByteArray.size x32_ : Int) ≤ x34_)) = true →
               hp_4 = hp_4 ∧ B_2 = true) ∧
              ((decide ((ByteArray.size x32_ : Int) ≤ x34_)) = false →
               (((decide (x37_ = (191 : Int))) = true →
                 hp_4 = hp_4 ∧ B_2 = (decide (x34_ = (0 : Int)))) ∧
                ((decide (x37_ = (191 : Int))) = false →
                 hp_4 = hp_4 ∧ B_2 = false))))) ∧
            ((decide (x37_ = (40 : Int))) = false →
             (((decide (x37_ = (191 : Int))) = true →
               hp_4 = hp_4 ∧ B_2 = (decide (x34_ = (0 : Int)))) ∧
              ((decide (x37_ = (191 : Int))) = false →
               hp_4 = hp_4 ∧ B_2 = false))))) ∧
          ((B_2 = true →
            R (.returned (Value.tuple #[(Value.slice outp_ outn_ outc_), (Value.int .i64 safe_), (Value.bool true)])) hp_4) ∧
           (B_2 = false →
            R (.returned (Value.tuple #[(Value.slice outp_ outn_ outc_), (Value.int .i64 safe_), (Value.bool false)])) hp_4))))))) ∧
     (∀ (outp_1 : Option Addr) (outn_1 outc_1 : Nat) hp_7, Jv_ [(Value.slice outp_1 outn_1 outc_1)] hp_7 →
      ∃ b_1 o_1, stepsp_ = some ⟨b_1, o_1, none⟩ ∧ 0 ≤ i_ ∧ i_ < (stepsn_ : Int) ∧
      ∃ x85_ : Bool, cellsAt hp_7 b_1 ((o_1 + Int.toNat i_ * 2) + 1) [(Value.bool x85_)] ∧
      ((x85_ = true →
        CallsH Tryd.prog 12 #[(Value.pointer l_)] hp_7 fun en_4 hp_8 =>
        ∃ x87_ : Int, en_4 = .returned (Value.int .i64 x87_) ∧
        (((decide (x87_ = (40 : Int))) = true →
          R (.returned (Value.tuple #[(Value.slice outp_1 outn_1 outc_1), (Value.int .i64 safe_), (Value.bool true)])) hp_8) ∧
         ((decide (x87_ = (40 : Int))) = false →
          (((decide (x87_ ≠ (0 : Int))) = true →
            R (.returned (Value.tuple #[(Value.slice outp_1 outn_1 outc_1), (Value.int .i64 safe_), (Value.bool false)])) hp_8) ∧
           ((decide (x87_ ≠ (0 : Int))) = false →
            ∃ x21_, IntKind.i64.wrap (i_ + (1 : Int)) = x21_ ∧
            (Iv_ [(Value.slice outp_1 outn_1 outc_1), (Value.int .i64 ((outn_1 : Nat) : Int)), (Value.int .i64 x21_)] hp_8 ∧ m_ [(Value.slice outp_1 outn_1 outc_1), (Value.int .i64 ((outn_1 : Nat) : Int)), (Value.int .i64 x21_)] hp_8 < m_ [(Value.slice outp_ outn_ outc_), (Value.int .i64 safe_), (Value.int .i64 i_)] hp_)))))) ∧
       (x85_ = false →
        ∃ x21_1, IntKind.i64.wrap (i_ + (1 : Int)) = x21_1 ∧
        (Iv_ [(Value.slice outp_1 outn_1 outc_1), (Value.int .i64 safe_), (Value.int .i64 x21_1)] hp_7 ∧ m_ [(Value.slice outp_1 outn_1 outc_1), (Value.int .i64 safe_), (Value.int .i64 x21_1)] hp_7 < m_ [(Value.slice outp_ outn_ outc_), (Value.int .i64 safe_), (Value.int .i64 i_)] hp_))))) ∧
    ((decide (i_ < ((stepsn_ : Nat) : Int))) = false →
     R (.returned (Value.tuple #[(Value.slice outp_ outn_ outc_), (Value.int .i64 safe_), (Value.bool true)])) hp_)))) :
  CallsH Tryd.prog 20 #[(Value.pointer l_), (Value.slice stepsp_ stepsn_ stepsc_), (Value.int .i64 which_)] h R := calls_vc fine false Tryd.func20 (ann := A20) (args := [(Value.pointer l_), (Value.slice stepsp_ stepsn_ stepsc_), (Value.int .i64 which_)]) (by kernel_rfl) (Eq.mpr (by kernel_rfl) H)
/-- turnout/turnoutlaw19.some -/
def A21 : Ann := (.seq .nil (.seq (.seq .nil (.cond (.seq .nil .nil) .nil)) (.seq .nil .nil)))
theorem V21 (lp_ : Option Addr) (ln_ lc_ : Nat) (h : Hp) (R : Ending → Hp → Prop) (H :
  (((decide ((40 : Int) < ((ln_ : Nat) : Int))) = true →
    ∃ u_ : Nat, (40 : Int) = (u_ : Int) ∧
    0 ≤ u_ ∧ u_ ≤ lc_ ∧ ∃ x7p_, cutP lp_ lc_ 0 2 = x7p_ ∧
    R (.returned (Value.slice x7p_ (u_ - 0) (lc_ - 0))) h) ∧
   ((decide ((40 : Int) < ((ln_ : Nat) : Int))) = false →
    R (.returned (Value.slice lp_ ln_ lc_)) h))) :
  CallsH Tryd.prog 21 #[(Value.slice lp_ ln_ lc_)] h R := calls_vc fine false Tryd.func21 (ann := A21) (args := [(Value.slice lp_ ln_ lc_)]) (by kernel_rfl) (Eq.mpr (by kernel_rfl) H)
/-- (*turnout/disk.Disk).Stats -/
def A22 : Ann := (.seq .nil (.seq (.seq .nil (.cond (.seq .nil .nil) .nil)) (.seq .nil .nil)))
theorem V22 (d_ : Option Addr) (h : Hp) (R : Ending → Hp → Prop) (H :
  ∀ b_ hp_, b_ = Array.size h → hp_ = Array.push h (.cells (zeros Tryd.prog 48) 48) → (∃ i z, Tryd.prog.info? 48 = some i ∧ i.zero = some z) ∧
  ∃ x4_, EqV Tryd.prog 41 (Value.pointer d_) (Value.pointer none) x4_ ∧
  ((x4_ = true →
    List.length [(Value.int .i64 (0 : Int)), (Value.int .i64 (0 : Int)), (Value.int .i64 (0 : Int))] = 3 ∧ (∀ c ∈ [(Value.int .i64 (0 : Int)), (Value.int .i64 (0 : Int)), (Value.int .i64 (0 : Int))], c.oneCell' = true) ∧ wrAt hp_ b_ 0 3 ∧ ∀ hp_1, hp_1 = setsH hp_ b_ 0 [(Value.int .i64 (0 : Int)), (Value.int .i64 (0 : Int)), (Value.int .i64 (0 : Int))] →
    ∃ resf0_ : Int, ∃ resf1_ : Int, ∃ resf2_ : Int, cellsAt hp_1 b_ 0 [(Value.int .i64 resf0_), (Value.int .i64 resf1_), (Value.int .i64 resf2_)] ∧
    R (.returned (Value.agg #[(Value.int .i64 resf0_), (Value.int .i64 resf1_), (Value.int .i64 resf2_)])) hp_1) ∧
   (x4_ = false →
    ∃ b_1 o_, d_ = some ⟨b_1, o_, none⟩ ∧
    ∃ x9f0_ : Int, ∃ x9f1_ : Int, ∃ x9f2_ : Int, cellsAt hp_ b_1 (o_ + 6) [(Value.int .i64 x9f0_), (Value.int .i64 x9f1_), (Value.int .i64 x9f2_)] ∧
    List.length [(Value.int .i64 x9f0_), (Value.int .i64 x9f1_), (Value.int .i64 x9f2_)] = 3 ∧ (∀ c ∈ [(Value.int .i64 x9f0_), (Value.int .i64 x9f1_), (Value.int .i64 x9f2_)], c.oneCell' = true) ∧ wrAt hp_ b_ 0 3 ∧ ∀ hp_2, hp_2 = setsH hp_ b_ 0 [(Value.int .i64 x9f0_), (Value.int .i64 x9f1_), (Value.int .i64 x9f2_)] →
    ∃ resf0_1 : Int, ∃ resf1_1 : Int, ∃ resf2_1 : Int, cellsAt hp_2 b_ 0 [(Value.int .i64 resf0_1), (Value.int .i64 resf1_1), (Value.int .i64 resf2_1)] ∧
    R (.returned (Value.agg #[(Value.int .i64 resf0_1), (Value.int .i64 resf1_1), (Value.int .i64 resf2_1)])) hp_2))) :
  CallsH Tryd.prog 22 #[(Value.pointer d_)] h R := calls_vc fine false Tryd.func22 (ann := A22) (args := [(Value.pointer d_)]) (by kernel_rfl) (Eq.mpr (by kernel_rfl) H)
/-- turnout/turnoutlaw19.long -/
def A23 : Ann := (.seq .nil (.seq .nil (.seq (.seq .nil (.block (.loop [(6, (.int .i64))] (.seq (.seq .nil (.cond .nil .nil)) (.seq (.block .nil) .nil))))) (.seq .nil .nil))))
theorem V23 (n_ : Int) (which_ : Int) (h : Hp) (R : Ending → Hp → Prop) (H :
  SemH Tryd.prog (Instr.makeSlice 71 (Value.int .i64 n_) (Value.int .i64 n_)) h fun v_ hp_ =>
  ∃ (x8p_ : Option Addr) (x8n_ x8c_ : Nat), v_ = (Value.slice x8p_ x8n_ x8c_) ∧
  ∃ (Iv_ : List Value → Hp → Prop) (m_ : List Value → Hp → Nat), Iv_ [(Value.int .i64 (0 : Int))] hp_ ∧
  (∀ (i_ : Int) hp_1, Iv_ [(Value.int .i64 i_)] hp_1 →
   (((decide (i_ < n_)) = true →
     (7 : Int) ≠ 0 ∧ ∃ x18_, IntKind.i64.wrap (Int.tdiv i_ (7 : Int)) = x18_ ∧
     ∃ x19_, IntKind.i64.wrap (which_ + x18_) = x19_ ∧
     ∃ x20_, IntKind.u8.wrap x19_ = x20_ ∧
     ∃ b_ o_, x8p_ = some ⟨b_, o_, none⟩ ∧ 0 ≤ i_ ∧ i_ < (x8n_ : Int) ∧
     Value.oneCell' (Value.int .u8 x20_) = true ∧ wrAt hp_1 b_ (o_ + Int.toNat i_ * 1) 1 ∧ ∀ hp_2, hp_2 = setsH hp_1 b_ (o_ + Int.toNat i_ * 1) [(Value.int .u8 x20_)] →
     ∃ x13_, IntKind.i64.wrap (i_ + (1 : Int)) = x13_ ∧
     (Iv_ [(Value.int .i64 x13_)] hp_2 ∧ m_ [(Value.int .i64 x13_)] hp_2 < m_ [(Value.int .i64 i_)] hp_1)) ∧
    ((decide (i_ < n_)) = false →
     SemH Tryd.prog (convert 71 9 (Value.slice x8p_ x8n_ x8c_)) hp_1 fun v_1 hp_3 =>
     ∃ x23_ : ByteArray, v_1 = (Value.string x23_) ∧
     R (.returned (Value.string x23_)) hp_3)))) :
  CallsH Tryd.prog 23 #[(Value.int .i64 n_), (Value.int .i64 which_)] h R := calls_vc fine false Tryd.func23 (ann := A23) (args := [(Value.int .i64 n_), (Value.int .i64 which_)]) (by kernel_rfl) (Eq.mpr (by kernel_rfl) H)
/-- (*turnout/disk.Disk).Pending -/
def A24 : Ann := (.seq .nil (.seq (.seq .nil (.cond (.seq .nil .nil) .nil)) (.seq .nil .nil)))
theorem V24 (d_ : Option Addr) (h : Hp) (R : Ending → Hp → Prop) (H :
  ∃ x4_, EqV Tryd.prog 41 (Value.pointer d_) (Value.pointer none) x4_ ∧
  ((x4_ = true →
    R (.returned (Value.slice none 0 0)) h) ∧
   (x4_ = false →
    ∃ b_ o_, d_ = some ⟨b_, o_, none⟩ ∧
    ∃ (x8p_ : Option Addr) (x8n_ x8c_ : Nat), cellsAt h b_ (o_ + 2) [(Value.slice x8p_ x8n_ x8c_)] ∧
    SemH Tryd.prog (Builtin.append_ #[52, 52] 52 #[(Value.slice none 0 0), (Value.slice x8p_ x8n_ x8c_)]) h fun v_ hp_ =>
    ∃ (x9p_ : Option Addr) (x9n_ x9c_ : Nat), v_ = (Value.slice x9p_ x9n_ x9c_) ∧
    R (.returned (Value.slice x9p_ x9n_ x9c_)) hp_))) :
  CallsH Tryd.prog 24 #[(Value.pointer d_)] h R := calls_vc fine false Tryd.func24 (ann := A24) (args := [(Value.pointer d_)]) (by kernel_rfl) (Eq.mpr (by kernel_rfl) H)
/-- turnout/disk.Load -/
def A25 : Ann := (.seq .nil (.seq .nil (.seq (.seq .nil (.cond (.seq .nil .nil) .nil)) (.seq .nil (.seq (.seq .nil (.cond (.seq .nil .nil) .nil)) (.seq (.seq .nil (.block (.loop [(29, (.int .i64))] (.seq .nil (.seq (.cond .nil .nil) (.seq (.block (.seq .nil .nil)) .nil)))))) (.seq .nil .nil)))))))
theorem V25 (image_ : ByteArray) (h : Hp) (R : Ending → Hp → Prop) (H :
  (512 : Int) ≠ 0 ∧ ∃ x10_, IntKind.i64.wrap (Int.tdiv (ByteArray.size image_ : Int) (512 : Int)) = x10_ ∧
  ∃ x12_, IntKind.i64.wrap (x10_ * (512 : Int)) = x12_ ∧
  (((decide (x12_ ≠ (ByteArray.size image_ : Int))) = true →
    R (.returned (Value.tuple #[(Value.pointer none), (Value.int .i64 (1 : Int))])) h) ∧
   ((decide (x12_ ≠ (ByteArray.size image_ : Int))) = false →
    CallsH Tryd.prog 19 #[(Value.int .i64 x10_)] h fun en_ hp_ =>
    ∃ x18r0_ : Option Addr, ∃ x18r1_ : Int, en_ = .returned (Value.tuple #[(Value.pointer x18r0_), (Value.int .i64 x18r1_)]) ∧
    (((decide (x18r1_ ≠ (0 : Int))) = true →
      R (.returned (Value.tuple #[(Value.pointer none), (Value.int .i64 x18r1_)])) hp_) ∧
     ((decide (x18r1_ ≠ (0 : Int))) = false →
      ∃ b_ o_, x18r0_ = some ⟨b_, o_, none⟩ ∧
      ∃ (x27p_ : Option Addr) (x27n_ x27c_ : Nat), cellsAt hp_ b_ (o_ + 0) [(Value.slice x27p_ x27n_ x27c_)] ∧
      ∃ (Iv_ : List Value → Hp → Prop) (m_ : List Value → Hp → Nat), Iv_ [(Value.int .i64 (0 : Int))] hp_ ∧
      (∀ (x29_ : Int) hp_1, Iv_ [(Value.int .i64 x29_)] hp_1 →
       (((decide (x29_ < ((x27n_ : Nat) : Int))) = true →
         ∃ b_1 o_1, x18r0_ = some ⟨b_1, o_1, none⟩ ∧
         ∃ (x35p_ : Option Addr) (x35n_ x35c_ : Nat), cellsAt hp_1 b_1 (o_1 + 0) [(Value.slice x35p_ x35n_ x35c_)] ∧
         ∃ x39_, IntKind.i64.wrap (x29_ * (512 : Int)) = x39_ ∧
         ∃ x41_, IntKind.i64.wrap (x29_ + (1 : Int)) = x41_ ∧
         ∃ x42_, IntKind.i64.wrap (x41_ * (512 : Int)) = x42_ ∧
         ∃ l_ : Nat, x39_ = (l_ : Int) ∧
         ∃ u_ : Nat, x42_ = (u_ : Int) ∧
         l_ ≤ u_ ∧ u_ ≤ ByteArray.size image_ ∧ ∃ x43_, ByteArray.extract image_ l_ u_ = x43_ ∧
         ∃ b_2 o_2, x35p_ = some ⟨b_2, o_2, none⟩ ∧ 0 ≤ x29_ ∧ x29_ < (x35n_ : Int) ∧
         Value.oneCell' (Value.string x43_) = true ∧ wrAt hp_1 b_2 (o_2 + Int.toNat x29_ * 1) 1 ∧ ∀ hp_2, hp_2 = setsH hp_1 b_2 (o_2 + Int.toNat x29_ * 1) [(Value.string x43_)] →
         ∃ x45_, IntKind.i64.wrap (x29_ + (1 : Int)) = x45_ ∧
         (Iv_ [(Value.int .i64 x45_)] hp_2 ∧ m_ [(Value.int .i64 x45_)] hp_2 < m_ [(Value.int .i64 x29_)] hp_1)) ∧
        ((decide (x29_ < ((x27n_ : Nat) : Int))) = false →
         R (.returned (Value.tuple #[(Value.pointer x18r0_), (Value.int .i64 (0 : Int))])) hp_1)))))))) :
  CallsH Tryd.prog 25 #[(Value.string image_)] h R := calls_vc fine false Tryd.func25 (ann := A25) (args := [(Value.string image_)]) (by kernel_rfl) (Eq.mpr (by kernel_rfl) H)
/-- turnout/turnoutref04.Load -/
def A26 : Ann := (.seq .nil (.cut (.seq (.join 19) (.cond (.seq .nil .nil) .nil)) [] (.seq .nil (.seq (.seq .nil (.block (.loop [(5, (.int .i64))] (.seq (.seq .nil (.cond .nil .nil)) (.seq (.block (.drawLast [4])) .nil))))) (.seq .nil .nil)))))
theorem V26 (image_ : ByteArray) (h : Hp) (R : Ending → Hp → Prop) (H :
  ∃ Jv_ : List Value → Hp → Prop,
  (∃ B_ : Bool, ((512 : Int) ≠ 0 ∧ ∃ x8_, Int.tmod (ByteArray.size image_ : Int) (512 : Int) = x8_ ∧
    (((decide (x8_ ≠ (0 : Int))) = true →
      h = h ∧ B_ = true) ∧
     ((decide (x8_ ≠ (0 : Int))) = false →
      (((decide ((ByteArray.size image_ : Int) = (0 : Int))) = true →
        h = h ∧ B_ = true) ∧
       ((decide ((ByteArray.size image_ : Int) = (0 : Int))) = false →
        h = h ∧ B_ = (decide ((2097152 : Int) < (ByteArray.size image_ : Int)))))))) ∧
   ((B_ = true →
     R (.returned (Value.tuple #[(Value.pointer none), (Value.int .i64 (1 : Int))])) h) ∧
    (B_ = false →
     Jv_ [] h))) ∧
  (∀  hp_, Jv_ [] hp_ →
   ∀ b_ hp_1, b_ = Array.size hp_ → hp_1 = Array.push hp_ (.cells #[(Value.slice none 0 0), (Value.slice none 0 0), (Value.bool false), (Value.int .i64 (0 : Int)), (Value.int .i64 (0 : Int)), (Value.int .i64 (0 : Int)), (Value.int .i64 (0 : Int))] 106) →
   ∃ (Iv_ : List Value → Hp → Prop) (m_ : List Value → Hp → Nat), Iv_ [(Value.int .i64 (0 : Int))] hp_1 ∧
   (∀ (i_ : Int) hp_2, Iv_ [(Value.int .i64 i_)] hp_2 →
    (((decide (i_ < (ByteArray.size image_ : Int))) = true →
      ∃ Cv_ : Hp → Prop, Cv_ hp_2 ∧
      ∃ (x32p_ : Option Addr) (x32n_ x32c_ : Nat), (∀ h', Cv_ h' → cellsAt h' b_ (0 + 0) [(Value.slice x32p_ x32n_ x32c_)]) ∧
      ∃ x36_, IntKind.i64.wrap (i_ + (512 : Int)) = x36_ ∧
      ∃ l_ : Nat, i_ = (l_ : Int) ∧
      ∃ u_ : Nat, x36_ = (u_ : Int) ∧
      l_ ≤ u_ ∧ u_ ≤ ByteArray.size image_ ∧ ∃ x37_, ByteArray.extract image_ l_ u_ = x37_ ∧
      SemH Tryd.prog (Instr.buildSlice 32 1 #[(0, (Value.string x37_))]) hp_2 fun v_ hp_3 =>
      ∃ (x38p_ : Option Addr) (x38n_ x38c_ : Nat), v_ = (Value.slice x38p_ x38n_ x38c_) ∧
      Cv_ hp_3 ∧
      SemH Tryd.prog (Builtin.append_ #[32, 32] 32 #[(Value.slice x32p_ x32n_ x32c_), (Value.slice x38p_ x38n_ x38c_)]) hp_3 fun v_1 hp_4 =>
      ∃ (x39p_ : Option Addr) (x39n_ x39c_ : Nat), v_1 = (Value.slice x39p_ x39n_ x39c_) ∧
      Cv_ hp_4 ∧
      Value.oneCell' (Value.slice x39p_ x39n_ x39c_) = true ∧ wrAt hp_4 b_ (0 + 0) 1 ∧ ∀ hp_5, hp_5 = setsH hp_4 b_ (0 + 0) [(Value.slice x39p_ x39n_ x39c_)] →
      ∃ x27_, IntKind.i64.wrap (i_ + (512 : Int)) = x27_ ∧
      (Iv_ [(Value.int .i64 x27_)] hp_5 ∧ m_ [(Value.int .i64 x27_)] hp_5 < m_ [(Value.int .i64 i_)] hp_2)) ∧
     ((decide (i_ < (ByteArray.size image_ : Int))) = false →
      R (.returned (Value.tuple #[(Value.pointer (some ⟨b_, 0, none⟩)), (Value.int .i64 (0 : Int))])) hp_2))))) :
  CallsH Tryd.prog 26 #[(Value.string image_)] h R := calls_vc fine false Tryd.func26 (ann := A26) (args := [(Value.string image_)]) (by kernel_rfl) (Eq.mpr (by kernel_rfl) H)
/-- (*turnout/turnoutlaw19.side).scans -/
def A27 : Ann := (.seq .nil (.seq .nil (.seq .nil (.seq .nil (.seq .nil (.seq (.seq .nil (.block (.loop [(16, (.int .i64))] (.seq (.seq .nil (.cond .nil .nil)) (.seq (.block .nil) .nil))))) (.seq (.seq .nil (.block (.loop [(9, .slice), (17, (.int .i64))] (.seq (.seq .nil (.cond .nil .nil)) (.seq (.block .nil) .nil))))) (.seq .nil (.seq (.join 8) .nil)))))))))
theorem V27 (s_ : Option Addr) (first_ : Int) (count_ : Int) (epoch_ : Int) (h : Hp) (R : Ending → Hp → Prop) (H :
  ∃ b_ o_, s_ = some ⟨b_, o_, none⟩ ∧
  ∃ x23_ : Option Addr, cellsAt h b_ (o_ + 0) [(Value.pointer x23_)] ∧
  CallsH Tryd.prog 15 #[(Value.pointer x23_), (Value.int .i64 first_), (Value.int .i64 count_), (Value.int .u64 epoch_)] h fun en_ hp_ =>
  ∃ (x27r0p_ : Option Addr) (x27r0n_ x27r0c_ : Nat), ∃ x27r1_ : Int, en_ = .returned (Value.tuple #[(Value.slice x27r0p_ x27r0n_ x27r0c_), (Value.int .i64 x27r1_)]) ∧
  ∃ b_1 o_1, s_ = some ⟨b_1, o_1, none⟩ ∧
  ∃ x34_ : Option Addr, cellsAt hp_ b_1 (o_1 + 0) [(Value.pointer x34_)] ∧
  CallsH Tryd.prog 15 #[(Value.pointer x34_), (Value.int .i64 first_), (Value.int .i64 count_), (Value.int .u64 epoch_)] hp_ fun en_1 hp_1 =>
  ∃ (x38r0p_ : Option Addr) (x38r0n_ x38r0c_ : Nat), ∃ x38r1_ : Int, en_1 = .returned (Value.tuple #[(Value.slice x38r0p_ x38r0n_ x38r0c_), (Value.int .i64 x38r1_)]) ∧
  ∃ b_2 o_2, s_ = some ⟨b_2, o_2, none⟩ ∧
  ∃ x45_ : Option Addr, cellsAt hp_1 b_2 (o_2 + 1) [(Value.pointer x45_)] ∧
  CallsH Tryd.prog 45 #[(Value.pointer x45_), (Value.int .i64 first_), (Value.int .i64 count_), (Value.int .u64 epoch_)] hp_1 fun en_2 hp_2 =>
  ∃ (x49r0p_ : Option Addr) (x49r0n_ x49r0c_ : Nat), ∃ x49r1_ : Int, en_2 = .returned (Value.tuple #[(Value.slice x49r0p_ x49r0n_ x49r0c_), (Value.int .i64 x49r1_)]) ∧
  CallsH Tryd.prog 30 #[(Value.slice x27r0p_ x27r0n_ x27r0c_), (Value.slice x49r0p_ x49r0n_ x49r0c_)] hp_2 fun en_3 hp_3 =>
  ∃ x54_ : Bool, en_3 = .returned (Value.bool x54_) ∧
  ∃ (Iv_ : List Value → Hp → Prop) (m_ : List Value → Hp → Nat), Iv_ [(Value.int .i64 (0 : Int))] hp_3 ∧
  (∀ (i_ : Int) hp_4, Iv_ [(Value.int .i64 i_)] hp_4 →
   (((decide (i_ < ((x27r0n_ : Nat) : Int))) = true →
     ∃ b_3 o_3, x27r0p_ = some ⟨b_3, o_3, none⟩ ∧ 0 ≤ i_ ∧ i_ < (x27r0n_ : Int) ∧
     Value.oneCell' (Value.string (⟨#[109, 105, 110, 101]⟩ : ByteArray)) = true ∧ wrAt hp_4 b_3 (o_3 + Int.toNat i_ * 1) 1 ∧ ∀ hp_5, hp_5 = setsH hp_4 b_3 (o_3 + Int.toNat i_ * 1) [(Value.string (⟨#[109, 105, 110, 101]⟩ : ByteArray))] →
     ∃ x60_, IntKind.i64.wrap (i_ + (1 : Int)) = x60_ ∧
     (Iv_ [(Value.int .i64 x60_)] hp_5 ∧ m_ [(Value.int .i64 x60_)] hp_5 < m_ [(Value.int .i64 i_)] hp_4)) ∧
    ((decide (i_ < ((x27r0n_ : Nat) : Int))) = false →
     ∃ (Iv_1 : List Value → Hp → Prop) (m_1 : List Value → Hp → Nat), Iv_1 [(Value.slice x27r0p_ x27r0n_ x27r0c_), (Value.int .i64 (0 : Int))] hp_4 ∧
     (∀ (xp_ : Option Addr) (xn_ xc_ : Nat) (i_1 : Int) hp_6, Iv_1 [(Value.slice xp_ xn_ xc_), (Value.int .i64 i_1)] hp_6 →
      (((decide (i_1 < (5 : Int))) = true →
        SemH Tryd.prog (Instr.buildSlice 32 1 #[(0, (Value.string (⟨#[109, 105, 110, 101]⟩ : ByteArray)))]) hp_6 fun v_ hp_7 =>
        ∃ (x69p_ : Option Addr) (x69n_ x69c_ : Nat), v_ = (Value.slice x69p_ x69n_ x69c_) ∧
        SemH Tryd.prog (Builtin.append_ #[32, 32] 32 #[(Value.slice xp_ xn_ xc_), (Value.slice x69p_ x69n_ x69c_)]) hp_7 fun v_1 hp_8 =>
        ∃ (x70p_ : Option Addr) (x70n_ x70c_ : Nat), v_1 = (Value.slice x70p_ x70n_ x70c_) ∧
        ∃ x67_, IntKind.i64.wrap (i_1 + (1 : Int)) = x67_ ∧
        (Iv_1 [(Value.slice x70p_ x70n_ x70c_), (Value.int .i64 x67_)] hp_8 ∧ m_1 [(Value.slice x70p_ x70n_ x70c_), (Value.int .i64 x67_)] hp_8 < m_1 [(Value.slice xp_ xn_ xc_), (Value.int .i64 i_1)] hp_6)) ∧
       ((decide (i_1 < (5 : Int))) = false →
        CallsH Tryd.prog 30 #[(Value.slice x38r0p_ x38r0n_ x38r0c_), (Value.slice x49r0p_ x49r0n_ x49r0c_)] hp_6 fun en_4 hp_9 =>
        ∃ x73_ : Bool, en_4 = .returned (Value.bool x73_) ∧
        ∃ B_ : Bool, (((x54_ = true →
           ((x73_ = true →
             (((decide (x27r1_ = x49r1_)) = true →
               hp_9 = hp_9 ∧ B_ = (decide (x38r1_ = x49r1_))) ∧
              ((decide (x27r1_ = x49r1_)) = false →
               hp_9 = hp_9 ∧ B_ = false))) ∧
            (x73_ = false →
             hp_9 = hp_9 ∧ B_ = false))) ∧
          (x54_ = false →
           hp_9 = hp_9 ∧ B_ = false))) ∧
        R (.returned (Value.bool B_)) hp_9))))))) :
  CallsH Tryd.prog 27 #[(Value.pointer s_), (Value.int .i64 first_), (Value.int .i64 count_), (Value.int .u64 epoch_)] h R := calls_vc fine false Tryd.func27 (ann := A27) (args := [(Value.pointer s_), (Value.int .i64 first_), (Value.int .i64 count_), (Value.int .u64 epoch_)]) (by kernel_rfl) (Eq.mpr (by kernel_rfl) H)
/-- (*turnout/turnoutlaw19.side).last -/
def A28 : Ann := (.seq .nil (.seq .nil (.seq .nil (.seq (.join 6) .nil))))
theorem V28 (s_ : Option Addr) (first_ : Int) (count_ : Int) (h : Hp) (R : Ending → Hp → Prop) (H :
  ∃ b_ o_, s_ = some ⟨b_, o_, none⟩ ∧
  ∃ x15_ : Option Addr, cellsAt h b_ (o_ + 0) [(Value.pointer x15_)] ∧
  CallsH Tryd.prog 16 #[(Value.pointer x15_), (Value.int .i64 first_), (Value.int .i64 count_)] h fun en_ hp_ =>
  ∃ x18r0_ : Int, ∃ x18r1_ : Int, en_ = .returned (Value.tuple #[(Value.int .u64 x18r0_), (Value.int .i64 x18r1_)]) ∧
  ∃ b_1 o_1, s_ = some ⟨b_1, o_1, none⟩ ∧
  ∃ x25_ : Option Addr, cellsAt hp_ b_1 (o_1 + 1) [(Value.pointer x25_)] ∧
  CallsH Tryd.prog 46 #[(Value.pointer x25_), (Value.int .i64 first_), (Value.int .i64 count_)] hp_ fun en_1 hp_1 =>
  ∃ x28r0_ : Int, ∃ x28r1_ : Int, en_1 = .returned (Value.tuple #[(Value.int .u64 x28r0_), (Value.int .i64 x28r1_)]) ∧
  ∃ B_ : Bool, ((((decide (x18r0_ = x28r0_)) = true →
     hp_1 = hp_1 ∧ B_ = (decide (x18r1_ = x28r1_))) ∧
    ((decide (x18r0_ = x28r0_)) = false →
     hp_1 = hp_1 ∧ B_ = false))) ∧
  R (.returned (Value.bool B_)) hp_1) :
  CallsH Tryd.prog 28 #[(Value.pointer s_), (Value.int .i64 first_), (Value.int .i64 count_)] h R := calls_vc fine false Tryd.func28 (ann := A28) (args := [(Value.pointer s_), (Value.int .i64 first_), (Value.int .i64 count_)]) (by kernel_rfl) (Eq.mpr (by kernel_rfl) H)
/-- (*turnout/disk.Disk).Crash -/
def A29 : Ann := (.seq (.seq .nil (.cond .nil .nil)) (.cut (.seq .nil (.block (.loop [(13, (.int .i64))] (.seq .nil (.seq (.cond .nil .nil) (.seq (.block (.seq .nil (.seq (.seq .nil (.cond .nil .nil)) (.drawLast [4])))) .nil)))))) [] (.seq .nil (.seq .nil .nil))))
theorem V29 (d_ : Option Addr) (fatesp_ : Option Addr) (fatesn_ fatesc_ : Nat) (h : Hp) (R : Ending → Hp → Prop) (H :
  ∃ x7_, EqV Tryd.prog 41 (Value.pointer d_) (Value.pointer none) x7_ ∧
  ((x7_ = true →
    R (.returned (Value.tuple #[])) h) ∧
   (x7_ = false →
    ∃ Jv_ : List Value → Hp → Prop,
    (∃ b_ o_, d_ = some ⟨b_, o_, none⟩ ∧
     ∃ (x11p_ : Option Addr) (x11n_ x11c_ : Nat), cellsAt h b_ (o_ + 3) [(Value.slice x11p_ x11n_ x11c_)] ∧
     ∃ (Iv_ : List Value → Hp → Prop) (m_ : List Value → Hp → Nat), Iv_ [(Value.int .i64 (0 : Int))] h ∧
     (∀ (x13_ : Int) hp_, Iv_ [(Value.int .i64 x13_)] hp_ →
      (((decide (x13_ < ((x11n_ : Nat) : Int))) = true →
        ∃ b_1 o_1, x11p_ = some ⟨b_1, o_1, none⟩ ∧ 0 ≤ x13_ ∧ x13_ < (x11n_ : Int) ∧
        ∃ x17_ : Value, cellsAt hp_ b_1 (o_1 + Int.toNat x13_ * 1) [x17_] ∧
        (((decide (((fatesn_ : Nat) : Int) ≤ x13_)) = true →
          Jv_ [] hp_) ∧
         ((decide (((fatesn_ : Nat) : Int) ≤ x13_)) = false →
          ∃ Cv_ : Hp → Prop, Cv_ hp_ ∧
          ∃ b_2 o_2, d_ = some ⟨b_2, o_2, none⟩ ∧
          ∃ (x26p_ : Option Addr) (x26n_ x26c_ : Nat), (∀ h', Cv_ h' → cellsAt h' b_2 (o_2 + 0) [(Value.slice x26p_ x26n_ x26c_)]) ∧
          ∃ b_3 o_3, fatesp_ = some ⟨b_3, o_3, none⟩ ∧ 0 ≤ x13_ ∧ x13_ < (fatesn_ : Int) ∧
          ∃ x30f0_ : Int, ∃ x30f1_ : Int, cellsAt hp_ b_3 (o_3 + Int.toNat x13_ * 2) [(Value.int .i64 x30f0_), (Value.int .i64 x30f1_)] ∧
          CallsH Tryd.prog 47 #[(Value.agg #[(Value.int .i64 x30f0_), (Value.int .i64 x30f1_)])] hp_ fun en_ hp_1 =>
          ∃ x31_ : Int, en_ = .returned (Value.int .i64 x31_) ∧
          Cv_ hp_1 ∧
          ∃ fn_ fst_ cap_, x17_ = Value.func (.func fn_) fst_ cap_ ∧ bodied Tryd.prog fn_ = true ∧
          CallsH Tryd.prog fn_ (fst_.toList ++ [(Value.slice x26p_ x26n_ x26c_), (Value.int .i64 x31_)] ++ cap_.toList).toArray hp_1 fun en_1 hp_2 =>
          en_1 = .returned (Value.tuple #[]) ∧
          ∃ x33_, IntKind.i64.wrap (x13_ + (1 : Int)) = x33_ ∧
          (Iv_ [(Value.int .i64 x33_)] hp_2 ∧ m_ [(Value.int .i64 x33_)] hp_2 < m_ [(Value.int .i64 x13_)] hp_)))) ∧
       ((decide (x13_ < ((x11n_ : Nat) : Int))) = false →
        Jv_ [] hp_)))) ∧
    (∀  hp_3, Jv_ [] hp_3 →
     CallsH Tryd.prog 48 #[(Value.pointer d_)] hp_3 fun en_2 hp_4 =>
     en_2 = .returned (Value.tuple #[]) ∧
     ∃ b_4 o_4, d_ = some ⟨b_4, o_4, none⟩ ∧
     Value.oneCell' (Value.bool false) = true ∧ wrAt hp_4 b_4 (o_4 + 4) 1 ∧ ∀ hp_5, hp_5 = setsH hp_4 b_4 (o_4 + 4) [(Value.bool false)] →
     ∃ b_5 o_5, d_ = some ⟨b_5, o_5, none⟩ ∧
     Value.oneCell' (Value.int .i64 (0 : Int)) = true ∧ wrAt hp_5 b_5 (o_5 + 5) 1 ∧ ∀ hp_6, hp_6 = setsH hp_5 b_5 (o_5 + 5) [(Value.int .i64 (0 : Int))] →
     R (.returned (Value.tuple #[])) hp_6)))) :
  CallsH Tryd.prog 29 #[(Value.pointer d_), (Value.slice fatesp_ fatesn_ fatesc_)] h R := calls_vc fine false Tryd.func29 (ann := A29) (args := [(Value.pointer d_), (Value.slice fatesp_ fatesn_ fatesc_)]) (by kernel_rfl) (Eq.mpr (by kernel_rfl) H)
/-- turnout/turnoutlaw19.same -/
def A30 : Ann := (.seq .nil (.seq (.seq .nil (.cond (.seq .nil .nil) .nil)) (.seq (.seq .nil (.block (.loop [(5, (.int .i64))] (.seq (.seq .nil (.cond .nil .nil)) (.seq (.block (.seq .nil (.cond (.seq .nil .nil) .nil))) .nil))))) (.seq .nil .nil))))
theorem V30 (xp_ : Option Addr) (xn_ xc_ : Nat) (yp_ : Option Addr) (yn_ yc_ : Nat) (h : Hp) (R : Ending → Hp → Prop) (H :
  (((decide (((xn_ : Nat) : Int) ≠ ((yn_ : Nat) : Int))) = true →
    R (.returned (Value.bool false)) h) ∧
   ((decide (((xn_ : Nat) : Int) ≠ ((yn_ : Nat) : Int))) = false →
    ∃ (Iv_ : List Value → Hp → Prop) (m_ : List Value → Hp → Nat), Iv_ [(Value.int .i64 (0 : Int))] h ∧
    (∀ (i_ : Int) hp_, Iv_ [(Value.int .i64 i_)] hp_ →
     (((decide (i_ < ((xn_ : Nat) : Int))) = true →
       ∃ b_ o_, xp_ = some ⟨b_, o_, none⟩ ∧ 0 ≤ i_ ∧ i_ < (xn_ : Int) ∧
       ∃ x20_ : ByteArray, cellsAt hp_ b_ (o_ + Int.toNat i_ * 1) [(Value.string x20_)] ∧
       ∃ b_1 o_1, yp_ = some ⟨b_1, o_1, none⟩ ∧ 0 ≤ i_ ∧ i_ < (yn_ : Int) ∧
       ∃ x24_ : ByteArray, cellsAt hp_ b_1 (o_1 + Int.toNat i_ * 1) [(Value.string x24_)] ∧
       (((decide (x20_ ≠ x24_)) = true →
         R (.returned (Value.bool false)) hp_) ∧
        ((decide (x20_ ≠ x24_)) = false →
         ∃ x16_, IntKind.i64.wrap (i_ + (1 : Int)) = x16_ ∧
         (Iv_ [(Value.int .i64 x16_)] hp_ ∧ m_ [(Value.int .i64 x16_)] hp_ < m_ [(Value.int .i64 i_)] hp_)))) ∧
      ((decide (i_ < ((xn_ : Nat) : Int))) = false →
       R (.returned (Value.bool true)) hp_)))))) :
  CallsH Tryd.prog 30 #[(Value.slice xp_ xn_ xc_), (Value.slice yp_ yn_ yc_)] h R := calls_vc fine false Tryd.func30 (ann := A30) (args := [(Value.slice xp_ xn_ xc_), (Value.slice yp_ yn_ yc_)]) (by kernel_rfl) (Eq.mpr (by kernel_rfl) H)
/-- (*turnout/disk.Disk).Cut -/
def A31 : Ann := (.seq (.seq (.join 11) (.cond .nil .nil)) .nil)
theorem V31 (d_ : Option Addr) (steps_ : Int) (h : Hp) (R : Ending → Hp → Prop) (H :
  ∃ B_ : Bool, (∃ x5_, EqV Tryd.prog 41 (Value.pointer d_) (Value.pointer none) x5_ ∧
   ((x5_ = true →
     h = h ∧ B_ = true) ∧
    (x5_ = false →
     ∃ b_ o_, d_ = some ⟨b_, o_, none⟩ ∧
     ∃ x10_ : Bool, cellsAt h b_ (o_ + 4) [(Value.bool x10_)] ∧
     h = h ∧ B_ = x10_))) ∧
  ((B_ = true →
    R (.returned (Value.tuple #[])) h) ∧
   (B_ = false →
    ∃ b_1 o_1, d_ = some ⟨b_1, o_1, none⟩ ∧
    Value.oneCell' (Value.int .i64 (max steps_ (0 : Int))) = true ∧ wrAt h b_1 (o_1 + 5) 1 ∧ ∀ hp_, hp_ = setsH h b_1 (o_1 + 5) [(Value.int .i64 (max steps_ (0 : Int)))] →
    R (.returned (Value.tuple #[])) hp_))) :
  CallsH Tryd.prog 31 #[(Value.pointer d_), (Value.int .i64 steps_)] h R := calls_vc fine false Tryd.func31 (ann := A31) (args := [(Value.pointer d_), (Value.int .i64 steps_)]) (by kernel_rfl) (Eq.mpr (by kernel_rfl) H)
/-- turnout/turnoutlaw19.begins -/
def A32 : Ann := (.seq .nil (.cut (.seq (.join 18) (.cond (.seq .nil .nil) .nil)) [] (.seq (.seq .nil (.block (.loop [(7, (.int .i64))] (.seq (.seq .nil (.cond .nil .nil)) (.seq (.block (.seq .nil (.cond (.seq .nil .nil) .nil))) .nil))))) (.seq .nil .nil))))
theorem V32 (xp_ : Option Addr) (xn_ xc_ : Nat) (ofp_ : Option Addr) (ofn_ ofc_ : Nat) (least_ : Int) (h : Hp) (R : Ending → Hp → Prop) (H :
  ∃ Jv_ : List Value → Hp → Prop,
  (∃ B_ : Bool, ((((decide (((ofn_ : Nat) : Int) < ((xn_ : Nat) : Int))) = true →
      h = h ∧ B_ = true) ∧
     ((decide (((ofn_ : Nat) : Int) < ((xn_ : Nat) : Int))) = false →
      h = h ∧ B_ = (decide (((xn_ : Nat) : Int) < least_))))) ∧
   ((B_ = true →
     R (.returned (Value.bool false)) h) ∧
    (B_ = false →
     Jv_ [] h))) ∧
  (∀  hp_, Jv_ [] hp_ →
   ∃ (Iv_ : List Value → Hp → Prop) (m_ : List Value → Hp → Nat), Iv_ [(Value.int .i64 (0 : Int))] hp_ ∧
   (∀ (i_ : Int) hp_1, Iv_ [(Value.int .i64 i_)] hp_1 →
    (((decide (i_ < ((xn_ : Nat) : Int))) = true →
      ∃ b_ o_, xp_ = some ⟨b_, o_, none⟩ ∧ 0 ≤ i_ ∧ i_ < (xn_ : Int) ∧
      ∃ x28_ : ByteArray, cellsAt hp_1 b_ (o_ + Int.toNat i_ * 1) [(Value.string x28_)] ∧
      ∃ b_1 o_1, ofp_ = some ⟨b_1, o_1, none⟩ ∧ 0 ≤ i_ ∧ i_ < (ofn_ : Int) ∧
      ∃ x32_ : ByteArray, cellsAt hp_1 b_1 (o_1 + Int.toNat i_ * 1) [(Value.string x32_)] ∧
      (((decide (x28_ ≠ x32_)) = true →
        R (.returned (Value.bool false)) hp_1) ∧
       ((decide (x28_ ≠ x32_)) = false →
        ∃ x24_, IntKind.i64.wrap (i_ + (1 : Int)) = x24_ ∧
        (Iv_ [(Value.int .i64 x24_)] hp_1 ∧ m_ [(Value.int .i64 x24_)] hp_1 < m_ [(Value.int .i64 i_)] hp_1)))) ∧
     ((decide (i_ < ((xn_ : Nat) : Int))) = false →
      R (.returned (Value.bool true)) hp_1))))) :
  CallsH Tryd.prog 32 #[(Value.slice xp_ xn_ xc_), (Value.slice ofp_ ofn_ ofc_), (Value.int .i64 least_)] h R := calls_vc fine false Tryd.func32 (ann := A32) (args := [(Value.slice xp_ xn_ xc_), (Value.slice ofp_ ofn_ ofc_), (Value.int .i64 least_)]) (by kernel_rfl) (Eq.mpr (by kernel_rfl) H)
/-- turnout/turnoutref04.New -/
def A33 : Ann := (.seq .nil (.cut (.seq (.join 11) (.cond (.seq .nil .nil) .nil)) [] (.seq .nil (.seq (.seq .nil (.block (.loop [(5, (.int .i64))] (.seq (.seq .nil (.cond .nil .nil)) (.seq (.block (.drawLast [4])) .nil))))) (.seq .nil .nil)))))
theorem V33 (sectors_ : Int) (h : Hp) (R : Ending → Hp → Prop) (H :
  ∃ Jv_ : List Value → Hp → Prop,
  (∃ B_ : Bool, ((((decide (sectors_ < (1 : Int))) = true →
      h = h ∧ B_ = true) ∧
     ((decide (sectors_ < (1 : Int))) = false →
      h = h ∧ B_ = (decide ((4096 : Int) < sectors_))))) ∧
   ((B_ = true →
     R (.returned (Value.tuple #[(Value.pointer none), (Value.int .i64 (1 : Int))])) h) ∧
    (B_ = false →
     Jv_ [] h))) ∧
  (∀  hp_, Jv_ [] hp_ →
   ∀ b_ hp_1, b_ = Array.size hp_ → hp_1 = Array.push hp_ (.cells #[(Value.slice none 0 0), (Value.slice none 0 0), (Value.bool false), (Value.int .i64 (0 : Int)), (Value.int .i64 (0 : Int)), (Value.int .i64 (0 : Int)), (Value.int .i64 (0 : Int))] 106) →
   ∃ (Iv_ : List Value → Hp → Prop) (m_ : List Value → Hp → Nat), Iv_ [(Value.int .i64 (0 : Int))] hp_1 ∧
   (∀ (i_ : Int) hp_2, Iv_ [(Value.int .i64 i_)] hp_2 →
    (((decide (i_ < sectors_)) = true →
      ∃ Cv_ : Hp → Prop, Cv_ hp_2 ∧
      ∃ (x23p_ : Option Addr) (x23n_ x23c_ : Nat), (∀ h', Cv_ h' → cellsAt h' b_ (0 + 0) [(Value.slice x23p_ x23n_ x23c_)]) ∧
      CallsH Tryd.prog 49 #[] hp_2 fun en_ hp_3 =>
      ∃ x24_ : ByteArray, en_ = .returned (Value.string x24_) ∧
      Cv_ hp_3 ∧
      SemH Tryd.prog (Instr.buildSlice 32 1 #[(0, (Value.string x24_))]) hp_3 fun v_ hp_4 =>
      ∃ (x25p_ : Option Addr) (x25n_ x25c_ : Nat), v_ = (Value.slice x25p_ x25n_ x25c_) ∧
      Cv_ hp_4 ∧
      SemH Tryd.prog (Builtin.append_ #[32, 32] 32 #[(Value.slice x23p_ x23n_ x23c_), (Value.slice x25p_ x25n_ x25c_)]) hp_4 fun v_1 hp_5 =>
      ∃ (x26p_ : Option Addr) (x26n_ x26c_ : Nat), v_1 = (Value.slice x26p_ x26n_ x26c_) ∧
      Cv_ hp_5 ∧
      Value.oneCell' (Value.slice x26p_ x26n_ x26c_) = true ∧ wrAt hp_5 b_ (0 + 0) 1 ∧ ∀ hp_6, hp_6 = setsH hp_5 b_ (0 + 0) [(Value.slice x26p_ x26n_ x26c_)] →
      ∃ x18_, IntKind.i64.wrap (i_ + (1 : Int)) = x18_ ∧
      (Iv_ [(Value.int .i64 x18_)] hp_6 ∧ m_ [(Value.int .i64 x18_)] hp_6 < m_ [(Value.int .i64 i_)] hp_2)) ∧
     ((decide (i_ < sectors_)) = false →
      R (.returned (Value.tuple #[(Value.pointer (some ⟨b_, 0, none⟩)), (Value.int .i64 (0 : Int))])) hp_2))))) :
  CallsH Tryd.prog 33 #[(Value.int .i64 sectors_)] h R := calls_vc fine false Tryd.func33 (ann := A33) (args := [(Value.int .i64 sectors_)]) (by kernel_rfl) (Eq.mpr (by kernel_rfl) H)
/-- (*turnout/turnoutlaw19.side).made -/
def A34 : Ann := (.seq .nil (.seq .nil (.seq .nil (.cut (.seq (.join 44) (.cond (.seq .nil .nil) .nil)) [] (.seq (.seq (.join 50) (.cond (.seq .nil .nil) .nil)) (.seq .nil .nil))))))
theorem V34 (s_ : Option Addr) (first_ : Int) (count_ : Int) (epoch_ : Int) (h : Hp) (R : Ending → Hp → Prop) (H :
  ∃ b_ o_, s_ = some ⟨b_, o_, none⟩ ∧
  ∃ x17_ : Option Addr, cellsAt h b_ (o_ + 0) [(Value.pointer x17_)] ∧
  CallsH Tryd.prog 14 #[(Value.pointer x17_), (Value.int .i64 first_), (Value.int .i64 count_), (Value.int .u64 epoch_)] h fun en_ hp_ =>
  ∃ x21r0_ : Option Addr, ∃ x21r1_ : Int, en_ = .returned (Value.tuple #[(Value.pointer x21r0_), (Value.int .i64 x21r1_)]) ∧
  ∃ b_1 o_1, s_ = some ⟨b_1, o_1, none⟩ ∧
  ∃ x28_ : Option Addr, cellsAt hp_ b_1 (o_1 + 1) [(Value.pointer x28_)] ∧
  CallsH Tryd.prog 50 #[(Value.pointer x28_), (Value.int .i64 first_), (Value.int .i64 count_), (Value.int .u64 epoch_)] hp_ fun en_1 hp_1 =>
  ∃ x32r0_ : Option Addr, ∃ x32r1_ : Int, en_1 = .returned (Value.tuple #[(Value.pointer x32r0_), (Value.int .i64 x32r1_)]) ∧
  ∃ Jv_ : List Value → Hp → Prop,
  (∃ B_ : Bool, ((((decide (x21r1_ ≠ x32r1_)) = true →
      hp_1 = hp_1 ∧ B_ = true) ∧
     ((decide (x21r1_ ≠ x32r1_)) = false →
      ∃ x40_, EqV Tryd.prog 24 (Value.pointer x21r0_) (Value.pointer none) x40_ ∧
      ∃ x42_, EqV Tryd.prog 62 (Value.pointer x32r0_) (Value.pointer none) x42_ ∧
      ∃ x43_, EqV Tryd.prog 4 (Value.bool x40_) (Value.bool x42_) x43_ ∧
      hp_1 = hp_1 ∧ B_ = (!x43_)))) ∧
   ((B_ = true →
     R (.returned (Value.bool false)) hp_1) ∧
    (B_ = false →
     Jv_ [] hp_1))) ∧
  (∀  hp_2, Jv_ [] hp_2 →
   ∃ B_1 : Bool, (∃ x46_, EqV Tryd.prog 24 (Value.pointer x21r0_) (Value.pointer none) x46_ ∧
    (((!x46_) = true →
      ∃ x49_, EqV Tryd.prog 62 (Value.pointer x32r0_) (Value.pointer none) x49_ ∧
      hp_2 = hp_2 ∧ B_1 = (!x49_)) ∧
     ((!x46_) = false →
      hp_2 = hp_2 ∧ B_1 = false))) ∧
   ((B_1 = true →
     ∃ b_2 o_2, s_ = some ⟨b_2, o_2, none⟩ ∧
     Value.oneCell' (Value.pointer x21r0_) = true ∧ wrAt hp_2 b_2 (o_2 + 2) 1 ∧ ∀ hp_3, hp_3 = setsH hp_2 b_2 (o_2 + 2) [(Value.pointer x21r0_)] →
     ∃ b_3 o_3, s_ = some ⟨b_3, o_3, none⟩ ∧
     Value.oneCell' (Value.pointer x32r0_) = true ∧ wrAt hp_3 b_3 (o_3 + 3) 1 ∧ ∀ hp_4, hp_4 = setsH hp_3 b_3 (o_3 + 3) [(Value.pointer x32r0_)] →
     R (.returned (Value.bool true)) hp_4) ∧
    (B_1 = false →
     R (.returned (Value.bool true)) hp_2)))) :
  CallsH Tryd.prog 34 #[(Value.pointer s_), (Value.int .i64 first_), (Value.int .i64 count_), (Value.int .u64 epoch_)] h R := calls_vc fine false Tryd.func34 (ann := A34) (args := [(Value.pointer s_), (Value.int .i64 first_), (Value.int .i64 count_), (Value.int .u64 epoch_)]) (by kernel_rfl) (Eq.mpr (by kernel_rfl) H)
/-- (*turnout/turnoutlaw19.side).play -/
def A35 : Ann := (.seq .nil (.seq (.seq .nil (.block (.seq .nil (.cond (.seq .nil .nil) (.seq .nil (.cond (.seq (.seq .nil (.cond (.seq (.drawLast [7, 11]) .nil) .nil)) (.seq .nil .nil)) (.seq .nil (.cond (.seq (.drawLast [8]) .nil) (.seq .nil (.cond (.seq .nil .nil) (.seq .nil (.cond (.seq .nil (.seq .nil (.seq (.join 4) .nil))) (.seq .nil (.cond (.seq .nil .nil) (.seq .nil (.cond (.seq .nil .nil) (.seq .nil (.cond (.seq .nil .nil) (.seq .nil (.cond (.seq .nil .nil) (.seq .nil (.cond (.seq .nil (.cut (.seq .nil (.cond .nil .nil)) [(7, (.int .u64))] (.seq .nil .nil))) (.seq .nil (.cond (.seq .nil (.seq (.seq .nil (.block (.loop [(9, (.int .i64))] (.seq (.seq .nil (.cond .nil .nil)) (.seq (.block .nil) .nil))))) (.seq (.drawLast [3, 6]) (.seq (.drawLast [6, 11, 14]) .nil)))) .nil)))))))))))))))))))))))) (.seq .nil .nil)))
theorem V35 (s_ : Option Addr) (of0_ : Int) (of1_ : Int) (of2_ : Int) (of3_ : Int) (of4_ : Int) (of5_ : Int) (of6_ : ByteArray) (of7p_ : Option Addr) (of7n_ of7c_ : Nat) (h : Hp) (R : Ending → Hp → Prop) (H :
  ∀ b_ hp_, b_ = Array.size h → hp_ = Array.push h (.cells #[(Value.int .i64 of0_), (Value.int .i64 of1_), (Value.int .i64 of2_), (Value.int .i64 of3_), (Value.int .i64 of4_), (Value.int .u64 of5_), (Value.string of6_), (Value.slice of7p_ of7n_ of7c_)] 82) →
  ∃ x12_ : Int, cellsAt hp_ b_ (0 + 0) [(Value.int .i64 x12_)] ∧
  (((decide (x12_ = (1 : Int))) = true →
    ∃ x17_ : ByteArray, cellsAt hp_ b_ (0 + 6) [(Value.string x17_)] ∧
    CallsH Tryd.prog 51 #[(Value.pointer s_), (Value.string x17_)] hp_ fun en_ hp_1 =>
    ∃ x18_ : Bool, en_ = .returned (Value.bool x18_) ∧
    R (.returned (Value.bool x18_)) hp_1) ∧
   ((decide (x12_ = (1 : Int))) = false →
    (((decide (x12_ = (2 : Int))) = true →
      ∃ x22_ : Int, cellsAt hp_ b_ (0 + 2) [(Value.int .i64 x22_)] ∧
      (((decide (x22_ < (0 : Int))) = true →
        ∃ Cv_ : Hp → Prop, Cv_ hp_ ∧
        ∃ b_1 o_, s_ = some ⟨b_1, o_, none⟩ ∧
        ∃ x28_ : Option Addr, cellsAt hp_ b_1 (o_ + 3) [(Value.pointer x28_)] ∧
        CallsH Tryd.prog 52 #[(Value.pointer x28_)] hp_ fun en_1 hp_2 =>
        ∃ x29_ : Int, en_1 = .returned (Value.int .i64 x29_) ∧
        Cv_ hp_2 ∧
        ∃ x31_ : Int, (∀ h', Cv_ h' → cellsAt h' b_ (0 + 2) [(Value.int .i64 x31_)]) ∧
        CallsH Tryd.prog 18 #[(Value.int .i64 x31_), (Value.int .i64 (2 : Int))] hp_2 fun en_2 hp_3 =>
        ∃ x32_ : Int, en_2 = .returned (Value.int .i64 x32_) ∧
        Cv_ hp_3 ∧
        ∃ x33_, IntKind.i64.wrap (x29_ + x32_) = x33_ ∧
        ∃ x35_ : Int, (∀ h', Cv_ h' → cellsAt h' b_ (0 + 2) [(Value.int .i64 x35_)]) ∧
        CallsH Tryd.prog 23 #[(Value.int .i64 x33_), (Value.int .i64 x35_)] hp_3 fun en_3 hp_4 =>
        ∃ x36_ : ByteArray, en_3 = .returned (Value.string x36_) ∧
        Cv_ hp_4 ∧
        CallsH Tryd.prog 51 #[(Value.pointer s_), (Value.string x36_)] hp_4 fun en_4 hp_5 =>
        ∃ x37_ : Bool, en_4 = .returned (Value.bool x37_) ∧
        Cv_ hp_5 ∧
        R (.returned (Value.bool x37_)) hp_5) ∧
       ((decide (x22_ < (0 : Int))) = false →
        ∃ x40_ : Int, cellsAt hp_ b_ (0 + 2) [(Value.int .i64 x40_)] ∧
        (3001 : Int) ≠ 0 ∧ ∃ x41_, Int.tmod x40_ (3001 : Int) = x41_ ∧
        ∃ x43_ : Int, cellsAt hp_ b_ (0 + 2) [(Value.int .i64 x43_)] ∧
        CallsH Tryd.prog 23 #[(Value.int .i64 x41_), (Value.int .i64 x43_)] hp_ fun en_5 hp_6 =>
        ∃ x44_ : ByteArray, en_5 = .returned (Value.string x44_) ∧
        CallsH Tryd.prog 51 #[(Value.pointer s_), (Value.string x44_)] hp_6 fun en_6 hp_7 =>
        ∃ x45_ : Bool, en_6 = .returned (Value.bool x45_) ∧
        R (.returned (Value.bool x45_)) hp_7))) ∧
     ((decide (x12_ = (2 : Int))) = false →
      (((decide (x12_ = (3 : Int))) = true →
        ∃ Cv_1 : Hp → Prop, Cv_1 hp_ ∧
        ∃ b_2 o_1, s_ = some ⟨b_2, o_1, none⟩ ∧
        ∃ x51_ : Option Addr, cellsAt hp_ b_2 (o_1 + 2) [(Value.pointer x51_)] ∧
        CallsH Tryd.prog 12 #[(Value.pointer x51_)] hp_ fun en_7 hp_8 =>
        ∃ x52_ : Int, en_7 = .returned (Value.int .i64 x52_) ∧
        Cv_1 hp_8 ∧
        ∃ b_3 o_2, s_ = some ⟨b_3, o_2, none⟩ ∧
        ∃ x56_ : Option Addr, (∀ h', Cv_1 h' → cellsAt h' b_3 (o_2 + 3) [(Value.pointer x56_)]) ∧
        CallsH Tryd.prog 53 #[(Value.pointer x56_)] hp_8 fun en_8 hp_9 =>
        ∃ x57_ : Int, en_8 = .returned (Value.int .i64 x57_) ∧
        Cv_1 hp_9 ∧
        R (.returned (Value.bool (decide (x52_ = x57_)))) hp_9) ∧
       ((decide (x12_ = (3 : Int))) = false →
        (((decide (x12_ = (4 : Int))) = true →
          ∃ x63_ : Int, cellsAt hp_ b_ (0 + 3) [(Value.int .i64 x63_)] ∧
          ∃ x65_ : Int, cellsAt hp_ b_ (0 + 4) [(Value.int .i64 x65_)] ∧
          ∃ x67_ : Int, cellsAt hp_ b_ (0 + 5) [(Value.int .u64 x67_)] ∧
          CallsH Tryd.prog 27 #[(Value.pointer s_), (Value.int .i64 x63_), (Value.int .i64 x65_), (Value.int .u64 x67_)] hp_ fun en_9 hp_10 =>
          ∃ x68_ : Bool, en_9 = .returned (Value.bool x68_) ∧
          R (.returned (Value.bool x68_)) hp_10) ∧
         ((decide (x12_ = (4 : Int))) = false →
          (((decide (x12_ = (5 : Int))) = true →
            ∃ b_4 o_3, s_ = some ⟨b_4, o_3, none⟩ ∧
            ∃ x75_ : Option Addr, cellsAt hp_ b_4 (o_3 + 3) [(Value.pointer x75_)] ∧
            ∃ b_5 o_4, x75_ = some ⟨b_5, o_4, none⟩ ∧
            ∃ x78_ : Int, cellsAt hp_ b_5 (o_4 + 1) [(Value.int .i64 x78_)] ∧
            ∃ b_6 o_5, s_ = some ⟨b_6, o_5, none⟩ ∧
            ∃ x82_ : Option Addr, cellsAt hp_ b_6 (o_5 + 3) [(Value.pointer x82_)] ∧
            ∃ b_7 o_6, x82_ = some ⟨b_7, o_6, none⟩ ∧
            ∃ x85_ : Int, cellsAt hp_ b_7 (o_6 + 2) [(Value.int .i64 x85_)] ∧
            ∃ b_8 o_7, s_ = some ⟨b_8, o_7, none⟩ ∧
            ∃ x89_ : Option Addr, cellsAt hp_ b_8 (o_7 + 3) [(Value.pointer x89_)] ∧
            ∃ b_9 o_8, x89_ = some ⟨b_9, o_8, none⟩ ∧
            ∃ x92_ : Int, cellsAt hp_ b_9 (o_8 + 3) [(Value.int .u64 x92_)] ∧
            CallsH Tryd.prog 27 #[(Value.pointer s_), (Value.int .i64 x78_), (Value.int .i64 x85_), (Value.int .u64 x92_)] hp_ fun en_10 hp_11 =>
            ∃ x93_ : Bool, en_10 = .returned (Value.bool x93_) ∧
            ∃ b_10 o_9, s_ = some ⟨b_10, o_9, none⟩ ∧
            ∃ x98_ : Option Addr, cellsAt hp_11 b_10 (o_9 + 3) [(Value.pointer x98_)] ∧
            ∃ b_11 o_10, x98_ = some ⟨b_11, o_10, none⟩ ∧
            ∃ x101_ : Int, cellsAt hp_11 b_11 (o_10 + 1) [(Value.int .i64 x101_)] ∧
            ∃ b_12 o_11, s_ = some ⟨b_12, o_11, none⟩ ∧
            ∃ x105_ : Option Addr, cellsAt hp_11 b_12 (o_11 + 3) [(Value.pointer x105_)] ∧
            ∃ b_13 o_12, x105_ = some ⟨b_13, o_12, none⟩ ∧
            ∃ x108_ : Int, cellsAt hp_11 b_13 (o_12 + 2) [(Value.int .i64 x108_)] ∧
            CallsH Tryd.prog 28 #[(Value.pointer s_), (Value.int .i64 x101_), (Value.int .i64 x108_)] hp_11 fun en_11 hp_12 =>
            ∃ x109_ : Bool, en_11 = .returned (Value.bool x109_) ∧
            ∃ B_ : Bool, (((x93_ = true →
               hp_12 = hp_12 ∧ B_ = x109_) ∧
              (x93_ = false →
               hp_12 = hp_12 ∧ B_ = false))) ∧
            R (.returned (Value.bool B_)) hp_12) ∧
           ((decide (x12_ = (5 : Int))) = false →
            (((decide (x12_ = (6 : Int))) = true →
              ∃ x118_ : Int, cellsAt hp_ b_ (0 + 3) [(Value.int .i64 x118_)] ∧
              ∃ x120_ : Int, cellsAt hp_ b_ (0 + 4) [(Value.int .i64 x120_)] ∧
              CallsH Tryd.prog 28 #[(Value.pointer s_), (Value.int .i64 x118_), (Value.int .i64 x120_)] hp_ fun en_12 hp_13 =>
              ∃ x121_ : Bool, en_12 = .returned (Value.bool x121_) ∧
              R (.returned (Value.bool x121_)) hp_13) ∧
             ((decide (x12_ = (6 : Int))) = false →
              (((decide (x12_ = (7 : Int))) = true →
                ∃ b_14 o_13, s_ = some ⟨b_14, o_13, none⟩ ∧
                ∃ x127_ : Option Addr, cellsAt hp_ b_14 (o_13 + 0) [(Value.pointer x127_)] ∧
                ∃ x129_ : Int, cellsAt hp_ b_ (0 + 2) [(Value.int .i64 x129_)] ∧
                CallsH Tryd.prog 31 #[(Value.pointer x127_), (Value.int .i64 x129_)] hp_ fun en_13 hp_14 =>
                en_13 = .returned (Value.tuple #[]) ∧
                ∃ b_15 o_14, s_ = some ⟨b_15, o_14, none⟩ ∧
                ∃ x134_ : Option Addr, cellsAt hp_14 b_15 (o_14 + 1) [(Value.pointer x134_)] ∧
                ∃ x136_ : Int, cellsAt hp_14 b_ (0 + 2) [(Value.int .i64 x136_)] ∧
                CallsH Tryd.prog 54 #[(Value.pointer x134_), (Value.int .i64 x136_)] hp_14 fun en_14 hp_15 =>
                en_14 = .returned (Value.tuple #[]) ∧
                R (.returned (Value.bool true)) hp_15) ∧
               ((decide (x12_ = (7 : Int))) = false →
                (((decide (x12_ = (8 : Int))) = true →
                  ∃ b_16 o_15, s_ = some ⟨b_16, o_15, none⟩ ∧
                  ∃ x143_ : Option Addr, cellsAt hp_ b_16 (o_15 + 0) [(Value.pointer x143_)] ∧
                  ∃ (x145p_ : Option Addr) (x145n_ x145c_ : Nat), cellsAt hp_ b_ (0 + 7) [(Value.slice x145p_ x145n_ x145c_)] ∧
                  CallsH Tryd.prog 29 #[(Value.pointer x143_), (Value.slice x145p_ x145n_ x145c_)] hp_ fun en_15 hp_16 =>
                  en_15 = .returned (Value.tuple #[]) ∧
                  ∃ b_17 o_16, s_ = some ⟨b_17, o_16, none⟩ ∧
                  ∃ x150_ : Option Addr, cellsAt hp_16 b_17 (o_16 + 1) [(Value.pointer x150_)] ∧
                  ∃ (x152p_ : Option Addr) (x152n_ x152c_ : Nat), cellsAt hp_16 b_ (0 + 7) [(Value.slice x152p_ x152n_ x152c_)] ∧
                  CallsH Tryd.prog 55 #[(Value.pointer x150_), (Value.slice x152p_ x152n_ x152c_)] hp_16 fun en_16 hp_17 =>
                  en_16 = .returned (Value.tuple #[]) ∧
                  R (.returned (Value.bool true)) hp_17) ∧
                 ((decide (x12_ = (8 : Int))) = false →
                  (((decide (x12_ = (9 : Int))) = true →
                    ∃ x158_ : Int, cellsAt hp_ b_ (0 + 3) [(Value.int .i64 x158_)] ∧
                    ∃ x160_ : Int, cellsAt hp_ b_ (0 + 4) [(Value.int .i64 x160_)] ∧
                    ∃ x162_ : Int, cellsAt hp_ b_ (0 + 5) [(Value.int .u64 x162_)] ∧
                    CallsH Tryd.prog 34 #[(Value.pointer s_), (Value.int .i64 x158_), (Value.int .i64 x160_), (Value.int .u64 x162_)] hp_ fun en_17 hp_18 =>
                    ∃ x163_ : Bool, en_17 = .returned (Value.bool x163_) ∧
                    R (.returned (Value.bool x163_)) hp_18) ∧
                   ((decide (x12_ = (9 : Int))) = false →
                    (((decide (x12_ = (10 : Int))) = true →
                      ∃ b_18 o_17, s_ = some ⟨b_18, o_17, none⟩ ∧
                      ∃ x169_ : Option Addr, cellsAt hp_ b_18 (o_17 + 3) [(Value.pointer x169_)] ∧
                      ∃ b_19 o_18, x169_ = some ⟨b_19, o_18, none⟩ ∧
                      ∃ x172_ : Int, cellsAt hp_ b_19 (o_18 + 3) [(Value.int .u64 x172_)] ∧
                      ∃ x173_, IntKind.u64.wrap (x172_ + (1 : Int)) = x173_ ∧
                      ∃ Jv_ : List Value → Hp → Prop,
                      (∃ x175_ : Int, cellsAt hp_ b_ (0 + 2) [(Value.int .i64 x175_)] ∧
                       (((decide (x175_ < (0 : Int))) = true →
                         ∃ b_20 o_19, s_ = some ⟨b_20, o_19, none⟩ ∧
                         ∃ x180_ : Option Addr, cellsAt hp_ b_20 (o_19 + 3) [(Value.pointer x180_)] ∧
                         ∃ b_21 o_20, x180_ = some ⟨b_21, o_20, none⟩ ∧
                         ∃ x183_ : Int, cellsAt hp_ b_21 (o_20 + 3) [(Value.int .u64 x183_)] ∧
                         ∃ x184_, IntKind.u64.wrap (x183_ - (1 : Int)) = x184_ ∧
                         Jv_ [(Value.int .u64 x184_)] hp_) ∧
                        ((decide (x175_ < (0 : Int))) = false →
                         Jv_ [(Value.int .u64 x173_)] hp_))) ∧
                      (∀ (ev_ : Int) hp_19, Jv_ [(Value.int .u64 ev_)] hp_19 →
                       ∃ b_22 o_21, s_ = some ⟨b_22, o_21, none⟩ ∧
                       ∃ x189_ : Option Addr, cellsAt hp_19 b_22 (o_21 + 3) [(Value.pointer x189_)] ∧
                       ∃ b_23 o_22, x189_ = some ⟨b_23, o_22, none⟩ ∧
                       ∃ x192_ : Int, cellsAt hp_19 b_23 (o_22 + 1) [(Value.int .i64 x192_)] ∧
                       ∃ b_24 o_23, s_ = some ⟨b_24, o_23, none⟩ ∧
                       ∃ x196_ : Option Addr, cellsAt hp_19 b_24 (o_23 + 3) [(Value.pointer x196_)] ∧
                       ∃ b_25 o_24, x196_ = some ⟨b_25, o_24, none⟩ ∧
                       ∃ x199_ : Int, cellsAt hp_19 b_25 (o_24 + 2) [(Value.int .i64 x199_)] ∧
                       CallsH Tryd.prog 34 #[(Value.pointer s_), (Value.int .i64 x192_), (Value.int .i64 x199_), (Value.int .u64 ev_)] hp_19 fun en_18 hp_20 =>
                       ∃ x201_ : Bool, en_18 = .returned (Value.bool x201_) ∧
                       R (.returned (Value.bool x201_)) hp_20)) ∧
                     ((decide (x12_ = (10 : Int))) = false →
                      (((decide (x12_ = (11 : Int))) = true →
                        SemH Tryd.prog (Instr.makeSlice 71 (Value.int .i64 (512 : Int)) (Value.int .i64 (512 : Int))) hp_ fun v_ hp_21 =>
                        ∃ (x204p_ : Option Addr) (x204n_ x204c_ : Nat), v_ = (Value.slice x204p_ x204n_ x204c_) ∧
                        ∃ (Iv_ : List Value → Hp → Prop) (m_ : List Value → Hp → Nat), Iv_ [(Value.int .i64 (0 : Int))] hp_21 ∧
                        (∀ (i_ : Int) hp_22, Iv_ [(Value.int .i64 i_)] hp_22 →
                         (((decide (i_ < ((x204n_ : Nat) : Int))) = true →
                           ∃ x214_ : Int, cellsAt hp_22 b_ (0 + 2) [(Value.int .i64 x214_)] ∧
                           ∃ x215_, IntKind.u8.wrap x214_ = x215_ ∧
                           ∃ b_26 o_25, x204p_ = some ⟨b_26, o_25, none⟩ ∧ 0 ≤ i_ ∧ i_ < (x204n_ : Int) ∧
                           Value.oneCell' (Value.int .u8 x215_) = true ∧ wrAt hp_22 b_26 (o_25 + Int.toNat i_ * 1) 1 ∧ ∀ hp_23, hp_23 = setsH hp_22 b_26 (o_25 + Int.toNat i_ * 1) [(Value.int .u8 x215_)] →
                           ∃ x210_, IntKind.i64.wrap (i_ + (1 : Int)) = x210_ ∧
                           (Iv_ [(Value.int .i64 x210_)] hp_23 ∧ m_ [(Value.int .i64 x210_)] hp_23 < m_ [(Value.int .i64 i_)] hp_22)) ∧
                          ((decide (i_ < ((x204n_ : Nat) : Int))) = false →
                           ∃ Cv_2 : Hp → Prop, Cv_2 hp_22 ∧
                           ∃ b_27 o_26, s_ = some ⟨b_27, o_26, none⟩ ∧
                           ∃ x220_ : Option Addr, (∀ h', Cv_2 h' → cellsAt h' b_27 (o_26 + 3) [(Value.pointer x220_)]) ∧
                           ∃ b_28 o_27, x220_ = some ⟨b_28, o_27, none⟩ ∧
                           ∃ x223_ : Int, (∀ h', Cv_2 h' → cellsAt h' b_28 (o_27 + 1) [(Value.int .i64 x223_)]) ∧
                           ∃ x225_ : Int, cellsAt hp_22 b_ (0 + 4) [(Value.int .i64 x225_)] ∧
                           ∃ b_29 o_28, s_ = some ⟨b_29, o_28, none⟩ ∧
                           ∃ x229_ : Option Addr, cellsAt hp_22 b_29 (o_28 + 3) [(Value.pointer x229_)] ∧
                           ∃ b_30 o_29, x229_ = some ⟨b_30, o_29, none⟩ ∧
                           ∃ x232_ : Int, cellsAt hp_22 b_30 (o_29 + 2) [(Value.int .i64 x232_)] ∧
                           CallsH Tryd.prog 18 #[(Value.int .i64 x225_), (Value.int .i64 x232_)] hp_22 fun en_19 hp_24 =>
                           ∃ x233_ : Int, en_19 = .returned (Value.int .i64 x233_) ∧
                           Cv_2 hp_24 ∧
                           ∃ x234_, IntKind.i64.wrap (x223_ + x233_) = x234_ ∧
                           ∃ Cv_3 : Hp → Prop, Cv_3 hp_24 ∧
                           ∃ b_31 o_30, s_ = some ⟨b_31, o_30, none⟩ ∧
                           ∃ x238_ : Option Addr, cellsAt hp_24 b_31 (o_30 + 0) [(Value.pointer x238_)] ∧
                           ∃ x241_ : ByteArray, (∀ w_ : World, Cv_3 w_.heap → (convert 71 9 (Value.slice x204p_ x204n_ x204c_)).run Tryd.prog w_ = .ok (Value.string x241_) w_) ∧
                           CallsH Tryd.prog 56 #[(Value.pointer x238_), (Value.int .i64 x234_), (Value.string x241_)] hp_24 fun en_20 hp_25 =>
                           ∃ x242_ : Int, en_20 = .returned (Value.int .i64 x242_) ∧
                           Cv_3 hp_25 ∧
                           ∃ b_32 o_31, s_ = some ⟨b_32, o_31, none⟩ ∧
                           ∃ x246_ : Option Addr, (∀ h', Cv_3 h' → cellsAt h' b_32 (o_31 + 1) [(Value.pointer x246_)]) ∧
                           ∃ x249_ : ByteArray, (∀ w_ : World, Cv_3 w_.heap → (convert 71 9 (Value.slice x204p_ x204n_ x204c_)).run Tryd.prog w_ = .ok (Value.string x249_) w_) ∧
                           CallsH Tryd.prog 57 #[(Value.pointer x246_), (Value.int .i64 x234_), (Value.string x249_)] hp_25 fun en_21 hp_26 =>
                           ∃ x250_ : Int, en_21 = .returned (Value.int .i64 x250_) ∧
                           Cv_3 hp_26 ∧
                           R (.returned (Value.bool (decide (x242_ = x250_)))) hp_26)))) ∧
                       ((decide (x12_ = (11 : Int))) = false →
                        R (.returned (Value.bool true)) hp_))))))))))))))))))))))) :
  CallsH Tryd.prog 35 #[(Value.pointer s_), (Value.agg #[(Value.int .i64 of0_), (Value.int .i64 of1_), (Value.int .i64 of2_), (Value.int .i64 of3_), (Value.int .i64 of4_), (Value.int .u64 of5_), (Value.string of6_), (Value.slice of7p_ of7n_ of7c_)])] h R := calls_vc fine false Tryd.func35 (ann := A35) (args := [(Value.pointer s_), (Value.agg #[(Value.int .i64 of0_), (Value.int .i64 of1_), (Value.int .i64 of2_), (Value.int .i64 of3_), (Value.int .i64 of4_), (Value.int .u64 of5_), (Value.string of6_), (Value.slice of7p_ of7n_ of7c_)])]) (by kernel_rfl) (Eq.mpr (by kernel_rfl) H)
/-- (*turnout/turnoutlaw19.side).told -/
def A36 : Ann := (.seq .nil (.seq .nil (.seq .nil (.seq .nil (.seq .nil (.seq (.drawLast [17, 44]) .nil))))))
theorem V36 (s_ : Option Addr) (h : Hp) (R : Ending → Hp → Prop) (H :
  ∃ b_ o_, s_ = some ⟨b_, o_, none⟩ ∧
  ∃ x13_ : Option Addr, cellsAt h b_ (o_ + 2) [(Value.pointer x13_)] ∧
  CallsH Tryd.prog 13 #[(Value.pointer x13_)] h fun en_ hp_ =>
  ∃ x14r0_ : Int, ∃ x14r1_ : Int, en_ = .returned (Value.tuple #[(Value.int .i64 x14r0_), (Value.int .i64 x14r1_)]) ∧
  ∃ b_1 o_1, s_ = some ⟨b_1, o_1, none⟩ ∧
  ∃ x21_ : Option Addr, cellsAt hp_ b_1 (o_1 + 3) [(Value.pointer x21_)] ∧
  CallsH Tryd.prog 58 #[(Value.pointer x21_)] hp_ fun en_1 hp_1 =>
  ∃ x22r0_ : Int, ∃ x22r1_ : Int, en_1 = .returned (Value.tuple #[(Value.int .i64 x22r0_), (Value.int .i64 x22r1_)]) ∧
  ∃ b_2 o_2, s_ = some ⟨b_2, o_2, none⟩ ∧
  ∃ x28_ : Option Addr, cellsAt hp_1 b_2 (o_2 + 0) [(Value.pointer x28_)] ∧
  CallsH Tryd.prog 22 #[(Value.pointer x28_)] hp_1 fun en_2 hp_2 =>
  ∃ x29f0_ : Int, ∃ x29f1_ : Int, ∃ x29f2_ : Int, en_2 = .returned (Value.agg #[(Value.int .i64 x29f0_), (Value.int .i64 x29f1_), (Value.int .i64 x29f2_)]) ∧
  ∀ b_3 hp_3, b_3 = Array.size hp_2 → hp_3 = Array.push hp_2 (.cells (zeros Tryd.prog 48) 48) → (∃ i z, Tryd.prog.info? 48 = some i ∧ i.zero = some z) ∧
  List.length [(Value.int .i64 x29f0_), (Value.int .i64 x29f1_), (Value.int .i64 x29f2_)] = 3 ∧ (∀ c ∈ [(Value.int .i64 x29f0_), (Value.int .i64 x29f1_), (Value.int .i64 x29f2_)], c.oneCell' = true) ∧ wrAt hp_3 b_3 0 3 ∧ ∀ hp_4, hp_4 = setsH hp_3 b_3 0 [(Value.int .i64 x29f0_), (Value.int .i64 x29f1_), (Value.int .i64 x29f2_)] →
  ∃ b_4 o_3, s_ = some ⟨b_4, o_3, none⟩ ∧
  ∃ x33_ : Option Addr, cellsAt hp_4 b_4 (o_3 + 1) [(Value.pointer x33_)] ∧
  CallsH Tryd.prog 59 #[(Value.pointer x33_)] hp_4 fun en_3 hp_5 =>
  ∃ x34f0_ : Int, ∃ x34f1_ : Int, ∃ x34f2_ : Int, en_3 = .returned (Value.agg #[(Value.int .i64 x34f0_), (Value.int .i64 x34f1_), (Value.int .i64 x34f2_)]) ∧
  ∀ b_5 hp_6, b_5 = Array.size hp_5 → hp_6 = Array.push hp_5 (.cells (zeros Tryd.prog 48) 48) → (∃ i z, Tryd.prog.info? 48 = some i ∧ i.zero = some z) ∧
  List.length [(Value.int .i64 x34f0_), (Value.int .i64 x34f1_), (Value.int .i64 x34f2_)] = 3 ∧ (∀ c ∈ [(Value.int .i64 x34f0_), (Value.int .i64 x34f1_), (Value.int .i64 x34f2_)], c.oneCell' = true) ∧ wrAt hp_6 b_5 0 3 ∧ ∀ hp_7, hp_7 = setsH hp_6 b_5 0 [(Value.int .i64 x34f0_), (Value.int .i64 x34f1_), (Value.int .i64 x34f2_)] →
  ∃ Cv_ : Hp → Prop, Cv_ hp_7 ∧
  (((decide (x14r0_ = x22r0_)) = true →
    (((decide (x14r1_ = x22r1_)) = true →
      ∃ b_6 o_4, s_ = some ⟨b_6, o_4, none⟩ ∧
      ∃ x47_ : Option Addr, cellsAt hp_7 b_6 (o_4 + 2) [(Value.pointer x47_)] ∧
      CallsH Tryd.prog 17 #[(Value.pointer x47_)] hp_7 fun en_4 hp_8 =>
      ∃ x48_ : Int, en_4 = .returned (Value.int .i64 x48_) ∧
      Cv_ hp_8 ∧
      ∃ b_7 o_5, s_ = some ⟨b_7, o_5, none⟩ ∧
      ∃ x52_ : Option Addr, (∀ h', Cv_ h' → cellsAt h' b_7 (o_5 + 3) [(Value.pointer x52_)]) ∧
      CallsH Tryd.prog 52 #[(Value.pointer x52_)] hp_8 fun en_5 hp_9 =>
      ∃ x53_ : Int, en_5 = .returned (Value.int .i64 x53_) ∧
      Cv_ hp_9 ∧
      (((decide (x48_ = x53_)) = true →
        ∃ x58_ : Int, cellsAt hp_9 b_3 (0 + 1) [(Value.int .i64 x58_)] ∧
        ∃ x60_ : Int, cellsAt hp_9 b_5 (0 + 1) [(Value.int .i64 x60_)] ∧
        (((decide (x58_ = x60_)) = true →
          ∃ x65_ : Int, cellsAt hp_9 b_3 (0 + 2) [(Value.int .i64 x65_)] ∧
          ∃ x67_ : Int, cellsAt hp_9 b_5 (0 + 2) [(Value.int .i64 x67_)] ∧
          (((decide (x65_ = x67_)) = true →
            ∃ b_8 o_6, s_ = some ⟨b_8, o_6, none⟩ ∧
            ∃ x74_ : Option Addr, cellsAt hp_9 b_8 (o_6 + 0) [(Value.pointer x74_)] ∧
            CallsH Tryd.prog 60 #[(Value.pointer x74_)] hp_9 fun en_6 hp_10 =>
            ∃ x75_ : Bool, en_6 = .returned (Value.bool x75_) ∧
            Cv_ hp_10 ∧
            ∃ b_9 o_7, s_ = some ⟨b_9, o_7, none⟩ ∧
            ∃ x79_ : Option Addr, (∀ h', Cv_ h' → cellsAt h' b_9 (o_7 + 1) [(Value.pointer x79_)]) ∧
            CallsH Tryd.prog 61 #[(Value.pointer x79_)] hp_10 fun en_7 hp_11 =>
            ∃ x80_ : Bool, en_7 = .returned (Value.bool x80_) ∧
            Cv_ hp_11 ∧
            ∃ x81_, EqV Tryd.prog 4 (Value.bool x75_) (Value.bool x80_) x81_ ∧
            R (.returned (Value.bool x81_)) hp_11) ∧
           ((decide (x65_ = x67_)) = false →
            R (.returned (Value.bool false)) hp_9))) ∧
         ((decide (x58_ = x60_)) = false →
          R (.returned (Value.bool false)) hp_9))) ∧
       ((decide (x48_ = x53_)) = false →
        R (.returned (Value.bool false)) hp_9))) ∧
     ((decide (x14r1_ = x22r1_)) = false →
      R (.returned (Value.bool false)) hp_7))) ∧
   ((decide (x14r0_ = x22r0_)) = false →
    R (.returned (Value.bool false)) hp_7))) :
  CallsH Tryd.prog 36 #[(Value.pointer s_)] h R := calls_vc fine false Tryd.func36 (ann := A36) (args := [(Value.pointer s_)]) (by kernel_rfl) (Eq.mpr (by kernel_rfl) H)
/-- (*turnout/turnoutlaw19.side).lies -/
def A37 : Ann := (.seq .nil (.seq .nil (.seq .nil (.cut (.seq (.drawLast [14]) (.cond (.seq .nil .nil) .nil)) [] (.seq (.seq .nil (.block (.loop [(5, (.int .i64))] (.seq (.seq .nil (.cond .nil .nil)) (.seq (.block (.seq .nil (.cond (.seq .nil .nil) .nil))) .nil))))) (.seq .nil .nil))))))
theorem V37 (s_ : Option Addr) (h : Hp) (R : Ending → Hp → Prop) (H :
  ∃ b_ o_, s_ = some ⟨b_, o_, none⟩ ∧
  ∃ x9_ : Option Addr, cellsAt h b_ (o_ + 0) [(Value.pointer x9_)] ∧
  CallsH Tryd.prog 24 #[(Value.pointer x9_)] h fun en_ hp_ =>
  ∃ (x10p_ : Option Addr) (x10n_ x10c_ : Nat), en_ = .returned (Value.slice x10p_ x10n_ x10c_) ∧
  ∃ b_1 o_1, s_ = some ⟨b_1, o_1, none⟩ ∧
  ∃ x14_ : Option Addr, cellsAt hp_ b_1 (o_1 + 1) [(Value.pointer x14_)] ∧
  CallsH Tryd.prog 62 #[(Value.pointer x14_)] hp_ fun en_1 hp_1 =>
  ∃ (x15p_ : Option Addr) (x15n_ x15c_ : Nat), en_1 = .returned (Value.slice x15p_ x15n_ x15c_) ∧
  ∃ Jv_ : List Value → Hp → Prop,
  (∃ Cv_ : Hp → Prop, Cv_ hp_1 ∧
   (((decide (((x10n_ : Nat) : Int) ≠ ((x15n_ : Nat) : Int))) = true →
     R (.returned (Value.bool false)) hp_1) ∧
    ((decide (((x10n_ : Nat) : Int) ≠ ((x15n_ : Nat) : Int))) = false →
     ∃ b_2 o_2, s_ = some ⟨b_2, o_2, none⟩ ∧
     ∃ x25_ : Option Addr, cellsAt hp_1 b_2 (o_2 + 0) [(Value.pointer x25_)] ∧
     CallsH Tryd.prog 63 #[(Value.pointer x25_)] hp_1 fun en_2 hp_2 =>
     ∃ x26_ : ByteArray, en_2 = .returned (Value.string x26_) ∧
     Cv_ hp_2 ∧
     ∃ b_3 o_3, s_ = some ⟨b_3, o_3, none⟩ ∧
     ∃ x30_ : Option Addr, (∀ h', Cv_ h' → cellsAt h' b_3 (o_3 + 1) [(Value.pointer x30_)]) ∧
     CallsH Tryd.prog 64 #[(Value.pointer x30_)] hp_2 fun en_3 hp_3 =>
     ∃ x31_ : ByteArray, en_3 = .returned (Value.string x31_) ∧
     Cv_ hp_3 ∧
     (((decide (x26_ ≠ x31_)) = true →
       R (.returned (Value.bool false)) hp_3) ∧
      ((decide (x26_ ≠ x31_)) = false →
       Jv_ [] hp_3))))) ∧
  (∀  hp_4, Jv_ [] hp_4 →
   ∃ (Iv_ : List Value → Hp → Prop) (m_ : List Value → Hp → Nat), Iv_ [(Value.int .i64 (0 : Int))] hp_4 ∧
   (∀ (i_ : Int) hp_5, Iv_ [(Value.int .i64 i_)] hp_5 →
    (((decide (i_ < ((x10n_ : Nat) : Int))) = true →
      ∃ b_4 o_4, x10p_ = some ⟨b_4, o_4, none⟩ ∧ 0 ≤ i_ ∧ i_ < (x10n_ : Int) ∧
      ∃ x43_ : Int, cellsAt hp_5 b_4 (o_4 + Int.toNat i_ * 1) [(Value.int .i64 x43_)] ∧
      ∃ b_5 o_5, x15p_ = some ⟨b_5, o_5, none⟩ ∧ 0 ≤ i_ ∧ i_ < (x15n_ : Int) ∧
      ∃ x47_ : Int, cellsAt hp_5 b_5 (o_5 + Int.toNat i_ * 1) [(Value.int .i64 x47_)] ∧
      (((decide (x43_ ≠ x47_)) = true →
        R (.returned (Value.bool false)) hp_5) ∧
       ((decide (x43_ ≠ x47_)) = false →
        ∃ x39_, IntKind.i64.wrap (i_ + (1 : Int)) = x39_ ∧
        (Iv_ [(Value.int .i64 x39_)] hp_5 ∧ m_ [(Value.int .i64 x39_)] hp_5 < m_ [(Value.int .i64 i_)] hp_5)))) ∧
     ((decide (i_ < ((x10n_ : Nat) : Int))) = false →
      R (.returned (Value.bool true)) hp_5))))) :
  CallsH Tryd.prog 37 #[(Value.pointer s_)] h R := calls_vc fine false Tryd.func37 (ann := A37) (args := [(Value.pointer s_)]) (by kernel_rfl) (Eq.mpr (by kernel_rfl) H)
/-- (*turnout/wal.Log).room -/
def A38 : Ann := (.seq .nil (.seq (.seq .nil (.cond (.seq .nil .nil) .nil)) (.seq .nil .nil)))
theorem V38 (l_ : Option Addr) (h : Hp) (R : Ending → Hp → Prop) (H :
  ∃ b_ o_, l_ = some ⟨b_, o_, none⟩ ∧
  ∃ x6_ : Int, cellsAt h b_ (o_ + 4) [(Value.int .i64 x6_)] ∧
  ∃ b_1 o_1, l_ = some ⟨b_1, o_1, none⟩ ∧
  ∃ x10_ : Int, cellsAt h b_1 (o_1 + 2) [(Value.int .i64 x10_)] ∧
  (((decide (x6_ = x10_)) = true →
    R (.returned (Value.int .i64 (0 : Int))) h) ∧
   ((decide (x6_ = x10_)) = false →
    ∃ b_2 o_2, l_ = some ⟨b_2, o_2, none⟩ ∧
    ∃ (x15p_ : Option Addr) (x15n_ x15c_ : Nat), cellsAt h b_2 (o_2 + 5) [(Value.slice x15p_ x15n_ x15c_)] ∧
    ∃ x17_, IntKind.i64.wrap ((491 : Int) - ((x15n_ : Nat) : Int)) = x17_ ∧
    R (.returned (Value.int .i64 x17_)) h))) :
  CallsH Tryd.prog 38 #[(Value.pointer l_)] h R := calls_vc fine false Tryd.func38 (ann := A38) (args := [(Value.pointer l_)]) (by kernel_rfl) (Eq.mpr (by kernel_rfl) H)
/-- turnout/wal.kind -/
def A39 : Ann := (.seq .nil (.seq (.block (.seq (.join 5) (.cond (.seq .nil .nil) (.seq .nil (.cond (.seq .nil .nil) (.seq .nil (.cond (.seq .nil .nil) .nil))))))) (.seq .nil .nil)))
theorem V39 (begins_ : Bool) (ends_ : Bool) (h : Hp) (R : Ending → Hp → Prop) (H :
  ∃ B_ : Bool, (((begins_ = true →
     h = h ∧ B_ = ends_) ∧
    (begins_ = false →
     h = h ∧ B_ = false))) ∧
  ((B_ = true →
    R (.returned (Value.int .u8 (1 : Int))) h) ∧
   (B_ = false →
    ((begins_ = true →
      R (.returned (Value.int .u8 (2 : Int))) h) ∧
     (begins_ = false →
      ((ends_ = true →
        R (.returned (Value.int .u8 (4 : Int))) h) ∧
       (ends_ = false →
        R (.returned (Value.int .u8 (3 : Int))) h))))))) :
  CallsH Tryd.prog 39 #[(Value.bool begins_), (Value.bool ends_)] h R := calls_vc fine false Tryd.func39 (ann := A39) (args := [(Value.bool begins_), (Value.bool ends_)]) (by kernel_rfl) (Eq.mpr (by kernel_rfl) H)
/-- (*turnout/wal.Log).write -/
def A40 : Ann := (.seq .nil (.seq (.drawLast [3, 7, 11, 16, 20]) (.seq (.seq .nil (.cond (.seq .nil (.seq .nil .nil)) .nil)) (.seq .nil (.seq .nil (.seq .nil .nil))))))
theorem V40 (l_ : Option Addr) (h : Hp) (R : Ending → Hp → Prop) (H :
  ∃ Cv_ : Hp → Prop, Cv_ h ∧
  ∃ b_ o_, l_ = some ⟨b_, o_, none⟩ ∧
  ∃ x7_ : Option Addr, (∀ h', Cv_ h' → cellsAt h' b_ (o_ + 0) [(Value.pointer x7_)]) ∧
  ∃ b_1 o_1, l_ = some ⟨b_1, o_1, none⟩ ∧
  ∃ x11_ : Int, (∀ h', Cv_ h' → cellsAt h' b_1 (o_1 + 1) [(Value.int .i64 x11_)]) ∧
  ∃ b_2 o_2, l_ = some ⟨b_2, o_2, none⟩ ∧
  ∃ x15_ : Int, (∀ h', Cv_ h' → cellsAt h' b_2 (o_2 + 4) [(Value.int .i64 x15_)]) ∧
  ∃ x16_, IntKind.i64.wrap (x11_ + x15_) = x16_ ∧
  ∃ b_3 o_3, l_ = some ⟨b_3, o_3, none⟩ ∧
  ∃ x20_ : Int, (∀ h', Cv_ h' → cellsAt h' b_3 (o_3 + 3) [(Value.int .u64 x20_)]) ∧
  ∃ b_4 o_4, l_ = some ⟨b_4, o_4, none⟩ ∧
  ∃ x24_ : Int, (∀ h', Cv_ h' → cellsAt h' b_4 (o_4 + 4) [(Value.int .i64 x24_)]) ∧
  ∃ b_5 o_5, l_ = some ⟨b_5, o_5, none⟩ ∧
  ∃ (x28p_ : Option Addr) (x28n_ x28c_ : Nat), cellsAt h b_5 (o_5 + 5) [(Value.slice x28p_ x28n_ x28c_)] ∧
  SemH Tryd.prog (convert 71 9 (Value.slice x28p_ x28n_ x28c_)) h fun v_ hp_ =>
  ∃ x29_ : ByteArray, v_ = (Value.string x29_) ∧
  Cv_ hp_ ∧
  CallsH Tryd.prog 65 #[(Value.pointer x7_), (Value.int .i64 x16_), (Value.agg #[(Value.int .i64 (3 : Int)), (Value.int .u64 x20_), (Value.int .i64 x24_), (Value.string x29_)])] hp_ fun en_ hp_1 =>
  ∃ x31_ : Int, en_ = .returned (Value.int .i64 x31_) ∧
  Cv_ hp_1 ∧
  (((decide (x31_ ≠ (0 : Int))) = true →
    ∃ b_6 o_6, l_ = some ⟨b_6, o_6, none⟩ ∧
    Value.oneCell' (Value.bool true) = true ∧ wrAt hp_1 b_6 (o_6 + 6) 1 ∧ ∀ hp_2, hp_2 = setsH hp_1 b_6 (o_6 + 6) [(Value.bool true)] →
    R (.returned (Value.int .i64 x31_)) hp_2) ∧
   ((decide (x31_ ≠ (0 : Int))) = false →
    ∃ b_7 o_7, l_ = some ⟨b_7, o_7, none⟩ ∧
    ∃ x41_ : Int, cellsAt hp_1 b_7 (o_7 + 4) [(Value.int .i64 x41_)] ∧
    ∃ x42_, IntKind.i64.wrap (x41_ + (1 : Int)) = x42_ ∧
    ∃ b_8 o_8, l_ = some ⟨b_8, o_8, none⟩ ∧
    Value.oneCell' (Value.int .i64 x42_) = true ∧ wrAt hp_1 b_8 (o_8 + 4) 1 ∧ ∀ hp_3, hp_3 = setsH hp_1 b_8 (o_8 + 4) [(Value.int .i64 x42_)] →
    ∃ b_9 o_9, l_ = some ⟨b_9, o_9, none⟩ ∧
    ∃ (x49p_ : Option Addr) (x49n_ x49c_ : Nat), cellsAt hp_3 b_9 (o_9 + 5) [(Value.slice x49p_ x49n_ x49c_)] ∧
    ∃ u_ : Nat, (0 : Int) = (u_ : Int) ∧
    0 ≤ u_ ∧ u_ ≤ x49c_ ∧ ∃ x50p_, cutP x49p_ x49c_ 0 1 = x50p_ ∧
    ∃ b_10 o_10, l_ = some ⟨b_10, o_10, none⟩ ∧
    Value.oneCell' (Value.slice x50p_ (u_ - 0) (x49c_ - 0)) = true ∧ wrAt hp_3 b_10 (o_10 + 5) 1 ∧ ∀ hp_4, hp_4 = setsH hp_3 b_10 (o_10 + 5) [(Value.slice x50p_ (u_ - 0) (x49c_ - 0))] →
    R (.returned (Value.int .i64 (0 : Int))) hp_4))) :
  CallsH Tryd.prog 40 #[(Value.pointer l_)] h R := calls_vc fine false Tryd.func40 (ann := A40) (args := [(Value.pointer l_)]) (by kernel_rfl) (Eq.mpr (by kernel_rfl) H)
/-- (*turnout/disk.Disk).Flush -/
def A41 : Ann := (.seq .nil (.seq .nil (.seq (.seq .nil (.cond (.seq .nil .nil) .nil)) (.seq (.seq .nil (.cond (.seq .nil .nil) .nil)) (.seq (.seq .nil (.block (.loop [(19, (.int .i64))] (.seq .nil (.seq (.cond .nil .nil) (.seq (.block (.seq .nil .nil)) .nil)))))) (.seq .nil (.seq .nil (.seq .nil .nil))))))))
theorem V41 (d_ : Option Addr) (h : Hp) (R : Ending → Hp → Prop) (H :
  CallsH Tryd.prog 66 #[(Value.pointer d_), (Value.int .i64 (0 : Int))] h fun en_ hp_ =>
  ∃ x7_ : Int, en_ = .returned (Value.int .i64 x7_) ∧
  (((decide (x7_ ≠ (0 : Int))) = true →
    R (.returned (Value.int .i64 x7_)) hp_) ∧
   ((decide (x7_ ≠ (0 : Int))) = false →
    CallsH Tryd.prog 67 #[(Value.pointer d_)] hp_ fun en_1 hp_1 =>
    ∃ x12_ : Bool, en_1 = .returned (Value.bool x12_) ∧
    (((!x12_) = true →
      R (.returned (Value.int .i64 (40 : Int))) hp_1) ∧
     ((!x12_) = false →
      ∃ b_ o_, d_ = some ⟨b_, o_, none⟩ ∧
      ∃ (x17p_ : Option Addr) (x17n_ x17c_ : Nat), cellsAt hp_1 b_ (o_ + 3) [(Value.slice x17p_ x17n_ x17c_)] ∧
      ∃ (Iv_ : List Value → Hp → Prop) (m_ : List Value → Hp → Nat), Iv_ [(Value.int .i64 (0 : Int))] hp_1 ∧
      (∀ (x19_ : Int) hp_2, Iv_ [(Value.int .i64 x19_)] hp_2 →
       (((decide (x19_ < ((x17n_ : Nat) : Int))) = true →
         ∃ b_1 o_1, x17p_ = some ⟨b_1, o_1, none⟩ ∧ 0 ≤ x19_ ∧ x19_ < (x17n_ : Int) ∧
         ∃ x22_ : Value, cellsAt hp_2 b_1 (o_1 + Int.toNat x19_ * 1) [x22_] ∧
         ∃ b_2 o_2, d_ = some ⟨b_2, o_2, none⟩ ∧
         ∃ (x27p_ : Option Addr) (x27n_ x27c_ : Nat), cellsAt hp_2 b_2 (o_2 + 0) [(Value.slice x27p_ x27n_ x27c_)] ∧
         ∃ fn_ fst_ cap_, x22_ = Value.func (.func fn_) fst_ cap_ ∧ bodied Tryd.prog fn_ = true ∧
         CallsH Tryd.prog fn_ (fst_.toList ++ [(Value.slice x27p_ x27n_ x27c_), (Value.int .i64 (512 : Int))] ++ cap_.toList).toArray hp_2 fun en_2 hp_3 =>
         en_2 = .returned (Value.tuple #[]) ∧
         ∃ x29_, IntKind.i64.wrap (x19_ + (1 : Int)) = x29_ ∧
         (Iv_ [(Value.int .i64 x29_)] hp_3 ∧ m_ [(Value.int .i64 x29_)] hp_3 < m_ [(Value.int .i64 x19_)] hp_2)) ∧
        ((decide (x19_ < ((x17n_ : Nat) : Int))) = false →
         CallsH Tryd.prog 48 #[(Value.pointer d_)] hp_2 fun en_3 hp_4 =>
         en_3 = .returned (Value.tuple #[]) ∧
         ∃ b_3 o_3, d_ = some ⟨b_3, o_3, none⟩ ∧
         ∃ x36_ : Int, cellsAt hp_4 b_3 ((o_3 + 6) + 2) [(Value.int .i64 x36_)] ∧
         ∃ x37_, IntKind.i64.wrap (x36_ + (1 : Int)) = x37_ ∧
         ∃ b_4 o_4, d_ = some ⟨b_4, o_4, none⟩ ∧
         Value.oneCell' (Value.int .i64 x37_) = true ∧ wrAt hp_4 b_4 ((o_4 + 6) + 2) 1 ∧ ∀ hp_5, hp_5 = setsH hp_4 b_4 ((o_4 + 6) + 2) [(Value.int .i64 x37_)] →
         R (.returned (Value.int .i64 (0 : Int))) hp_5)))))))) :
  CallsH Tryd.prog 41 #[(Value.pointer d_)] h R := calls_vc fine false Tryd.func41 (ann := A41) (args := [(Value.pointer d_)]) (by kernel_rfl) (Eq.mpr (by kernel_rfl) H)
/-- turnout/wal.right -/
def A42 : Ann := (.seq .nil (.seq .nil .nil))
theorem V42 (d_ : Option Addr) (first_ : Int) (count_ : Int) (h : Hp) (R : Ending → Hp → Prop) (H :
  ∃ x8_, EqV Tryd.prog 41 (Value.pointer d_) (Value.pointer none) x8_ ∧
  (((!x8_) = true →
    (((decide ((0 : Int) ≤ first_)) = true →
      (((decide ((1 : Int) ≤ count_)) = true →
        CallsH Tryd.prog 68 #[(Value.pointer d_)] h fun en_ hp_ =>
        ∃ x20_ : Int, en_ = .returned (Value.int .i64 x20_) ∧
        (((decide (first_ < x20_)) = true →
          CallsH Tryd.prog 68 #[(Value.pointer d_)] hp_ fun en_1 hp_1 =>
          ∃ x26_ : Int, en_1 = .returned (Value.int .i64 x26_) ∧
          ∃ x28_, IntKind.i64.wrap (x26_ - first_) = x28_ ∧
          R (.returned (Value.bool (decide (count_ ≤ x28_)))) hp_1) ∧
         ((decide (first_ < x20_)) = false →
          R (.returned (Value.bool false)) hp_))) ∧
       ((decide ((1 : Int) ≤ count_)) = false →
        R (.returned (Value.bool false)) h))) ∧
     ((decide ((0 : Int) ≤ first_)) = false →
      R (.returned (Value.bool false)) h))) ∧
   ((!x8_) = false →
    R (.returned (Value.bool false)) h))) :
  CallsH Tryd.prog 42 #[(Value.pointer d_), (Value.int .i64 first_), (Value.int .i64 count_)] h R := calls_vc fine false Tryd.func42 (ann := A42) (args := [(Value.pointer d_), (Value.int .i64 first_), (Value.int .i64 count_)]) (by kernel_rfl) (Eq.mpr (by kernel_rfl) H)
/-- turnout/frame.Get -/
def A43 : Ann := (.seq .nil (.seq .nil (.seq (.seq .nil (.cond (.seq .nil .nil) .nil)) (.seq .nil (.seq .nil .nil)))))
theorem V43 (d_ : Option Addr) (atv_ : Int) (h : Hp) (R : Ending → Hp → Prop) (H :
  ∀ b_ hp_, b_ = Array.size h → hp_ = Array.push h (.cells (zeros Tryd.prog 94) 94) → (∃ i z, Tryd.prog.info? 94 = some i ∧ i.zero = some z) ∧
  CallsH Tryd.prog 69 #[(Value.pointer d_), (Value.int .i64 atv_)] hp_ fun en_ hp_1 =>
  ∃ x13r0_ : ByteArray, ∃ x13r1_ : Int, en_ = .returned (Value.tuple #[(Value.string x13r0_), (Value.int .i64 x13r1_)]) ∧
  (((decide (x13r1_ ≠ (0 : Int))) = true →
    List.length [(Value.int .i64 (0 : Int)), (Value.int .u64 (0 : Int)), (Value.int .i64 (0 : Int)), (Value.string (⟨#[]⟩ : ByteArray))] = 4 ∧ (∀ c ∈ [(Value.int .i64 (0 : Int)), (Value.int .u64 (0 : Int)), (Value.int .i64 (0 : Int)), (Value.string (⟨#[]⟩ : ByteArray))], c.oneCell' = true) ∧ wrAt hp_1 b_ 0 4 ∧ ∀ hp_2, hp_2 = setsH hp_1 b_ 0 [(Value.int .i64 (0 : Int)), (Value.int .u64 (0 : Int)), (Value.int .i64 (0 : Int)), (Value.string (⟨#[]⟩ : ByteArray))] →
    ∃ resf0_ : Int, ∃ resf1_ : Int, ∃ resf2_ : Int, ∃ resf3_ : ByteArray, cellsAt hp_2 b_ 0 [(Value.int .i64 resf0_), (Value.int .u64 resf1_), (Value.int .i64 resf2_), (Value.string resf3_)] ∧
    R (.returned (Value.tuple #[(Value.agg #[(Value.int .i64 resf0_), (Value.int .u64 resf1_), (Value.int .i64 resf2_), (Value.string resf3_)]), (Value.int .i64 x13r1_)])) hp_2) ∧
   ((decide (x13r1_ ≠ (0 : Int))) = false →
    CallsH Tryd.prog 70 #[(Value.string x13r0_)] hp_1 fun en_1 hp_3 =>
    ∃ x22r0f0_ : Int, ∃ x22r0f1_ : Int, ∃ x22r0f2_ : Int, ∃ x22r0f3_ : ByteArray, ∃ x22r1_ : Int, ∃ x22r2_ : Int, en_1 = .returned (Value.tuple #[(Value.agg #[(Value.int .i64 x22r0f0_), (Value.int .u64 x22r0f1_), (Value.int .i64 x22r0f2_), (Value.string x22r0f3_)]), (Value.int .i64 x22r1_), (Value.int .i64 x22r2_)]) ∧
    ∀ b_1 hp_4, b_1 = Array.size hp_3 → hp_4 = Array.push hp_3 (.cells (zeros Tryd.prog 94) 94) → (∃ i z, Tryd.prog.info? 94 = some i ∧ i.zero = some z) ∧
    List.length [(Value.int .i64 x22r0f0_), (Value.int .u64 x22r0f1_), (Value.int .i64 x22r0f2_), (Value.string x22r0f3_)] = 4 ∧ (∀ c ∈ [(Value.int .i64 x22r0f0_), (Value.int .u64 x22r0f1_), (Value.int .i64 x22r0f2_), (Value.string x22r0f3_)], c.oneCell' = true) ∧ wrAt hp_4 b_1 0 4 ∧ ∀ hp_5, hp_5 = setsH hp_4 b_1 0 [(Value.int .i64 x22r0f0_), (Value.int .u64 x22r0f1_), (Value.int .i64 x22r0f2_), (Value.string x22r0f3_)] →
    ∃ x26f0_ : Int, ∃ x26f1_ : Int, ∃ x26f2_ : Int, ∃ x26f3_ : ByteArray, cellsAt hp_5 b_1 0 [(Value.int .i64 x26f0_), (Value.int .u64 x26f1_), (Value.int .i64 x26f2_), (Value.string x26f3_)] ∧
    List.length [(Value.int .i64 x26f0_), (Value.int .u64 x26f1_), (Value.int .i64 x26f2_), (Value.string x26f3_)] = 4 ∧ (∀ c ∈ [(Value.int .i64 x26f0_), (Value.int .u64 x26f1_), (Value.int .i64 x26f2_), (Value.string x26f3_)], c.oneCell' = true) ∧ wrAt hp_5 b_ 0 4 ∧ ∀ hp_6, hp_6 = setsH hp_5 b_ 0 [(Value.int .i64 x26f0_), (Value.int .u64 x26f1_), (Value.int .i64 x26f2_), (Value.string x26f3_)] →
    ∃ resf0_1 : Int, ∃ resf1_1 : Int, ∃ resf2_1 : Int, ∃ resf3_1 : ByteArray, cellsAt hp_6 b_ 0 [(Value.int .i64 resf0_1), (Value.int .u64 resf1_1), (Value.int .i64 resf2_1), (Value.string resf3_1)] ∧
    R (.returned (Value.tuple #[(Value.agg #[(Value.int .i64 resf0_1), (Value.int .u64 resf1_1), (Value.int .i64 resf2_1), (Value.string resf3_1)]), (Value.int .i64 x22r2_)])) hp_6))) :
  CallsH Tryd.prog 43 #[(Value.pointer d_), (Value.int .i64 atv_)] h R := calls_vc fine false Tryd.func43 (ann := A43) (args := [(Value.pointer d_), (Value.int .i64 atv_)]) (by kernel_rfl) (Eq.mpr (by kernel_rfl) H)
/-- (*turnout/wal.reading).body -/
def A44 : Ann := (.seq .nil (.seq (.orders 14 [[0, 1, 2, 3, 4, 5, 6, 7, 8, 9, 10, 11, 12, 13, 14, 15], [0, 1, 2, 3, 4, 5, 6, 7, 14, 8, 9, 10, 11, 12, 13, 15]] [3, 7, 12]) (.seq (.seq .nil (.block (.range [(.agg [(.int .u8), .str, .bool]), (.one .any)] (.seq .nil .nil) (.block (.seq (.seq .nil (.cond .nil .nil)) (.seq .nil (.cond (.seq .nil .nil) .nil))))))) (.seq .nil (.seq .nil .nil)))))
theorem V44 (r_ : Option Addr) (s_ : ByteArray) (h : Hp) (R : Ending → Hp → Prop) (H :
  ∀ b_ hp_, b_ = Array.size h → hp_ = Array.push h (.cells (zeros Tryd.prog 98) 98) → (∃ i z, Tryd.prog.info? 98 = some i ∧ i.zero = some z) ∧
  (∃ Cv_ : Hp → Prop, Cv_ hp_ ∧
   ∃ b_1 o_, r_ = some ⟨b_1, o_, none⟩ ∧
   ∃ (x11p_ : Option Addr) (x11n_ x11c_ : Nat), (∀ h', Cv_ h' → cellsAt h' b_1 (o_ + 0) [(Value.slice x11p_ x11n_ x11c_)]) ∧
   ∃ b_2 o_1, r_ = some ⟨b_2, o_1, none⟩ ∧
   ∃ (x15p_ : Option Addr) (x15n_ x15c_ : Nat), (∀ h', Cv_ h' → cellsAt h' b_2 (o_1 + 1) [(Value.slice x15p_ x15n_ x15c_)]) ∧
   SemH Tryd.prog (Builtin.append_ #[71, 71] 71 #[(Value.slice none 0 0), (Value.slice x15p_ x15n_ x15c_)]) hp_ fun v_ hp_1 =>
   ∃ (x16p_ : Option Addr) (x16n_ x16c_ : Nat), v_ = (Value.slice x16p_ x16n_ x16c_) ∧
   Cv_ hp_1 ∧
   ∃ b_3 o_2, r_ = some ⟨b_3, o_2, none⟩ ∧
   ∃ x20_ : Bool, (∀ h', Cv_ h' → cellsAt h' b_3 (o_2 + 2) [(Value.bool x20_)]) ∧
   ∀ b_4 hp_2, b_4 = Array.size hp_1 → hp_2 = Array.push hp_1 (.cells (zeros Tryd.prog 92) 92) → (∃ i z, Tryd.prog.info? 92 = some i ∧ i.zero = some z) ∧
   Cv_ hp_2 ∧
   List.length [(Value.slice x11p_ x11n_ x11c_), (Value.slice x16p_ x16n_ x16c_), (Value.bool x20_)] = 3 ∧ (∀ c ∈ [(Value.slice x11p_ x11n_ x11c_), (Value.slice x16p_ x16n_ x16c_), (Value.bool x20_)], c.oneCell' = true) ∧ wrAt hp_2 b_4 0 3 ∧ ∀ hp_3, hp_3 = setsH hp_2 b_4 0 [(Value.slice x11p_ x11n_ x11c_), (Value.slice x16p_ x16n_ x16c_), (Value.bool x20_)] →
   Cv_ hp_3 ∧
   CallsH Tryd.prog 71 #[(Value.string s_)] hp_3 fun en_ hp_4 =>
   ∃ x23_ : Value, en_ = .returned x23_ ∧
   ∃ gf_ lb_, x23_ = Value.func (.func gf_) #[] lb_ ∧ bodied Tryd.prog gf_ = true ∧
   ∀ (D_ L_ : Nat) (hv_ : Hp) (oR_ oB_ oE_ : Obj) (oD_ oX_ : Exit → Obj), D_ = Array.size hp_4 → L_ = Array.size hp_4 + 1 → hv_ = Array.push (Array.push hp_4 (.deferred (some []))) oR_ →
   (∀ (x24f0_ : Int) (x24f1_ : ByteArray) (x24f2_ : Bool) (x25_ : Value) (hk_ : Hp) (Rv_ : Ending → Hp → Prop), hk_[L_]? = some oR_ →
    (∀ b_5 hp_5, b_5 = Array.size hk_ → hp_5 = Array.push hk_ (.cells (zeros Tryd.prog 132) 132) → (∃ i z, Tryd.prog.info? 132 = some i ∧ i.zero = some z) ∧
     List.length [(Value.int .u8 x24f0_), (Value.string x24f1_), (Value.bool x24f2_)] = 3 ∧ (∀ c ∈ [(Value.int .u8 x24f0_), (Value.string x24f1_), (Value.bool x24f2_)], c.oneCell' = true) ∧ wrAt hp_5 b_5 0 3 ∧ ∀ hp_6, hp_6 = setsH hp_5 b_5 0 [(Value.int .u8 x24f0_), (Value.string x24f1_), (Value.bool x24f2_)] →
     hp_6[L_]? = some oR_ ∧ ∀ hp_7, hp_7 = setO hp_6 L_ oB_ →
     opqN x25_
     (∃ x28f0_ : Int, ∃ x28f1_ : ByteArray, ∃ x28f2_ : Bool, cellsAt hp_7 b_5 0 [(Value.int .u8 x28f0_), (Value.string x28f1_), (Value.bool x28f2_)] ∧
      CallsH Tryd.prog 72 #[(Value.pointer (some ⟨b_4, 0, none⟩)), (Value.agg #[(Value.int .u8 x28f0_), (Value.string x28f1_), (Value.bool x28f2_)])] hp_7 fun en_2 hp_8 =>
      ∃ x29_ : Value, en_2 = .returned x29_ ∧
      opqN x29_
      (hp_8[L_]? = some oB_ ∧
       Rv_ (.returned (Value.bool true)) (setO hp_8 L_ oR_))
      (Value.oneCell' x29_ = true ∧ wrAt hp_8 b_ 0 1 ∧ ∀ hp_9, hp_9 = setsH hp_8 b_ 0 [x29_] →
       hp_9[L_]? = some oB_ ∧
       Rv_ (.returned (Value.bool false)) (setO hp_9 L_ (oD_ .ret))))
     (opqN x25_
      (hp_7[L_]? = some oB_ ∧
       Rv_ (.returned (Value.bool true)) (setO hp_7 L_ oR_))
      (Value.oneCell' x25_ = true ∧ wrAt hp_7 b_ 0 1 ∧ ∀ hp_10, hp_10 = setsH hp_7 b_ 0 [x25_] →
       hp_10[L_]? = some oB_ ∧
       Rv_ (.returned (Value.bool false)) (setO hp_10 L_ (oD_ .ret))))) →
    YieldH Tryd.prog L_ [(Value.agg #[(Value.int .u8 x24f0_), (Value.string x24f1_), (Value.bool x24f2_)]), x25_] hk_ Rv_) →
   CallsH Tryd.prog gf_ (Value.func (.yield L_) #[] #[] :: lb_.toList).toArray hv_ fun en_1 hv_1 => (∃ v_1, en_1 = .returned v_1) ∧
   ((hv_1[L_]? = some oR_ ∧
     ∀ hp_11, hp_11 = setO hv_1 L_ oE_ →
     ∃ (x34f0p_ : Option Addr) (x34f0n_ x34f0c_ : Nat), ∃ (x34f1p_ : Option Addr) (x34f1n_ x34f1c_ : Nat), ∃ x34f2_ : Bool, cellsAt hp_11 b_4 0 [(Value.slice x34f0p_ x34f0n_ x34f0c_), (Value.slice x34f1p_ x34f1n_ x34f1c_), (Value.bool x34f2_)] ∧
     ∃ b_6 o_3, r_ = some ⟨b_6, o_3, none⟩ ∧
     List.length [(Value.slice x34f0p_ x34f0n_ x34f0c_), (Value.slice x34f1p_ x34f1n_ x34f1c_), (Value.bool x34f2_)] = 3 ∧ (∀ c ∈ [(Value.slice x34f0p_ x34f0n_ x34f0c_), (Value.slice x34f1p_ x34f1n_ x34f1c_), (Value.bool x34f2_)], c.oneCell' = true) ∧ wrAt hp_11 b_6 o_3 3 ∧ ∀ hp_12, hp_12 = setsH hp_11 b_6 o_3 [(Value.slice x34f0p_ x34f0n_ x34f0c_), (Value.slice x34f1p_ x34f1n_ x34f1c_), (Value.bool x34f2_)] →
     Value.oneCell' Value.nilIface = true ∧ wrAt hp_12 b_ 0 1 ∧ ∀ hp_13, hp_13 = setsH hp_12 b_ 0 [Value.nilIface] →
     hp_13[D_]? = some (.deferred (some [])) ∧ ∀ hp_14, hp_14 = setO hp_13 D_ (.deferred none) →
     ∃ res_ : Value, cellsAt hp_14 b_ 0 [res_] ∧
     R (.returned res_) hp_14) ∨
    (hv_1[L_]? = some (oD_ .ret) ∧
     ∀ hp_15, hp_15 = setO hv_1 L_ (oX_ .ret) →
     hp_15[D_]? = some (.deferred (some [])) ∧ ∀ hp_16, hp_16 = setO hp_15 D_ (.deferred none) →
     ∃ res_1 : Value, cellsAt hp_16 b_ 0 [res_1] ∧
     R (.returned res_1) hp_16) ∨
    ∃ i_, hv_1[L_]? = some (oD_ (.exit i_)) ∧
    ∀ hp_17, hp_17 = setO hv_1 L_ (oX_ (.exit i_)) →
    cond (Nat.beq i_ 0)
    (∃ (x34f0p_1 : Option Addr) (x34f0n_1 x34f0c_1 : Nat), ∃ (x34f1p_1 : Option Addr) (x34f1n_1 x34f1c_1 : Nat), ∃ x34f2_1 : Bool, cellsAt hp_17 b_4 0 [(Value.slice x34f0p_1 x34f0n_1 x34f0c_1), (Value.slice x34f1p_1 x34f1n_1 x34f1c_1), (Value.bool x34f2_1)] ∧
     ∃ b_7 o_4, r_ = some ⟨b_7, o_4, none⟩ ∧
     List.length [(Value.slice x34f0p_1 x34f0n_1 x34f0c_1), (Value.slice x34f1p_1 x34f1n_1 x34f1c_1), (Value.bool x34f2_1)] = 3 ∧ (∀ c ∈ [(Value.slice x34f0p_1 x34f0n_1 x34f0c_1), (Value.slice x34f1p_1 x34f1n_1 x34f1c_1), (Value.bool x34f2_1)], c.oneCell' = true) ∧ wrAt hp_17 b_7 o_4 3 ∧ ∀ hp_18, hp_18 = setsH hp_17 b_7 o_4 [(Value.slice x34f0p_1 x34f0n_1 x34f0c_1), (Value.slice x34f1p_1 x34f1n_1 x34f1c_1), (Value.bool x34f2_1)] →
     Value.oneCell' Value.nilIface = true ∧ wrAt hp_18 b_ 0 1 ∧ ∀ hp_19, hp_19 = setsH hp_18 b_ 0 [Value.nilIface] →
     hp_19[D_]? = some (.deferred (some [])) ∧ ∀ hp_20, hp_20 = setO hp_19 D_ (.deferred none) →
     ∃ res_2 : Value, cellsAt hp_20 b_ 0 [res_2] ∧
     R (.returned res_2) hp_20)
    (False))) ∧
  (∃ Cv_1 : Hp → Prop, Cv_1 hp_ ∧
   ∃ b_8 o_5, r_ = some ⟨b_8, o_5, none⟩ ∧
   ∃ (x11p_1 : Option Addr) (x11n_1 x11c_1 : Nat), (∀ h', Cv_1 h' → cellsAt h' b_8 (o_5 + 0) [(Value.slice x11p_1 x11n_1 x11c_1)]) ∧
   ∃ b_9 o_6, r_ = some ⟨b_9, o_6, none⟩ ∧
   ∃ (x15p_1 : Option Addr) (x15n_1 x15c_1 : Nat), (∀ h', Cv_1 h' → cellsAt h' b_9 (o_6 + 1) [(Value.slice x15p_1 x15n_1 x15c_1)]) ∧
   ∀ b_10 hp_21, b_10 = Array.size hp_ → hp_21 = Array.push hp_ (.cells (zeros Tryd.prog 92) 92) → (∃ i z, Tryd.prog.info? 92 = some i ∧ i.zero = some z) ∧
   Cv_1 hp_21 ∧
   SemH Tryd.prog (Builtin.append_ #[71, 71] 71 #[(Value.slice none 0 0), (Value.slice x15p_1 x15n_1 x15c_1)]) hp_21 fun v_2 hp_22 =>
   ∃ (x16p_1 : Option Addr) (x16n_1 x16c_1 : Nat), v_2 = (Value.slice x16p_1 x16n_1 x16c_1) ∧
   Cv_1 hp_22 ∧
   ∃ b_11 o_7, r_ = some ⟨b_11, o_7, none⟩ ∧
   ∃ x20_1 : Bool, (∀ h', Cv_1 h' → cellsAt h' b_11 (o_7 + 2) [(Value.bool x20_1)]) ∧
   List.length [(Value.slice x11p_1 x11n_1 x11c_1), (Value.slice x16p_1 x16n_1 x16c_1), (Value.bool x20_1)] = 3 ∧ (∀ c ∈ [(Value.slice x11p_1 x11n_1 x11c_1), (Value.slice x16p_1 x16n_1 x16c_1), (Value.bool x20_1)], c.oneCell' = true) ∧ wrAt hp_22 b_10 0 3 ∧ ∀ hp_23, hp_23 = setsH hp_22 b_10 0 [(Value.slice x11p_1 x11n_1 x11c_1), (Value.slice x16p_1 x16n_1 x16c_1), (Value.bool x20_1)] →
   Cv_1 hp_23 ∧
   CallsH Tryd.prog 71 #[(Value.string s_)] hp_23 fun en_3 hp_24 =>
   ∃ x23_1 : Value, en_3 = .returned x23_1 ∧
   ∃ gf_1 lb_1, x23_1 = Value.func (.func gf_1) #[] lb_1 ∧ bodied Tryd.prog gf_1 = true ∧
   ∀ (D_1 L_1 : Nat) (hv_2 : Hp) (oR_1 oB_1 oE_1 : Obj) (oD_1 oX_1 : Exit → Obj), D_1 = Array.size hp_24 → L_1 = Array.size hp_24 + 1 → hv_2 = Array.push (Array.push hp_24 (.deferred (some []))) oR_1 →
   (∀ (x24f0_1 : Int) (x24f1_1 : ByteArray) (x24f2_1 : Bool) (x25_1 : Value) (hk_1 : Hp) (Rv_1 : Ending → Hp → Prop), hk_1[L_1]? = some oR_1 →
    (∀ b_12 hp_25, b_12 = Array.size hk_1 → hp_25 = Array.push hk_1 (.cells (zeros Tryd.prog 132) 132) → (∃ i z, Tryd.prog.info? 132 = some i ∧ i.zero = some z) ∧
     List.length [(Value.int .u8 x24f0_1), (Value.string x24f1_1), (Value.bool x24f2_1)] = 3 ∧ (∀ c ∈ [(Value.int .u8 x24f0_1), (Value.string x24f1_1), (Value.bool x24f2_1)], c.oneCell' = true) ∧ wrAt hp_25 b_12 0 3 ∧ ∀ hp_26, hp_26 = setsH hp_25 b_12 0 [(Value.int .u8 x24f0_1), (Value.string x24f1_1), (Value.bool x24f2_1)] →
     hp_26[L_1]? = some oR_1 ∧ ∀ hp_27, hp_27 = setO hp_26 L_1 oB_1 →
     opqN x25_1
     (∃ x28f0_1 : Int, ∃ x28f1_1 : ByteArray, ∃ x28f2_1 : Bool, cellsAt hp_27 b_12 0 [(Value.int .u8 x28f0_1), (Value.string x28f1_1), (Value.bool x28f2_1)] ∧
      CallsH Tryd.prog 72 #[(Value.pointer (some ⟨b_10, 0, none⟩)), (Value.agg #[(Value.int .u8 x28f0_1), (Value.string x28f1_1), (Value.bool x28f2_1)])] hp_27 fun en_5 hp_28 =>
      ∃ x29_1 : Value, en_5 = .returned x29_1 ∧
      opqN x29_1
      (hp_28[L_1]? = some oB_1 ∧
       Rv_1 (.returned (Value.bool true)) (setO hp_28 L_1 oR_1))
      (Value.oneCell' x29_1 = true ∧ wrAt hp_28 b_ 0 1 ∧ ∀ hp_29, hp_29 = setsH hp_28 b_ 0 [x29_1] →
       hp_29[L_1]? = some oB_1 ∧
       Rv_1 (.returned (Value.bool false)) (setO hp_29 L_1 (oD_1 .ret))))
     (opqN x25_1
      (hp_27[L_1]? = some oB_1 ∧
       Rv_1 (.returned (Value.bool true)) (setO hp_27 L_1 oR_1))
      (Value.oneCell' x25_1 = true ∧ wrAt hp_27 b_ 0 1 ∧ ∀ hp_30, hp_30 = setsH hp_27 b_ 0 [x25_1] →
       hp_30[L_1]? = some oB_1 ∧
       Rv_1 (.returned (Value.bool false)) (setO hp_30 L_1 (oD_1 .ret))))) →
    YieldH Tryd.prog L_1 [(Value.agg #[(Value.int .u8 x24f0_1), (Value.string x24f1_1), (Value.bool x24f2_1)]), x25_1] hk_1 Rv_1) →
   CallsH Tryd.prog gf_1 (Value.func (.yield L_1) #[] #[] :: lb_1.toList).toArray hv_2 fun en_4 hv_3 => (∃ v_3, en_4 = .returned v_3) ∧
   ((hv_3[L_1]? = some oR_1 ∧
     ∀ hp_31, hp_31 = setO hv_3 L_1 oE_1 →
     ∃ (x34f0p_2 : Option Addr) (x34f0n_2 x34f0c_2 : Nat), ∃ (x34f1p_2 : Option Addr) (x34f1n_2 x34f1c_2 : Nat), ∃ x34f2_2 : Bool, cellsAt hp_31 b_10 0 [(Value.slice x34f0p_2 x34f0n_2 x34f0c_2), (Value.slice x34f1p_2 x34f1n_2 x34f1c_2), (Value.bool x34f2_2)] ∧
     ∃ b_13 o_8, r_ = some ⟨b_13, o_8, none⟩ ∧
     List.length [(Value.slice x34f0p_2 x34f0n_2 x34f0c_2), (Value.slice x34f1p_2 x34f1n_2 x34f1c_2), (Value.bool x34f2_2)] = 3 ∧ (∀ c ∈ [(Value.slice x34f0p_2 x34f0n_2 x34f0c_2), (Value.slice x34f1p_2 x34f1n_2 x34f1c_2), (Value.bool x34f2_2)], c.oneCell' = true) ∧ wrAt hp_31 b_13 o_8 3 ∧ ∀ hp_32, hp_32 = setsH hp_31 b_13 o_8 [(Value.slice x34f0p_2 x34f0n_2 x34f0c_2), (Value.slice x34f1p_2 x34f1n_2 x34f1c_2), (Value.bool x34f2_2)] →
     Value.oneCell' Value.nilIface = true ∧ wrAt hp_32 b_ 0 1 ∧ ∀ hp_33, hp_33 = setsH hp_32 b_ 0 [Value.nilIface] →
     hp_33[D_1]? = some (.deferred (some [])) ∧ ∀ hp_34, hp_34 = setO hp_33 D_1 (.deferred none) →
     ∃ res_3 : Value, cellsAt hp_34 b_ 0 [res_3] ∧
     R (.returned res_3) hp_34) ∨
    (hv_3[L_1]? = some (oD_1 .ret) ∧
     ∀ hp_35, hp_35 = setO hv_3 L_1 (oX_1 .ret) →
     hp_35[D_1]? = some (.deferred (some [])) ∧ ∀ hp_36, hp_36 = setO hp_35 D_1 (.deferred none) →
     ∃ res_4 : Value, cellsAt hp_36 b_ 0 [res_4] ∧
     R (.returned res_4) hp_36) ∨
    ∃ i_1, hv_3[L_1]? = some (oD_1 (.exit i_1)) ∧
    ∀ hp_37, hp_37 = setO hv_3 L_1 (oX_1 (.exit i_1)) →
    cond (Nat.beq i_1 0)
    (∃ (x34f0p_3 : Option Addr) (x34f0n_3 x34f0c_3 : Nat), ∃ (x34f1p_3 : Option Addr) (x34f1n_3 x34f1c_3 : Nat), ∃ x34f2_3 : Bool, cellsAt hp_37 b_10 0 [(Value.slice x34f0p_3 x34f0n_3 x34f0c_3), (Value.slice x34f1p_3 x34f1n_3 x34f1c_3), (Value.bool x34f2_3)] ∧
     ∃ b_14 o_9, r_ = some ⟨b_14, o_9, none⟩ ∧
     List.length [(Value.slice x34f0p_3 x34f0n_3 x34f0c_3), (Value.slice x34f1p_3 x34f1n_3 x34f1c_3), (Value.bool x34f2_3)] = 3 ∧ (∀ c ∈ [(Value.slice x34f0p_3 x34f0n_3 x34f0c_3), (Value.slice x34f1p_3 x34f1n_3 x34f1c_3), (Value.bool x34f2_3)], c.oneCell' = true) ∧ wrAt hp_37 b_14 o_9 3 ∧ ∀ hp_38, hp_38 = setsH hp_37 b_14 o_9 [(Value.slice x34f0p_3 x34f0n_3 x34f0c_3), (Value.slice x34f1p_3 x34f1n_3 x34f1c_3), (Value.bool x34f2_3)] →
     Value.oneCell' Value.nilIface = true ∧ wrAt hp_38 b_ 0 1 ∧ ∀ hp_39, hp_39 = setsH hp_38 b_ 0 [Value.nilIface] →
     hp_39[D_1]? = some (.deferred (some [])) ∧ ∀ hp_40, hp_40 = setO hp_39 D_1 (.deferred none) →
     ∃ res_5 : Value, cellsAt hp_40 b_ 0 [res_5] ∧
     R (.returned res_5) hp_40)
    (False)))) :
  CallsH Tryd.prog 44 #[(Value.pointer r_), (Value.string s_)] h R := calls_vcI fine false Tryd.func44 (ann := A44) (args := [(Value.pointer r_), (Value.string s_)]) (by kernel_rfl) (Eq.mpr (by kernel_rfl) H)
end Go.Vc
