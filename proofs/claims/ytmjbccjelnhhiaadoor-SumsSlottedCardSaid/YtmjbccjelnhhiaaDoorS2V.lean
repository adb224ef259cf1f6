import Derived.Test.YtmjbccjelnhhiaaDoorVcE
import Derived.Test.YtmjbccjelnhhiaaDoorProg
set_option maxRecDepth 10000
namespace Go.Vc
open Go Go.Proofs
set_option maxRecDepth 100000
theorem fine : Fine Tryd.prog := fine_of (by kernel_rfl) (by kernel_rfl)
/-- turnout/turnoutlaw02.SumsSpreads -/
def A3 : Ann := (.seq .nil (.seq .nil (.seq .nil (.cut (.seq .nil (.cond .nil .nil)) [(8, (.int .i64))] (.seq (.seq .nil (.block (.loop [(9, (.int .i64))] (.seq (.seq .nil (.cond .nil .nil)) (.seq (.block (.seq .nil (.seq .nil (.seq .nil (.cond (.seq .nil .nil) .nil))))) .nil))))) (.seq .nil (.seq .nil (.seq .nil (.seq .nil (.seq .nil (.seq .nil (.seq .nil (.seq (.seq .nil (.block (.loop [(22, (.int .i64))] (.seq (.seq .nil (.cond .nil .nil)) (.seq (.block .nil) .nil))))) (.seq .nil (.seq (.seq .nil (.block (.loop [(24, (.int .i64))] (.seq (.seq .nil (.cond .nil .nil)) (.seq (.block .nil) .nil))))) (.seq .nil (.seq .nil (.cut (.seq .nil (.block (.loop [(26, .bool), (27, (.int .i64))] (.cut (.seq (.join 132) (.cond .nil .nil)) [] (.seq (.block (.join 26)) .nil))))) [(26, .bool)] (.seq .nil (.seq (.join 26) (.seq .nil (.seq .nil (.seq .nil (.seq (.join 6) .nil))))))))))))))))))))))))
theorem V3 (seed_ : Int) (most_ : Int) (lp_ : Option Addr) (ln_ lc_ : Nat) (h : Hp) (R : Ending → Hp → Prop) (H :
  CallsH Tryd.prog 12 #[] h fun en_ hp_ =>
  ∃ x32_ : Bool, en_ = .returned (Value.bool x32_) ∧
  ∃ Jv_ : List Value → Hp → Prop,
  ((((decide ((1000 : Int) < ((ln_ : Nat) : Int))) = true →
     Jv_ [(Value.int .i64 (1000 : Int))] hp_) ∧
    ((decide ((1000 : Int) < ((ln_ : Nat) : Int))) = false →
     Jv_ [(Value.int .i64 ((ln_ : Nat) : Int))] hp_))) ∧
  (∀ (n_ : Int) hp_1, Jv_ [(Value.int .i64 n_)] hp_1 →
   ∃ (Iv_ : List Value → Hp → Prop) (m_ : List Value → Hp → Nat), Iv_ [(Value.int .i64 (0 : Int))] hp_1 ∧
   (∀ (i_ : Int) hp_2, Iv_ [(Value.int .i64 i_)] hp_2 →
    (((decide (i_ < n_)) = true →
      ∃ b_ o_, lp_ = some ⟨b_, o_, none⟩ ∧ 0 ≤ i_ ∧ i_ < (ln_ : Int) ∧
      ∃ x46_ : ByteArray, cellsAt hp_2 b_ (o_ + Int.toNat i_ * 1) [(Value.string x46_)] ∧
      CallsH Tryd.prog 13 #[(Value.int .u32 seed_), (Value.string x46_)] hp_2 fun en_1 hp_3 =>
      ∃ x47_ : Int, en_1 = .returned (Value.int .u32 x47_) ∧
      ∃ b_1 o_1, lp_ = some ⟨b_1, o_1, none⟩ ∧ 0 ≤ i_ ∧ i_ < (ln_ : Int) ∧
      ∃ x52_ : ByteArray, cellsAt hp_3 b_1 (o_1 + Int.toNat i_ * 1) [(Value.string x52_)] ∧
      CallsH Tryd.prog 14 #[(Value.int .u32 seed_), (Value.string x52_)] hp_3 fun en_2 hp_4 =>
      ∃ x53_ : Int, en_2 = .returned (Value.int .u32 x53_) ∧
      (((decide (x47_ ≠ x53_)) = true →
        R (.returned (Value.bool false)) hp_4) ∧
       ((decide (x47_ ≠ x53_)) = false →
        ∃ x41_, IntKind.i64.wrap (i_ + (1 : Int)) = x41_ ∧
        (Iv_ [(Value.int .i64 x41_)] hp_4 ∧ m_ [(Value.int .i64 x41_)] hp_4 < m_ [(Value.int .i64 i_)] hp_2)))) ∧
     ((decide (i_ < n_)) = false →
      ∃ u_ : Nat, n_ = (u_ : Int) ∧
      0 ≤ u_ ∧ u_ ≤ lc_ ∧ ∃ x62p_, cutP lp_ lc_ 0 1 = x62p_ ∧
      CallsH Tryd.prog 15 #[(Value.int .u32 seed_), (Value.int .i64 most_), (Value.slice x62p_ (u_ - 0) (lc_ - 0))] hp_2 fun en_3 hp_5 =>
      ∃ (x63r0p_ : Option Addr) (x63r0n_ x63r0c_ : Nat), ∃ x63r1_ : Int, en_3 = .returned (Value.tuple #[(Value.slice x63r0p_ x63r0n_ x63r0c_), (Value.int .i64 x63r1_)]) ∧
      ∃ u_1 : Nat, n_ = (u_1 : Int) ∧
      0 ≤ u_1 ∧ u_1 ≤ lc_ ∧ ∃ x68p_, cutP lp_ lc_ 0 1 = x68p_ ∧
      CallsH Tryd.prog 16 #[(Value.slice x68p_ (u_1 - 0) (lc_ - 0))] hp_5 fun en_4 hp_6 =>
      ∃ (x69p_ : Option Addr) (x69n_ x69c_ : Nat), en_4 = .returned (Value.slice x69p_ x69n_ x69c_) ∧
      ∃ u_2 : Nat, n_ = (u_2 : Int) ∧
      0 ≤ u_2 ∧ u_2 ≤ x69c_ ∧ ∃ x75p_, cutP x69p_ x69c_ 0 1 = x75p_ ∧
      CallsH Tryd.prog 17 #[(Value.int .u32 seed_), (Value.int .i64 most_), (Value.slice x75p_ (u_2 - 0) (x69c_ - 0))] hp_6 fun en_5 hp_7 =>
      ∃ (x76r0p_ : Option Addr) (x76r0n_ x76r0c_ : Nat), ∃ x76r1_ : Int, en_5 = .returned (Value.tuple #[(Value.slice x76r0p_ x76r0n_ x76r0c_), (Value.int .i64 x76r1_)]) ∧
      ∃ u_3 : Nat, n_ = (u_3 : Int) ∧
      0 ≤ u_3 ∧ u_3 ≤ x69c_ ∧ ∃ x84p_, cutP x69p_ x69c_ 0 1 = x84p_ ∧
      CallsH Tryd.prog 17 #[(Value.int .u32 seed_), (Value.int .i64 most_), (Value.slice x84p_ (u_3 - 0) (x69c_ - 0))] hp_7 fun en_6 hp_8 =>
      ∃ (x85r0p_ : Option Addr) (x85r0n_ x85r0c_ : Nat), ∃ x85r1_ : Int, en_6 = .returned (Value.tuple #[(Value.slice x85r0p_ x85r0n_ x85r0c_), (Value.int .i64 x85r1_)]) ∧
      ∃ u_4 : Nat, n_ = (u_4 : Int) ∧
      0 ≤ u_4 ∧ u_4 ≤ lc_ ∧ ∃ x91p_, cutP lp_ lc_ 0 1 = x91p_ ∧
      CallsH Tryd.prog 18 #[(Value.slice x69p_ x69n_ x69c_), (Value.slice x91p_ (u_4 - 0) (lc_ - 0))] hp_8 fun en_7 hp_9 =>
      ∃ x92_ : Bool, en_7 = .returned (Value.bool x92_) ∧
      CallsH Tryd.prog 19 #[(Value.slice x76r0p_ x76r0n_ x76r0c_), (Value.slice x63r0p_ x63r0n_ x63r0c_)] hp_9 fun en_8 hp_10 =>
      ∃ x95_ : Bool, en_8 = .returned (Value.bool x95_) ∧
      CallsH Tryd.prog 19 #[(Value.slice x85r0p_ x85r0n_ x85r0c_), (Value.slice x63r0p_ x63r0n_ x63r0c_)] hp_10 fun en_9 hp_11 =>
      ∃ x98_ : Bool, en_9 = .returned (Value.bool x98_) ∧
      ∃ (Iv_1 : List Value → Hp → Prop) (m_1 : List Value → Hp → Nat), Iv_1 [(Value.int .i64 (0 : Int))] hp_11 ∧
      (∀ (i_1 : Int) hp_12, Iv_1 [(Value.int .i64 i_1)] hp_12 →
       (((decide (i_1 < ((x76r0n_ : Nat) : Int))) = true →
         ∃ b_2 o_2, x76r0p_ = some ⟨b_2, o_2, none⟩ ∧ 0 ≤ i_1 ∧ i_1 < (x76r0n_ : Int) ∧
         Value.oneCell' (Value.int .i64 (-1 : Int)) = true ∧ wrAt hp_12 b_2 (o_2 + Int.toNat i_1 * 1) 1 ∧ ∀ hp_13, hp_13 = setsH hp_12 b_2 (o_2 + Int.toNat i_1 * 1) [(Value.int .i64 (-1 : Int))] →
         ∃ x104_, IntKind.i64.wrap (i_1 + (1 : Int)) = x104_ ∧
         (Iv_1 [(Value.int .i64 x104_)] hp_13 ∧ m_1 [(Value.int .i64 x104_)] hp_13 < m_1 [(Value.int .i64 i_1)] hp_12)) ∧
        ((decide (i_1 < ((x76r0n_ : Nat) : Int))) = false →
         SemH Tryd.prog (Instr.buildSlice 26 3 #[(0, (Value.int .i64 (-2 : Int))), (1, (Value.int .i64 (-3 : Int))), (2, (Value.int .i64 (-4 : Int)))]) hp_12 fun v_ hp_14 =>
         ∃ (x109p_ : Option Addr) (x109n_ x109c_ : Nat), v_ = (Value.slice x109p_ x109n_ x109c_) ∧
         SemH Tryd.prog (Builtin.append_ #[26, 26] 26 #[(Value.slice x76r0p_ x76r0n_ x76r0c_), (Value.slice x109p_ x109n_ x109c_)]) hp_14 fun v_1 hp_15 =>
         ∃ (x110p_ : Option Addr) (x110n_ x110c_ : Nat), v_1 = (Value.slice x110p_ x110n_ x110c_) ∧
         ∃ (Iv_2 : List Value → Hp → Prop) (m_2 : List Value → Hp → Nat), Iv_2 [(Value.int .i64 (0 : Int))] hp_15 ∧
         (∀ (i_2 : Int) hp_16, Iv_2 [(Value.int .i64 i_2)] hp_16 →
          (((decide (i_2 < ((x85r0n_ : Nat) : Int))) = true →
            ∃ b_3 o_3, x85r0p_ = some ⟨b_3, o_3, none⟩ ∧ 0 ≤ i_2 ∧ i_2 < (x85r0n_ : Int) ∧
            Value.oneCell' (Value.int .i64 (-5 : Int)) = true ∧ wrAt hp_16 b_3 (o_3 + Int.toNat i_2 * 1) 1 ∧ ∀ hp_17, hp_17 = setsH hp_16 b_3 (o_3 + Int.toNat i_2 * 1) [(Value.int .i64 (-5 : Int))] →
            ∃ x116_, IntKind.i64.wrap (i_2 + (1 : Int)) = x116_ ∧
            (Iv_2 [(Value.int .i64 x116_)] hp_17 ∧ m_2 [(Value.int .i64 x116_)] hp_17 < m_2 [(Value.int .i64 i_2)] hp_16)) ∧
           ((decide (i_2 < ((x85r0n_ : Nat) : Int))) = false →
            SemH Tryd.prog (Instr.buildSlice 26 3 #[(0, (Value.int .i64 (-6 : Int))), (1, (Value.int .i64 (-7 : Int))), (2, (Value.int .i64 (-8 : Int)))]) hp_16 fun v_2 hp_18 =>
            ∃ (x121p_ : Option Addr) (x121n_ x121c_ : Nat), v_2 = (Value.slice x121p_ x121n_ x121c_) ∧
            SemH Tryd.prog (Builtin.append_ #[26, 26] 26 #[(Value.slice x85r0p_ x85r0n_ x85r0c_), (Value.slice x121p_ x121n_ x121c_)]) hp_18 fun v_3 hp_19 =>
            ∃ (x122p_ : Option Addr) (x122n_ x122c_ : Nat), v_3 = (Value.slice x122p_ x122n_ x122c_) ∧
            ∃ Jv_1 : List Value → Hp → Prop,
            (∃ (Iv_3 : List Value → Hp → Prop) (m_3 : List Value → Hp → Nat), Iv_3 [(Value.bool true), (Value.int .i64 (0 : Int))] hp_19 ∧
             (∀ (own_ : Bool) (i_3 : Int) hp_20, Iv_3 [(Value.bool own_), (Value.int .i64 i_3)] hp_20 →
              ∃ Jv_2 : List Value → Hp → Prop,
              (∃ B_ : Bool, ((((decide (i_3 < ((x110n_ : Nat) : Int))) = true →
                  hp_20 = hp_20 ∧ B_ = (decide (i_3 < ((x76r0n_ : Nat) : Int)))) ∧
                 ((decide (i_3 < ((x110n_ : Nat) : Int))) = false →
                  hp_20 = hp_20 ∧ B_ = false))) ∧
               ((B_ = true →
                 Jv_2 [] hp_20) ∧
                (B_ = false →
                 Jv_1 [(Value.bool own_)] hp_20))) ∧
              (∀  hp_21, Jv_2 [] hp_21 →
               ∃ B_1 : Bool, (((own_ = true →
                  ∃ b_4 o_4, x110p_ = some ⟨b_4, o_4, none⟩ ∧ 0 ≤ i_3 ∧ i_3 < (x110n_ : Int) ∧
                  ∃ x140_ : Int, cellsAt hp_21 b_4 (o_4 + Int.toNat i_3 * 1) [(Value.int .i64 x140_)] ∧
                  (((decide (x140_ = (-1 : Int))) = true →
                    ∃ b_5 o_5, x122p_ = some ⟨b_5, o_5, none⟩ ∧ 0 ≤ i_3 ∧ i_3 < (x122n_ : Int) ∧
                    ∃ x147_ : Int, cellsAt hp_21 b_5 (o_5 + Int.toNat i_3 * 1) [(Value.int .i64 x147_)] ∧
                    hp_21 = hp_21 ∧ B_1 = (decide (x147_ = (-5 : Int)))) ∧
                   ((decide (x140_ = (-1 : Int))) = false →
                    hp_21 = hp_21 ∧ B_1 = false))) ∧
                 (own_ = false →
                  hp_21 = hp_21 ∧ B_1 = false))) ∧
               ∃ x134_, IntKind.i64.wrap (i_3 + (1 : Int)) = x134_ ∧
               (Iv_3 [(Value.bool B_1), (Value.int .i64 x134_)] hp_21 ∧ m_3 [(Value.bool B_1), (Value.int .i64 x134_)] hp_21 < m_3 [(Value.bool own_), (Value.int .i64 i_3)] hp_20)))) ∧
            (∀ (own_1 : Bool) hp_22, Jv_1 [(Value.bool own_1)] hp_22 →
             ∃ B_2 : Bool, (((own_1 = true →
                ∃ b_6 o_6, x110p_ = some ⟨b_6, o_6, none⟩ ∧ 0 ≤ ((x76r0n_ : Nat) : Int) ∧ ((x76r0n_ : Nat) : Int) < (x110n_ : Int) ∧
                ∃ x157_ : Int, cellsAt hp_22 b_6 (o_6 + Int.toNat ((x76r0n_ : Nat) : Int) * 1) [(Value.int .i64 x157_)] ∧
                (((decide (x157_ = (-2 : Int))) = true →
                  ∃ x163_, IntKind.i64.wrap (((x76r0n_ : Nat) : Int) + (2 : Int)) = x163_ ∧
                  ∃ b_7 o_7, x110p_ = some ⟨b_7, o_7, none⟩ ∧ 0 ≤ x163_ ∧ x163_ < (x110n_ : Int) ∧
                  ∃ x165_ : Int, cellsAt hp_22 b_7 (o_7 + Int.toNat x163_ * 1) [(Value.int .i64 x165_)] ∧
                  (((decide (x165_ = (-4 : Int))) = true →
                    ∃ b_8 o_8, x122p_ = some ⟨b_8, o_8, none⟩ ∧ 0 ≤ ((x85r0n_ : Nat) : Int) ∧ ((x85r0n_ : Nat) : Int) < (x122n_ : Int) ∧
                    ∃ x173_ : Int, cellsAt hp_22 b_8 (o_8 + Int.toNat ((x85r0n_ : Nat) : Int) * 1) [(Value.int .i64 x173_)] ∧
                    hp_22 = hp_22 ∧ B_2 = (decide (x173_ = (-6 : Int)))) ∧
                   ((decide (x165_ = (-4 : Int))) = false →
                    hp_22 = hp_22 ∧ B_2 = false))) ∧
                 ((decide (x157_ = (-2 : Int))) = false →
                  hp_22 = hp_22 ∧ B_2 = false))) ∧
               (own_1 = false →
                hp_22 = hp_22 ∧ B_2 = false))) ∧
             ∃ b_9 o_9, x69p_ = some ⟨b_9, o_9, none⟩ ∧ 0 ≤ n_ ∧ n_ < (x69n_ : Int) ∧
             Value.oneCell' (Value.string (⟨#[111, 116, 104, 101, 114]⟩ : ByteArray)) = true ∧ wrAt hp_22 b_9 (o_9 + Int.toNat n_ * 1) 1 ∧ ∀ hp_23, hp_23 = setsH hp_22 b_9 (o_9 + Int.toNat n_ * 1) [(Value.string (⟨#[111, 116, 104, 101, 114]⟩ : ByteArray))] →
             ∃ u_5 : Nat, n_ = (u_5 : Int) ∧
             0 ≤ u_5 ∧ u_5 ≤ x69c_ ∧ ∃ x184p_, cutP x69p_ x69c_ 0 1 = x184p_ ∧
             CallsH Tryd.prog 17 #[(Value.int .u32 seed_), (Value.int .i64 most_), (Value.slice x184p_ (u_5 - 0) (x69c_ - 0))] hp_23 fun en_10 hp_24 =>
             ∃ (x185r0p_ : Option Addr) (x185r0n_ x185r0c_ : Nat), ∃ x185r1_ : Int, en_10 = .returned (Value.tuple #[(Value.slice x185r0p_ x185r0n_ x185r0c_), (Value.int .i64 x185r1_)]) ∧
             CallsH Tryd.prog 19 #[(Value.slice x185r0p_ x185r0n_ x185r0c_), (Value.slice x63r0p_ x63r0n_ x63r0c_)] hp_24 fun en_11 hp_25 =>
             ∃ x190_ : Bool, en_11 = .returned (Value.bool x190_) ∧
             ∃ B_3 : Bool, (((x32_ = true →
                ((x92_ = true →
                  ((x95_ = true →
                    ((x98_ = true →
                      ((x190_ = true →
                        ((B_2 = true →
                          (((decide (x76r1_ = x63r1_)) = true →
                            (((decide (x85r1_ = x63r1_)) = true →
                              hp_25 = hp_25 ∧ B_3 = (decide (x185r1_ = x63r1_))) ∧
                             ((decide (x85r1_ = x63r1_)) = false →
                              hp_25 = hp_25 ∧ B_3 = false))) ∧
                           ((decide (x76r1_ = x63r1_)) = false →
                            hp_25 = hp_25 ∧ B_3 = false))) ∧
                         (B_2 = false →
                          hp_25 = hp_25 ∧ B_3 = false))) ∧
                       (x190_ = false →
                        hp_25 = hp_25 ∧ B_3 = false))) ∧
                     (x98_ = false →
                      hp_25 = hp_25 ∧ B_3 = false))) ∧
                   (x95_ = false →
                    hp_25 = hp_25 ∧ B_3 = false))) ∧
                 (x92_ = false →
                  hp_25 = hp_25 ∧ B_3 = false))) ∧
               (x32_ = false →
                hp_25 = hp_25 ∧ B_3 = false))) ∧
             R (.returned (Value.bool B_3)) hp_25)))))))))))) :
  CallsH Tryd.prog 3 #[(Value.int .u32 seed_), (Value.int .i64 most_), (Value.slice lp_ ln_ lc_)] h R := calls_vc fine false Tryd.func3 (ann := A3) (args := [(Value.int .u32 seed_), (Value.int .i64 most_), (Value.slice lp_ ln_ lc_)]) (by kernel_rfl) (Eq.mpr (by kernel_rfl) H)
/-- turnout/turnoutlaw02.SumsApart -/
def A4 : Ann := (.seq .nil (.seq .nil (.cut (.seq (.join 25) (.cond .nil .nil)) [(1, (.int .i64))] (.seq .nil (.seq .nil (.seq (.seq .nil (.block (.loop [(9, (.int .u64)), (10, (.int .i64))] (.seq (.seq .nil (.cond .nil .nil)) (.seq (.block .nil) .nil))))) (.seq .nil (.cut (.seq .nil (.block (.loop [(9, (.int .u64)), (11, .bool), (12, (.int .i64))] (.cut (.seq (.join 47) (.cond .nil .nil)) [] (.seq (.block (.seq .nil (.seq .nil (.seq (.join 11) .nil)))) .nil))))) [(11, .bool)] (.seq .nil (.seq .nil (.seq (.join 6) .nil)))))))))))
theorem V4 (b_ : ByteArray) (place_ : Int) (mask_ : Int) (h : Hp) (R : Ending → Hp → Prop) (H :
  CallsH Tryd.prog 12 #[] h fun en_ hp_ =>
  ∃ x16_ : Bool, en_ = .returned (Value.bool x16_) ∧
  ∃ Jv_ : List Value → Hp → Prop,
  (∃ B_ : Bool, ((((decide (place_ < (0 : Int))) = true →
      hp_ = hp_ ∧ B_ = true) ∧
     ((decide (place_ < (0 : Int))) = false →
      (8 : Int) ≠ 0 ∧ ∃ x21_, IntKind.i64.wrap (Int.tdiv place_ (8 : Int)) = x21_ ∧
      hp_ = hp_ ∧ B_ = (decide ((ByteArray.size b_ : Int) ≤ x21_))))) ∧
   ((B_ = true →
     Jv_ [(Value.int .i64 (0 : Int))] hp_) ∧
    (B_ = false →
     Jv_ [(Value.int .i64 place_)] hp_))) ∧
  (∀ (place_1 : Int) hp_1, Jv_ [(Value.int .i64 place_1)] hp_1 →
   SemH Tryd.prog (convert 9 35 (Value.string b_)) hp_1 fun v_ hp_2 =>
   ∃ (x27p_ : Option Addr) (x27n_ x27c_ : Nat), v_ = (Value.slice x27p_ x27n_ x27c_) ∧
   ∃ x29_, IntKind.u64.wrap mask_ = x29_ ∧
   ∃ (Iv_ : List Value → Hp → Prop) (m_ : List Value → Hp → Nat), Iv_ [(Value.int .u64 x29_), (Value.int .i64 (0 : Int))] hp_2 ∧
   (∀ (bits_ : Int) (i_ : Int) hp_3, Iv_ [(Value.int .u64 bits_), (Value.int .i64 i_)] hp_3 →
    (8 : Int) ≠ 0 ∧ ∃ x32_, Int.tmod place_1 (8 : Int) = x32_ ∧
    (((decide (i_ < x32_)) = true →
      ∃ x37_, IntKind.u64.wrap ((2 : Int) * bits_) = x37_ ∧
      ∃ x35_, IntKind.i64.wrap (i_ + (1 : Int)) = x35_ ∧
      (Iv_ [(Value.int .u64 x37_), (Value.int .i64 x35_)] hp_3 ∧ m_ [(Value.int .u64 x37_), (Value.int .i64 x35_)] hp_3 < m_ [(Value.int .u64 bits_), (Value.int .i64 i_)] hp_3)) ∧
     ((decide (i_ < x32_)) = false →
      ∃ Jv_1 : List Value → Hp → Prop,
      ((8 : Int) ≠ 0 ∧ ∃ x39_, IntKind.i64.wrap (Int.tdiv place_1 (8 : Int)) = x39_ ∧
       ∃ (Iv_1 : List Value → Hp → Prop) (m_1 : List Value → Hp → Nat), Iv_1 [(Value.int .u64 bits_), (Value.bool false), (Value.int .i64 x39_)] hp_3 ∧
       (∀ (bits_1 : Int) (turned_ : Bool) (i_1 : Int) hp_4, Iv_1 [(Value.int .u64 bits_1), (Value.bool turned_), (Value.int .i64 i_1)] hp_4 →
        ∃ Jv_2 : List Value → Hp → Prop,
        (∃ B_1 : Bool, ((((decide (i_1 < ((x27n_ : Nat) : Int))) = true →
            hp_4 = hp_4 ∧ B_1 = (decide ((0 : Int) < bits_1))) ∧
           ((decide (i_1 < ((x27n_ : Nat) : Int))) = false →
            hp_4 = hp_4 ∧ B_1 = false))) ∧
         ((B_1 = true →
           Jv_2 [] hp_4) ∧
          (B_1 = false →
           Jv_1 [(Value.bool turned_)] hp_4))) ∧
        (∀  hp_5, Jv_2 [] hp_5 →
         (256 : Int) ≠ 0 ∧ ∃ x51_, Int.tmod bits_1 (256 : Int) = x51_ ∧
         ∃ x52_, IntKind.u8.wrap x51_ = x52_ ∧
         ∃ b_1 o_, x27p_ = some ⟨b_1, o_, none⟩ ∧ 0 ≤ i_1 ∧ i_1 < (x27n_ : Int) ∧
         ∃ x58_ : Int, cellsAt hp_5 b_1 (o_ + Int.toNat i_1 * 1) [(Value.int .u8 x58_)] ∧
         ∃ x60_, xorI .u8 x58_ x52_ = x60_ ∧
         ∃ b_2 o_1, x27p_ = some ⟨b_2, o_1, none⟩ ∧ 0 ≤ i_1 ∧ i_1 < (x27n_ : Int) ∧
         Value.oneCell' (Value.int .u8 x60_) = true ∧ wrAt hp_5 b_2 (o_1 + Int.toNat i_1 * 1) 1 ∧ ∀ hp_6, hp_6 = setsH hp_5 b_2 (o_1 + Int.toNat i_1 * 1) [(Value.int .u8 x60_)] →
         ∃ B_2 : Bool, (((turned_ = true →
            hp_6 = hp_6 ∧ B_2 = true) ∧
           (turned_ = false →
            hp_6 = hp_6 ∧ B_2 = (decide ((0 : Int) < x52_))))) ∧
         (256 : Int) ≠ 0 ∧ ∃ x68_, IntKind.u64.wrap (Int.tdiv bits_1 (256 : Int)) = x68_ ∧
         ∃ x49_, IntKind.i64.wrap (i_1 + (1 : Int)) = x49_ ∧
         (Iv_1 [(Value.int .u64 x68_), (Value.bool B_2), (Value.int .i64 x49_)] hp_6 ∧ m_1 [(Value.int .u64 x68_), (Value.bool B_2), (Value.int .i64 x49_)] hp_6 < m_1 [(Value.int .u64 bits_1), (Value.bool turned_), (Value.int .i64 i_1)] hp_4)))) ∧
      (∀ (turned_1 : Bool) hp_7, Jv_1 [(Value.bool turned_1)] hp_7 →
       SemH Tryd.prog (Instr.buildSlice 23 1 #[(0, (Value.string b_))]) hp_7 fun v_1 hp_8 =>
       ∃ (x70p_ : Option Addr) (x70n_ x70c_ : Nat), v_1 = (Value.slice x70p_ x70n_ x70c_) ∧
       CallsH Tryd.prog 20 #[(Value.slice x70p_ x70n_ x70c_)] hp_8 fun en_1 hp_9 =>
       ∃ x71_ : Int, en_1 = .returned (Value.int .u32 x71_) ∧
       SemH Tryd.prog (convert 35 9 (Value.slice x27p_ x27n_ x27c_)) hp_9 fun v_2 hp_10 =>
       ∃ x73_ : ByteArray, v_2 = (Value.string x73_) ∧
       SemH Tryd.prog (Instr.buildSlice 23 1 #[(0, (Value.string x73_))]) hp_10 fun v_3 hp_11 =>
       ∃ (x74p_ : Option Addr) (x74n_ x74c_ : Nat), v_3 = (Value.slice x74p_ x74n_ x74c_) ∧
       CallsH Tryd.prog 20 #[(Value.slice x74p_ x74n_ x74c_)] hp_11 fun en_2 hp_12 =>
       ∃ x75_ : Int, en_2 = .returned (Value.int .u32 x75_) ∧
       ∃ B_3 : Bool, (((x16_ = true →
          ∃ x82_, EqV Tryd.prog 4 (Value.bool (decide (x71_ ≠ x75_))) (Value.bool turned_1) x82_ ∧
          hp_12 = hp_12 ∧ B_3 = x82_) ∧
         (x16_ = false →
          hp_12 = hp_12 ∧ B_3 = false))) ∧
       R (.returned (Value.bool B_3)) hp_12)))))) :
  CallsH Tryd.prog 4 #[(Value.string b_), (Value.int .i64 place_), (Value.int .u32 mask_)] h R := calls_vc fine false Tryd.func4 (ann := A4) (args := [(Value.string b_), (Value.int .i64 place_), (Value.int .u32 mask_)]) (by kernel_rfl) (Eq.mpr (by kernel_rfl) H)
/-- turnout/turnoutlaw02.SumsSlotted -/
def A5 : Ann := (.seq .nil (.seq .nil (.seq .nil (.cut (.seq .nil (.cond .nil .nil)) [(8, (.int .i64))] (.seq .nil (.seq .nil (.seq (.seq .nil (.block (.loop [(9, .slice), (10, .slice), (11, (.int .i64))] (.seq (.seq .nil (.cond .nil .nil)) (.seq (.block (.seq .nil .nil)) .nil))))) (.seq .nil (.seq .nil (.cut (.seq (.join 66) (.cond (.seq .nil .nil) .nil)) [] (.seq (.seq .nil (.cond (.seq (.join 6) .nil) .nil)) (.cut (.seq (.join 109) (.cond (.seq .nil .nil) .nil)) [] (.seq (.seq .nil (.block (.loop [(16, (.int .i64))] (.seq (.seq .nil (.cond .nil .nil)) (.seq (.block (.seq .nil (.seq (.seq .nil (.block (.loop [(17, .bool), (18, (.int .i64))] (.seq (.seq .nil (.cond .nil .nil)) (.seq (.block (.seq (.seq .nil (.cond (.seq .nil .nil) .nil)) (.join 17))) .nil))))) (.seq (.join 167) (.cond (.seq .nil .nil) .nil))))) .nil))))) (.seq .nil .nil))))))))))))))
theorem V5 (seed_ : Int) (most_ : Int) (lp_ : Option Addr) (ln_ lc_ : Nat) (h : Hp) (R : Ending → Hp → Prop) (H :
  CallsH Tryd.prog 12 #[] h fun en_ hp_ =>
  ∃ x19_ : Bool, en_ = .returned (Value.bool x19_) ∧
  ∃ Jv_ : List Value → Hp → Prop,
  ((((decide ((400 : Int) < ((ln_ : Nat) : Int))) = true →
     Jv_ [(Value.int .i64 (400 : Int))] hp_) ∧
    ((decide ((400 : Int) < ((ln_ : Nat) : Int))) = false →
     Jv_ [(Value.int .i64 ((ln_ : Nat) : Int))] hp_))) ∧
  (∀ (n_ : Int) hp_1, Jv_ [(Value.int .i64 n_)] hp_1 →
   ∃ (Iv_ : List Value → Hp → Prop) (m_ : List Value → Hp → Nat), Iv_ [(Value.slice none 0 0), (Value.slice none 0 0), (Value.int .i64 (0 : Int))] hp_1 ∧
   (∀ (therep_ : Option Addr) (theren_ therec_ : Nat) (roundp_ : Option Addr) (roundn_ roundc_ : Nat) (i_ : Int) hp_2, Iv_ [(Value.slice therep_ theren_ therec_), (Value.slice roundp_ roundn_ roundc_), (Value.int .i64 i_)] hp_2 →
    (((decide (i_ < n_)) = true →
      ∃ b_ o_, lp_ = some ⟨b_, o_, none⟩ ∧ 0 ≤ i_ ∧ i_ < (ln_ : Int) ∧
      ∃ x33_ : ByteArray, cellsAt hp_2 b_ (o_ + Int.toNat i_ * 1) [(Value.string x33_)] ∧
      SemH Tryd.prog (Instr.buildSlice 23 1 #[(0, (Value.string x33_))]) hp_2 fun v_ hp_3 =>
      ∃ (x34p_ : Option Addr) (x34n_ x34c_ : Nat), v_ = (Value.slice x34p_ x34n_ x34c_) ∧
      SemH Tryd.prog (Builtin.append_ #[23, 23] 23 #[(Value.slice therep_ theren_ therec_), (Value.slice x34p_ x34n_ x34c_)]) hp_3 fun v_1 hp_4 =>
      ∃ (x35p_ : Option Addr) (x35n_ x35c_ : Nat), v_1 = (Value.slice x35p_ x35n_ x35c_) ∧
      ∃ x39_, IntKind.i64.wrap (n_ - (1 : Int)) = x39_ ∧
      ∃ x41_, IntKind.i64.wrap (x39_ - i_) = x41_ ∧
      ∃ b_1 o_1, lp_ = some ⟨b_1, o_1, none⟩ ∧ 0 ≤ x41_ ∧ x41_ < (ln_ : Int) ∧
      ∃ x43_ : ByteArray, cellsAt hp_4 b_1 (o_1 + Int.toNat x41_ * 1) [(Value.string x43_)] ∧
      SemH Tryd.prog (Instr.buildSlice 23 1 #[(0, (Value.string x43_))]) hp_4 fun v_2 hp_5 =>
      ∃ (x44p_ : Option Addr) (x44n_ x44c_ : Nat), v_2 = (Value.slice x44p_ x44n_ x44c_) ∧
      SemH Tryd.prog (Builtin.append_ #[23, 23] 23 #[(Value.slice roundp_ roundn_ roundc_), (Value.slice x44p_ x44n_ x44c_)]) hp_5 fun v_3 hp_6 =>
      ∃ (x45p_ : Option Addr) (x45n_ x45c_ : Nat), v_3 = (Value.slice x45p_ x45n_ x45c_) ∧
      ∃ x28_, IntKind.i64.wrap (i_ + (1 : Int)) = x28_ ∧
      (Iv_ [(Value.slice x35p_ x35n_ x35c_), (Value.slice x45p_ x45n_ x45c_), (Value.int .i64 x28_)] hp_6 ∧ m_ [(Value.slice x35p_ x35n_ x35c_), (Value.slice x45p_ x45n_ x45c_), (Value.int .i64 x28_)] hp_6 < m_ [(Value.slice therep_ theren_ therec_), (Value.slice roundp_ roundn_ roundc_), (Value.int .i64 i_)] hp_2)) ∧
     ((decide (i_ < n_)) = false →
      CallsH Tryd.prog 17 #[(Value.int .u32 seed_), (Value.int .i64 most_), (Value.slice therep_ theren_ therec_)] hp_2 fun en_1 hp_7 =>
      ∃ (x50r0p_ : Option Addr) (x50r0n_ x50r0c_ : Nat), ∃ x50r1_ : Int, en_1 = .returned (Value.tuple #[(Value.slice x50r0p_ x50r0n_ x50r0c_), (Value.int .i64 x50r1_)]) ∧
      CallsH Tryd.prog 17 #[(Value.int .u32 seed_), (Value.int .i64 most_), (Value.slice roundp_ roundn_ roundc_)] hp_7 fun en_2 hp_8 =>
      ∃ (x57r0p_ : Option Addr) (x57r0n_ x57r0c_ : Nat), ∃ x57r1_ : Int, en_2 = .returned (Value.tuple #[(Value.slice x57r0p_ x57r0n_ x57r0c_), (Value.int .i64 x57r1_)]) ∧
      ∃ Jv_1 : List Value → Hp → Prop,
      (∃ B_ : Bool, ((((!x19_) = true →
          hp_8 = hp_8 ∧ B_ = true) ∧
         ((!x19_) = false →
          hp_8 = hp_8 ∧ B_ = (decide (x50r1_ ≠ x57r1_))))) ∧
       ((B_ = true →
         R (.returned (Value.bool false)) hp_8) ∧
        (B_ = false →
         Jv_1 [] hp_8))) ∧
      (∀  hp_9, Jv_1 [] hp_9 →
       (((decide (x50r1_ ≠ (0 : Int))) = true →
         ∃ B_1 : Bool, (∃ x73_, IntKind.i64.wrap (((x50r0n_ : Nat) : Int) + ((x57r0n_ : Nat) : Int)) = x73_ ∧
          (((decide (x73_ = (0 : Int))) = true →
            (((decide (x50r1_ = (1 : Int))) = true →
              (((decide (most_ < (1 : Int))) = true →
                hp_9 = hp_9 ∧ B_1 = true) ∧
               ((decide (most_ < (1 : Int))) = false →
                (((decide (x50r1_ = (120 : Int))) = true →
                  (((decide ((1 : Int) ≤ most_)) = true →
                    hp_9 = hp_9 ∧ B_1 = (decide (most_ < n_))) ∧
                   ((decide ((1 : Int) ≤ most_)) = false →
                    hp_9 = hp_9 ∧ B_1 = false))) ∧
                 ((decide (x50r1_ = (120 : Int))) = false →
                  hp_9 = hp_9 ∧ B_1 = false))))) ∧
             ((decide (x50r1_ = (1 : Int))) = false →
              (((decide (x50r1_ = (120 : Int))) = true →
                (((decide ((1 : Int) ≤ most_)) = true →
                  hp_9 = hp_9 ∧ B_1 = (decide (most_ < n_))) ∧
                 ((decide ((1 : Int) ≤ most_)) = false →
                  hp_9 = hp_9 ∧ B_1 = false))) ∧
               ((decide (x50r1_ = (120 : Int))) = false →
                hp_9 = hp_9 ∧ B_1 = false))))) ∧
           ((decide (x73_ = (0 : Int))) = false →
            hp_9 = hp_9 ∧ B_1 = false))) ∧
         R (.returned (Value.bool B_1)) hp_9) ∧
        ((decide (x50r1_ ≠ (0 : Int))) = false →
         ∃ Jv_2 : List Value → Hp → Prop,
         (∃ B_2 : Bool, ((((decide (((x50r0n_ : Nat) : Int) ≠ n_)) = true →
             hp_9 = hp_9 ∧ B_2 = true) ∧
            ((decide (((x50r0n_ : Nat) : Int) ≠ n_)) = false →
             (((decide (((x57r0n_ : Nat) : Int) ≠ n_)) = true →
               hp_9 = hp_9 ∧ B_2 = true) ∧
              ((decide (((x57r0n_ : Nat) : Int) ≠ n_)) = false →
               hp_9 = hp_9 ∧ B_2 = (decide (most_ < (1 : Int)))))))) ∧
          ((B_2 = true →
            R (.returned (Value.bool false)) hp_9) ∧
           (B_2 = false →
            Jv_2 [] hp_9))) ∧
         (∀  hp_10, Jv_2 [] hp_10 →
          ∃ (Iv_1 : List Value → Hp → Prop) (m_1 : List Value → Hp → Nat), Iv_1 [(Value.int .i64 (0 : Int))] hp_10 ∧
          (∀ (i_1 : Int) hp_11, Iv_1 [(Value.int .i64 i_1)] hp_11 →
           (((decide (i_1 < n_)) = true →
             ∃ (Iv_2 : List Value → Hp → Prop) (m_2 : List Value → Hp → Nat), Iv_2 [(Value.bool false), (Value.int .i64 (0 : Int))] hp_11 ∧
             (∀ (inv_ : Bool) (k_ : Int) hp_12, Iv_2 [(Value.bool inv_), (Value.int .i64 k_)] hp_12 →
              (((decide (k_ < n_)) = true →
                ∃ b_2 o_2, x50r0p_ = some ⟨b_2, o_2, none⟩ ∧ 0 ≤ i_1 ∧ i_1 < (x50r0n_ : Int) ∧
                ∃ x123_ : Int, cellsAt hp_12 b_2 (o_2 + Int.toNat i_1 * 1) [(Value.int .i64 x123_)] ∧
                ∃ b_3 o_3, x50r0p_ = some ⟨b_3, o_3, none⟩ ∧ 0 ≤ k_ ∧ k_ < (x50r0n_ : Int) ∧
                ∃ x127_ : Int, cellsAt hp_12 b_3 (o_3 + Int.toNat k_ * 1) [(Value.int .i64 x127_)] ∧
                ∃ b_4 o_4, lp_ = some ⟨b_4, o_4, none⟩ ∧ 0 ≤ i_1 ∧ i_1 < (ln_ : Int) ∧
                ∃ x132_ : ByteArray, cellsAt hp_12 b_4 (o_4 + Int.toNat i_1 * 1) [(Value.string x132_)] ∧
                ∃ b_5 o_5, lp_ = some ⟨b_5, o_5, none⟩ ∧ 0 ≤ k_ ∧ k_ < (ln_ : Int) ∧
                ∃ x136_ : ByteArray, cellsAt hp_12 b_5 (o_5 + Int.toNat k_ * 1) [(Value.string x136_)] ∧
                ∃ x138_, EqV Tryd.prog 4 (Value.bool (decide (x123_ = x127_))) (Value.bool (decide (x132_ = x136_))) x138_ ∧
                (((!x138_) = true →
                  R (.returned (Value.bool false)) hp_12) ∧
                 ((!x138_) = false →
                  ∃ B_3 : Bool, (((inv_ = true →
                     hp_12 = hp_12 ∧ B_3 = true) ∧
                    (inv_ = false →
                     ∃ b_6 o_6, x50r0p_ = some ⟨b_6, o_6, none⟩ ∧ 0 ≤ i_1 ∧ i_1 < (x50r0n_ : Int) ∧
                     ∃ x144_ : Int, cellsAt hp_12 b_6 (o_6 + Int.toNat i_1 * 1) [(Value.int .i64 x144_)] ∧
                     ∃ b_7 o_7, x57r0p_ = some ⟨b_7, o_7, none⟩ ∧ 0 ≤ k_ ∧ k_ < (x57r0n_ : Int) ∧
                     ∃ x148_ : Int, cellsAt hp_12 b_7 (o_7 + Int.toNat k_ * 1) [(Value.int .i64 x148_)] ∧
                     hp_12 = hp_12 ∧ B_3 = (decide (x144_ = x148_))))) ∧
                  ∃ x119_, IntKind.i64.wrap (k_ + (1 : Int)) = x119_ ∧
                  (Iv_2 [(Value.bool B_3), (Value.int .i64 x119_)] hp_12 ∧ m_2 [(Value.bool B_3), (Value.int .i64 x119_)] hp_12 < m_2 [(Value.bool inv_), (Value.int .i64 k_)] hp_12)))) ∧
               ((decide (k_ < n_)) = false →
                ∃ B_4 : Bool, ((((!inv_) = true →
                   hp_12 = hp_12 ∧ B_4 = true) ∧
                  ((!inv_) = false →
                   ∃ b_8 o_8, x50r0p_ = some ⟨b_8, o_8, none⟩ ∧ 0 ≤ i_1 ∧ i_1 < (x50r0n_ : Int) ∧
                   ∃ x157_ : Int, cellsAt hp_12 b_8 (o_8 + Int.toNat i_1 * 1) [(Value.int .i64 x157_)] ∧
                   (((decide (x157_ < (0 : Int))) = true →
                     hp_12 = hp_12 ∧ B_4 = true) ∧
                    ((decide (x157_ < (0 : Int))) = false →
                     ∃ b_9 o_9, x50r0p_ = some ⟨b_9, o_9, none⟩ ∧ 0 ≤ i_1 ∧ i_1 < (x50r0n_ : Int) ∧
                     ∃ x164_ : Int, cellsAt hp_12 b_9 (o_9 + Int.toNat i_1 * 1) [(Value.int .i64 x164_)] ∧
                     hp_12 = hp_12 ∧ B_4 = (decide (most_ ≤ x164_))))))) ∧
                ((B_4 = true →
                  R (.returned (Value.bool false)) hp_12) ∧
                 (B_4 = false →
                  ∃ x114_, IntKind.i64.wrap (i_1 + (1 : Int)) = x114_ ∧
                  (Iv_1 [(Value.int .i64 x114_)] hp_12 ∧ m_1 [(Value.int .i64 x114_)] hp_12 < m_1 [(Value.int .i64 i_1)] hp_11))))))) ∧
            ((decide (i_1 < n_)) = false →
             R (.returned (Value.bool true)) hp_11)))))))))))) :
  CallsH Tryd.prog 5 #[(Value.int .u32 seed_), (Value.int .i64 most_), (Value.slice lp_ ln_ lc_)] h R := calls_vc fine false Tryd.func5 (ann := A5) (args := [(Value.int .u32 seed_), (Value.int .i64 most_), (Value.slice lp_ ln_ lc_)]) (by kernel_rfl) (Eq.mpr (by kernel_rfl) H)
/-- turnout/turnoutlaw02.SumsSums -/
def A6 : Ann := (.seq .nil (.seq .nil (.seq .nil (.seq .nil (.seq .nil (.seq (.seq .nil (.block (.loop [(10, (.int .u32)), (11, (.int .i64))] (.seq (.seq .nil (.cond .nil .nil)) (.seq (.block .nil) .nil))))) (.seq .nil (.seq .nil (.seq .nil (.seq .nil (.seq .nil (.seq (.join 6) .nil))))))))))))
theorem V6 (partsp_ : Option Addr) (partsn_ partsc_ : Nat) (sum_ : Int) (b_ : ByteArray) (h : Hp) (R : Ending → Hp → Prop) (H :
  CallsH Tryd.prog 12 #[] h fun en_ hp_ =>
  ∃ x17_ : Bool, en_ = .returned (Value.bool x17_) ∧
  CallsH Tryd.prog 16 #[(Value.slice partsp_ partsn_ partsc_)] hp_ fun en_1 hp_1 =>
  ∃ (x19p_ : Option Addr) (x19n_ x19c_ : Nat), en_1 = .returned (Value.slice x19p_ x19n_ x19c_) ∧
  ∃ (Iv_ : List Value → Hp → Prop) (m_ : List Value → Hp → Nat), Iv_ [(Value.int .u32 (0 : Int)), (Value.int .i64 (0 : Int))] hp_1 ∧
  (∀ (want_ : Int) (i_ : Int) hp_2, Iv_ [(Value.int .u32 want_), (Value.int .i64 i_)] hp_2 →
   (((decide (i_ < ((partsn_ : Nat) : Int))) = true →
     ∃ b_1 o_, partsp_ = some ⟨b_1, o_, none⟩ ∧ 0 ≤ i_ ∧ i_ < (partsn_ : Int) ∧
     ∃ x31_ : ByteArray, cellsAt hp_2 b_1 (o_ + Int.toNat i_ * 1) [(Value.string x31_)] ∧
     CallsH Tryd.prog 21 #[(Value.int .u32 want_), (Value.string x31_)] hp_2 fun en_2 hp_3 =>
     ∃ x32_ : Int, en_2 = .returned (Value.int .u32 x32_) ∧
     ∃ x26_, IntKind.i64.wrap (i_ + (1 : Int)) = x26_ ∧
     (Iv_ [(Value.int .u32 x32_), (Value.int .i64 x26_)] hp_3 ∧ m_ [(Value.int .u32 x32_), (Value.int .i64 x26_)] hp_3 < m_ [(Value.int .u32 want_), (Value.int .i64 i_)] hp_2)) ∧
    ((decide (i_ < ((partsn_ : Nat) : Int))) = false →
     ∃ u_ : Nat, ((partsn_ : Nat) : Int) = (u_ : Int) ∧
     0 ≤ u_ ∧ u_ ≤ x19c_ ∧ ∃ x35p_, cutP x19p_ x19c_ 0 1 = x35p_ ∧
     CallsH Tryd.prog 20 #[(Value.slice x35p_ (u_ - 0) (x19c_ - 0))] hp_2 fun en_3 hp_4 =>
     ∃ x36_ : Int, en_3 = .returned (Value.int .u32 x36_) ∧
     ∃ u_1 : Nat, ((partsn_ : Nat) : Int) = (u_1 : Int) ∧
     0 ≤ u_1 ∧ u_1 ≤ x19c_ ∧ ∃ x39p_, cutP x19p_ x19c_ 0 1 = x39p_ ∧
     CallsH Tryd.prog 20 #[(Value.slice x39p_ (u_1 - 0) (x19c_ - 0))] hp_4 fun en_4 hp_5 =>
     ∃ x40_ : Int, en_4 = .returned (Value.int .u32 x40_) ∧
     CallsH Tryd.prog 18 #[(Value.slice x19p_ x19n_ x19c_), (Value.slice partsp_ partsn_ partsc_)] hp_5 fun en_5 hp_6 =>
     ∃ x43_ : Bool, en_5 = .returned (Value.bool x43_) ∧
     CallsH Tryd.prog 22 #[(Value.int .u32 sum_), (Value.string b_)] hp_6 fun en_6 hp_7 =>
     ∃ x46_ : Int, en_6 = .returned (Value.int .u32 x46_) ∧
     CallsH Tryd.prog 21 #[(Value.int .u32 sum_), (Value.string b_)] hp_7 fun en_7 hp_8 =>
     ∃ x49_ : Int, en_7 = .returned (Value.int .u32 x49_) ∧
     ∃ B_ : Bool, (((x17_ = true →
        ((x43_ = true →
          (((decide (x36_ = want_)) = true →
            (((decide (x40_ = want_)) = true →
              hp_8 = hp_8 ∧ B_ = (decide (x46_ = x49_))) ∧
             ((decide (x40_ = want_)) = false →
              hp_8 = hp_8 ∧ B_ = false))) ∧
           ((decide (x36_ = want_)) = false →
            hp_8 = hp_8 ∧ B_ = false))) ∧
         (x43_ = false →
          hp_8 = hp_8 ∧ B_ = false))) ∧
       (x17_ = false →
        hp_8 = hp_8 ∧ B_ = false))) ∧
     R (.returned (Value.bool B_)) hp_8)))) :
  CallsH Tryd.prog 6 #[(Value.slice partsp_ partsn_ partsc_), (Value.int .u32 sum_), (Value.string b_)] h R := calls_vc fine false Tryd.func6 (ann := A6) (args := [(Value.slice partsp_ partsn_ partsc_), (Value.int .u32 sum_), (Value.string b_)]) (by kernel_rfl) (Eq.mpr (by kernel_rfl) H)
/-- turnout/turnoutlaw02.SumsOnes -/
def A7 : Ann := (.seq .nil (.seq .nil (.seq .nil (.seq .nil (.seq .nil (.seq .nil (.seq (.join 4) .nil)))))))
theorem V7 (b_ : ByteArray) (pf0_ : Int) (pf1_ : Int) (pf2_ : Int) (h : Hp) (R : Ending → Hp → Prop) (H :
  ∀ b_1 hp_, b_1 = Array.size h → hp_ = Array.push h (.cells #[(Value.int .u16 pf0_), (Value.int .u16 pf1_), (Value.int .u16 pf2_)] 42) →
  CallsH Tryd.prog 12 #[] hp_ fun en_ hp_1 =>
  ∃ x10_ : Bool, en_ = .returned (Value.bool x10_) ∧
  CallsH Tryd.prog 23 #[(Value.string b_)] hp_1 fun en_1 hp_2 =>
  ∃ x12_ : Int, en_1 = .returned (Value.int .u16 x12_) ∧
  CallsH Tryd.prog 24 #[(Value.string b_)] hp_2 fun en_2 hp_3 =>
  ∃ x14_ : Int, en_2 = .returned (Value.int .u16 x14_) ∧
  ∃ x16_ : Int, cellsAt hp_3 b_1 (0 + 0) [(Value.int .u16 x16_)] ∧
  ∃ x18_ : Int, cellsAt hp_3 b_1 (0 + 1) [(Value.int .u16 x18_)] ∧
  ∃ x20_ : Int, cellsAt hp_3 b_1 (0 + 2) [(Value.int .u16 x20_)] ∧
  CallsH Tryd.prog 25 #[(Value.int .u16 x16_), (Value.int .u16 x18_), (Value.int .u16 x20_)] hp_3 fun en_3 hp_4 =>
  ∃ x21_ : Int, en_3 = .returned (Value.int .u16 x21_) ∧
  ∃ x23_ : Int, cellsAt hp_4 b_1 (0 + 0) [(Value.int .u16 x23_)] ∧
  ∃ x25_ : Int, cellsAt hp_4 b_1 (0 + 1) [(Value.int .u16 x25_)] ∧
  ∃ x27_ : Int, cellsAt hp_4 b_1 (0 + 2) [(Value.int .u16 x27_)] ∧
  CallsH Tryd.prog 26 #[(Value.int .u16 x23_), (Value.int .u16 x25_), (Value.int .u16 x27_)] hp_4 fun en_4 hp_5 =>
  ∃ x28_ : Int, en_4 = .returned (Value.int .u16 x28_) ∧
  ∃ B_ : Bool, (((x10_ = true →
     (((decide (x12_ = x14_)) = true →
       hp_5 = hp_5 ∧ B_ = (decide (x21_ = x28_))) ∧
      ((decide (x12_ = x14_)) = false →
       hp_5 = hp_5 ∧ B_ = false))) ∧
    (x10_ = false →
     hp_5 = hp_5 ∧ B_ = false))) ∧
  R (.returned (Value.bool B_)) hp_5) :
  CallsH Tryd.prog 7 #[(Value.string b_), (Value.agg #[(Value.int .u16 pf0_), (Value.int .u16 pf1_), (Value.int .u16 pf2_)])] h R := calls_vc fine false Tryd.func7 (ann := A7) (args := [(Value.string b_), (Value.agg #[(Value.int .u16 pf0_), (Value.int .u16 pf1_), (Value.int .u16 pf2_)])]) (by kernel_rfl) (Eq.mpr (by kernel_rfl) H)
/-- turnout/turnoutlaw02.SumsPatched -/
def A8 : Ann := (.seq .nil (.seq .nil (.seq .nil (.seq .nil (.seq .nil (.seq .nil (.seq .nil (.seq .nil (.seq .nil (.cut (.seq (.join 57) (.cond (.seq .nil .nil) .nil)) [] (.seq (.seq .nil (.cond (.seq .nil .nil) .nil)) (.cut (.seq .nil (.cond .nil .nil)) [(9, (.int .i64))] (.seq .nil (.seq .nil (.seq .nil (.seq (.seq .nil (.block (.loop [(15, .slice), (16, (.int .i64))] (.seq (.seq .nil (.cond .nil .nil)) (.seq (.block .nil) .nil))))) (.seq .nil (.cut (.seq (.join 110) (.cond (.seq .nil .nil) .nil)) [] (.cut (.seq .nil (.cond .nil .nil)) [(8, (.int .i64))] (.seq .nil (.seq .nil (.seq .nil (.seq .nil (.seq (.seq .nil (.block (.loop [(21, .bool), (22, (.int .i64))] (.seq (.seq .nil (.cond .nil .nil)) (.seq (.block (.join 21)) .nil))))) (.seq .nil (.seq .nil (.seq (.join 4) .nil)))))))))))))))))))))))))))
theorem V8 (text_ : ByteArray) (cf0_ : Int) (cf1_ : Int) (cf2_ : Int) (h : Hp) (R : Ending → Hp → Prop) (H :
  ∀ b_ hp_, b_ = Array.size h → hp_ = Array.push h (.cells #[(Value.int .i64 cf0_), (Value.int .u16 cf1_), (Value.int .i64 cf2_)] 47) →
  CallsH Tryd.prog 12 #[] hp_ fun en_ hp_1 =>
  ∃ x25_ : Bool, en_ = .returned (Value.bool x25_) ∧
  (2 : Int) ≠ 0 ∧ ∃ x28_, IntKind.i64.wrap (Int.tdiv (ByteArray.size text_ : Int) (2 : Int)) = x28_ ∧
  ∃ x31_, IntKind.i64.wrap ((2 : Int) * x28_) = x31_ ∧
  ∃ u_ : Nat, x31_ = (u_ : Int) ∧
  0 ≤ u_ ∧ u_ ≤ ByteArray.size text_ ∧ ∃ x32_, ByteArray.extract text_ 0 u_ = x32_ ∧
  ∃ x34_ : Int, cellsAt hp_1 b_ (0 + 0) [(Value.int .i64 x34_)] ∧
  ∃ x36_ : Int, cellsAt hp_1 b_ (0 + 2) [(Value.int .i64 x36_)] ∧
  ∃ x38_ : Int, cellsAt hp_1 b_ (0 + 1) [(Value.int .u16 x38_)] ∧
  CallsH Tryd.prog 23 #[(Value.string x32_)] hp_1 fun en_1 hp_2 =>
  ∃ x40_ : Int, en_1 = .returned (Value.int .u16 x40_) ∧
  (256 : Int) ≠ 0 ∧ ∃ x43_, IntKind.u16.wrap (Int.tdiv x40_ (256 : Int)) = x43_ ∧
  ∃ x44_, IntKind.u8.wrap x43_ = x44_ ∧
  (256 : Int) ≠ 0 ∧ ∃ x46_, Int.tmod x40_ (256 : Int) = x46_ ∧
  ∃ x47_, IntKind.u8.wrap x46_ = x47_ ∧
  SemH Tryd.prog (Instr.buildSlice 35 2 #[(0, (Value.int .u8 x44_)), (1, (Value.int .u8 x47_))]) hp_2 fun v_ hp_3 =>
  ∃ (x48p_ : Option Addr) (x48n_ x48c_ : Nat), v_ = (Value.slice x48p_ x48n_ x48c_) ∧
  SemH Tryd.prog (convert 35 9 (Value.slice x48p_ x48n_ x48c_)) hp_3 fun v_1 hp_4 =>
  ∃ x49_ : ByteArray, v_1 = (Value.string x49_) ∧
  ByteArray.size x32_ + ByteArray.size x49_ ≤ 9223372036854775807 ∧ ∃ x50_, x32_ ++ x49_ = x50_ ∧
  CallsH Tryd.prog 23 #[(Value.string x50_)] hp_4 fun en_2 hp_5 =>
  ∃ x51_ : Int, en_2 = .returned (Value.int .u16 x51_) ∧
  ∃ Jv_ : List Value → Hp → Prop,
  (∃ B_ : Bool, ((((!x25_) = true →
      hp_5 = hp_5 ∧ B_ = true) ∧
     ((!x25_) = false →
      hp_5 = hp_5 ∧ B_ = (decide (x51_ ≠ (0 : Int)))))) ∧
   ((B_ = true →
     R (.returned (Value.bool false)) hp_5) ∧
    (B_ = false →
     Jv_ [] hp_5))) ∧
  (∀  hp_6, Jv_ [] hp_6 →
   (((decide (x28_ = (0 : Int))) = true →
     R (.returned (Value.bool (decide (x40_ = (65535 : Int))))) hp_6) ∧
    ((decide (x28_ = (0 : Int))) = false →
     ∃ Jv_1 : List Value → Hp → Prop,
     ((((decide (x36_ < (0 : Int))) = true →
        ∃ x65_, IntKind.i64.wrap (x36_ + (1 : Int)) = x65_ ∧
        ∃ x66_, IntKind.i64.wrap (0 - x65_) = x66_ ∧
        Jv_1 [(Value.int .i64 x66_)] hp_6) ∧
       ((decide (x36_ < (0 : Int))) = false →
        Jv_1 [(Value.int .i64 x36_)] hp_6))) ∧
     (∀ (turn_ : Int) hp_7, Jv_1 [(Value.int .i64 turn_)] hp_7 →
      x28_ ≠ 0 ∧ ∃ x69_, Int.tmod turn_ x28_ = x69_ ∧
      ∃ x70_, IntKind.i64.wrap ((2 : Int) * x69_) = x70_ ∧
      ∃ l_ : Nat, x70_ = (l_ : Int) ∧
      l_ ≤ (ByteArray.size x32_) ∧ (ByteArray.size x32_) ≤ ByteArray.size x32_ ∧ ∃ x73_, ByteArray.extract x32_ l_ (ByteArray.size x32_) = x73_ ∧
      ∃ u_1 : Nat, x70_ = (u_1 : Int) ∧
      0 ≤ u_1 ∧ u_1 ≤ ByteArray.size x32_ ∧ ∃ x76_, ByteArray.extract x32_ 0 u_1 = x76_ ∧
      ByteArray.size x73_ + ByteArray.size x76_ ≤ 9223372036854775807 ∧ ∃ x77_, x73_ ++ x76_ = x77_ ∧
      CallsH Tryd.prog 23 #[(Value.string x77_)] hp_7 fun en_3 hp_8 =>
      ∃ x78_ : Int, en_3 = .returned (Value.int .u16 x78_) ∧
      ∃ (Iv_ : List Value → Hp → Prop) (m_ : List Value → Hp → Nat), Iv_ [(Value.slice none 0 0), (Value.int .i64 (0 : Int))] hp_8 ∧
      (∀ (otherp_ : Option Addr) (othern_ otherc_ : Nat) (i_ : Int) hp_9, Iv_ [(Value.slice otherp_ othern_ otherc_), (Value.int .i64 i_)] hp_9 →
       (((decide (i_ < (ByteArray.size x32_ : Int))) = true →
         ∃ x88_, IntKind.i64.wrap (i_ + (1 : Int)) = x88_ ∧
         0 ≤ x88_ ∧ ∃ x89_ : UInt8, x32_[Int.toNat x88_]? = some x89_ ∧
         0 ≤ i_ ∧ ∃ x92_ : UInt8, x32_[Int.toNat i_]? = some x92_ ∧
         SemH Tryd.prog (Instr.buildSlice 35 2 #[(0, (Value.int .u8 (x89_.toNat : Int))), (1, (Value.int .u8 (x92_.toNat : Int)))]) hp_9 fun v_2 hp_10 =>
         ∃ (x93p_ : Option Addr) (x93n_ x93c_ : Nat), v_2 = (Value.slice x93p_ x93n_ x93c_) ∧
         SemH Tryd.prog (Builtin.append_ #[35, 35] 35 #[(Value.slice otherp_ othern_ otherc_), (Value.slice x93p_ x93n_ x93c_)]) hp_10 fun v_3 hp_11 =>
         ∃ (x94p_ : Option Addr) (x94n_ x94c_ : Nat), v_3 = (Value.slice x94p_ x94n_ x94c_) ∧
         ∃ x84_, IntKind.i64.wrap (i_ + (2 : Int)) = x84_ ∧
         (Iv_ [(Value.slice x94p_ x94n_ x94c_), (Value.int .i64 x84_)] hp_11 ∧ m_ [(Value.slice x94p_ x94n_ x94c_), (Value.int .i64 x84_)] hp_11 < m_ [(Value.slice otherp_ othern_ otherc_), (Value.int .i64 i_)] hp_9)) ∧
        ((decide (i_ < (ByteArray.size x32_ : Int))) = false →
         SemH Tryd.prog (convert 35 9 (Value.slice otherp_ othern_ otherc_)) hp_9 fun v_4 hp_12 =>
         ∃ x96_ : ByteArray, v_4 = (Value.string x96_) ∧
         CallsH Tryd.prog 23 #[(Value.string x96_)] hp_12 fun en_4 hp_13 =>
         ∃ x97_ : Int, en_4 = .returned (Value.int .u16 x97_) ∧
         ∃ Jv_2 : List Value → Hp → Prop,
         (∃ B_1 : Bool, ((((decide (x78_ ≠ x40_)) = true →
             hp_13 = hp_13 ∧ B_1 = true) ∧
            ((decide (x78_ ≠ x40_)) = false →
             (256 : Int) ≠ 0 ∧ ∃ x104_, IntKind.u16.wrap (Int.tdiv x40_ (256 : Int)) = x104_ ∧
             (256 : Int) ≠ 0 ∧ ∃ x106_, Int.tmod x40_ (256 : Int) = x106_ ∧
             ∃ x107_, IntKind.u16.wrap (x106_ * (256 : Int)) = x107_ ∧
             ∃ x108_, IntKind.u16.wrap (x104_ + x107_) = x108_ ∧
             hp_13 = hp_13 ∧ B_1 = (decide (x97_ ≠ x108_))))) ∧
          ((B_1 = true →
            R (.returned (Value.bool false)) hp_13) ∧
           (B_1 = false →
            Jv_2 [] hp_13))) ∧
         (∀  hp_14, Jv_2 [] hp_14 →
          ∃ Jv_3 : List Value → Hp → Prop,
          ((((decide (x34_ < (0 : Int))) = true →
             ∃ x114_, IntKind.i64.wrap (x34_ + (1 : Int)) = x114_ ∧
             ∃ x115_, IntKind.i64.wrap (0 - x114_) = x115_ ∧
             Jv_3 [(Value.int .i64 x115_)] hp_14) ∧
            ((decide (x34_ < (0 : Int))) = false →
             Jv_3 [(Value.int .i64 x34_)] hp_14))) ∧
          (∀ (atv_ : Int) hp_15, Jv_3 [(Value.int .i64 atv_)] hp_15 →
           x28_ ≠ 0 ∧ ∃ x118_, Int.tmod atv_ x28_ = x118_ ∧
           ∃ x119_, IntKind.i64.wrap ((2 : Int) * x118_) = x119_ ∧
           0 ≤ x119_ ∧ ∃ x122_ : UInt8, x32_[Int.toNat x119_]? = some x122_ ∧
           ∃ x123_, IntKind.u16.wrap (x122_.toNat : Int) = x123_ ∧
           ∃ x124_, IntKind.u16.wrap ((256 : Int) * x123_) = x124_ ∧
           ∃ x127_, IntKind.i64.wrap (x119_ + (1 : Int)) = x127_ ∧
           0 ≤ x127_ ∧ ∃ x128_ : UInt8, x32_[Int.toNat x127_]? = some x128_ ∧
           ∃ x129_, IntKind.u16.wrap (x128_.toNat : Int) = x129_ ∧
           ∃ x130_, IntKind.u16.wrap (x124_ + x129_) = x130_ ∧
           ∃ u_2 : Nat, x119_ = (u_2 : Int) ∧
           0 ≤ u_2 ∧ u_2 ≤ ByteArray.size x32_ ∧ ∃ x133_, ByteArray.extract x32_ 0 u_2 = x133_ ∧
           (256 : Int) ≠ 0 ∧ ∃ x135_, IntKind.u16.wrap (Int.tdiv x38_ (256 : Int)) = x135_ ∧
           ∃ x136_, IntKind.u8.wrap x135_ = x136_ ∧
           (256 : Int) ≠ 0 ∧ ∃ x138_, Int.tmod x38_ (256 : Int) = x138_ ∧
           ∃ x139_, IntKind.u8.wrap x138_ = x139_ ∧
           SemH Tryd.prog (Instr.buildSlice 35 2 #[(0, (Value.int .u8 x136_)), (1, (Value.int .u8 x139_))]) hp_15 fun v_5 hp_16 =>
           ∃ (x140p_ : Option Addr) (x140n_ x140c_ : Nat), v_5 = (Value.slice x140p_ x140n_ x140c_) ∧
           SemH Tryd.prog (convert 35 9 (Value.slice x140p_ x140n_ x140c_)) hp_16 fun v_6 hp_17 =>
           ∃ x141_ : ByteArray, v_6 = (Value.string x141_) ∧
           ByteArray.size x133_ + ByteArray.size x141_ ≤ 9223372036854775807 ∧ ∃ x142_, x133_ ++ x141_ = x142_ ∧
           ∃ x145_, IntKind.i64.wrap (x119_ + (2 : Int)) = x145_ ∧
           ∃ l_1 : Nat, x145_ = (l_1 : Int) ∧
           l_1 ≤ (ByteArray.size x32_) ∧ (ByteArray.size x32_) ≤ ByteArray.size x32_ ∧ ∃ x146_, ByteArray.extract x32_ l_1 (ByteArray.size x32_) = x146_ ∧
           ByteArray.size x142_ + ByteArray.size x146_ ≤ 9223372036854775807 ∧ ∃ x147_, x142_ ++ x146_ = x147_ ∧
           ∃ (Iv_1 : List Value → Hp → Prop) (m_1 : List Value → Hp → Nat), Iv_1 [(Value.bool false), (Value.int .i64 (0 : Int))] hp_17 ∧
           (∀ (some_ : Bool) (i_1 : Int) hp_18, Iv_1 [(Value.bool some_), (Value.int .i64 i_1)] hp_18 →
            (((decide (i_1 < (ByteArray.size x147_ : Int))) = true →
              ∃ B_2 : Bool, (((some_ = true →
                 hp_18 = hp_18 ∧ B_2 = true) ∧
                (some_ = false →
                 0 ≤ i_1 ∧ ∃ x158_ : UInt8, x147_[Int.toNat i_1]? = some x158_ ∧
                 hp_18 = hp_18 ∧ B_2 = (decide ((x158_.toNat : Int) ≠ (0 : Int)))))) ∧
              ∃ x153_, IntKind.i64.wrap (i_1 + (1 : Int)) = x153_ ∧
              (Iv_1 [(Value.bool B_2), (Value.int .i64 x153_)] hp_18 ∧ m_1 [(Value.bool B_2), (Value.int .i64 x153_)] hp_18 < m_1 [(Value.bool some_), (Value.int .i64 i_1)] hp_18)) ∧
             ((decide (i_1 < (ByteArray.size x147_ : Int))) = false →
              CallsH Tryd.prog 23 #[(Value.string x147_)] hp_18 fun en_5 hp_19 =>
              ∃ x162_ : Int, en_5 = .returned (Value.int .u16 x162_) ∧
              CallsH Tryd.prog 25 #[(Value.int .u16 x40_), (Value.int .u16 x130_), (Value.int .u16 x38_)] hp_19 fun en_6 hp_20 =>
              ∃ x166_ : Int, en_6 = .returned (Value.int .u16 x166_) ∧
              ∃ B_3 : Bool, ((((decide (x162_ = x166_)) = true →
                 hp_20 = hp_20 ∧ B_3 = true) ∧
                ((decide (x162_ = x166_)) = false →
                 (((!some_) = true →
                   hp_20 = hp_20 ∧ B_3 = (decide (x162_ = (65535 : Int)))) ∧
                  ((!some_) = false →
                   hp_20 = hp_20 ∧ B_3 = false))))) ∧
              R (.returned (Value.bool B_3)) hp_20))))))))))))) :
  CallsH Tryd.prog 8 #[(Value.string text_), (Value.agg #[(Value.int .i64 cf0_), (Value.int .u16 cf1_), (Value.int .i64 cf2_)])] h R := calls_vc fine false Tryd.func8 (ann := A8) (args := [(Value.string text_), (Value.agg #[(Value.int .i64 cf0_), (Value.int .u16 cf1_), (Value.int .i64 cf2_)])]) (by kernel_rfl) (Eq.mpr (by kernel_rfl) H)
/-- turnout/turnoutlaw02.SumsFours -/
def A9 : Ann := (.seq .nil (.seq .nil (.seq .nil (.seq .nil (.cut (.seq (.join 32) (.cond (.seq .nil .nil) .nil)) [] (.seq (.seq .nil (.cond (.seq .nil .nil) .nil)) (.seq .nil (.seq .nil (.seq .nil (.seq .nil (.seq .nil .nil)))))))))))
theorem V9 (sum_ : Int) (want_ : Int) (b_ : ByteArray) (h : Hp) (R : Ending → Hp → Prop) (H :
  CallsH Tryd.prog 12 #[] h fun en_ hp_ =>
  ∃ x14_ : Bool, en_ = .returned (Value.bool x14_) ∧
  CallsH Tryd.prog 27 #[(Value.int .u32 sum_), (Value.int .u32 want_)] hp_ fun en_1 hp_1 =>
  ∃ x17_ : ByteArray, en_1 = .returned (Value.string x17_) ∧
  CallsH Tryd.prog 22 #[(Value.int .u32 sum_), (Value.string x17_)] hp_1 fun en_2 hp_2 =>
  ∃ x20_ : Int, en_2 = .returned (Value.int .u32 x20_) ∧
  ∃ Jv_ : List Value → Hp → Prop,
  (∃ B_ : Bool, ((((!x14_) = true →
      hp_2 = hp_2 ∧ B_ = true) ∧
     ((!x14_) = false →
      (((decide ((ByteArray.size x17_ : Int) ≠ (4 : Int))) = true →
        hp_2 = hp_2 ∧ B_ = true) ∧
       ((decide ((ByteArray.size x17_ : Int) ≠ (4 : Int))) = false →
        hp_2 = hp_2 ∧ B_ = (decide (x20_ ≠ want_))))))) ∧
   ((B_ = true →
     R (.returned (Value.bool false)) hp_2) ∧
    (B_ = false →
     Jv_ [] hp_2))) ∧
  (∀  hp_3, Jv_ [] hp_3 →
   (((decide ((ByteArray.size b_ : Int) < (4 : Int))) = true →
     R (.returned (Value.bool true)) hp_3) ∧
    ((decide ((ByteArray.size b_ : Int) < (4 : Int))) = false →
     ∃ x38_, IntKind.i64.wrap ((ByteArray.size b_ : Int) - (4 : Int)) = x38_ ∧
     ∃ u_ : Nat, x38_ = (u_ : Int) ∧
     0 ≤ u_ ∧ u_ ≤ ByteArray.size b_ ∧ ∃ x42_, ByteArray.extract b_ 0 u_ = x42_ ∧
     CallsH Tryd.prog 22 #[(Value.int .u32 sum_), (Value.string x42_)] hp_3 fun en_3 hp_4 =>
     ∃ x43_ : Int, en_3 = .returned (Value.int .u32 x43_) ∧
     CallsH Tryd.prog 22 #[(Value.int .u32 sum_), (Value.string b_)] hp_4 fun en_4 hp_5 =>
     ∃ x46_ : Int, en_4 = .returned (Value.int .u32 x46_) ∧
     CallsH Tryd.prog 27 #[(Value.int .u32 x43_), (Value.int .u32 x46_)] hp_5 fun en_5 hp_6 =>
     ∃ x49_ : ByteArray, en_5 = .returned (Value.string x49_) ∧
     ∃ l_ : Nat, x38_ = (l_ : Int) ∧
     l_ ≤ (ByteArray.size b_) ∧ (ByteArray.size b_) ≤ ByteArray.size b_ ∧ ∃ x53_, ByteArray.extract b_ l_ (ByteArray.size b_) = x53_ ∧
     R (.returned (Value.bool (decide (x49_ = x53_)))) hp_6)))) :
  CallsH Tryd.prog 9 #[(Value.int .u32 sum_), (Value.int .u32 want_), (Value.string b_)] h R := calls_vc fine false Tryd.func9 (ann := A9) (args := [(Value.int .u32 sum_), (Value.int .u32 want_), (Value.string b_)]) (by kernel_rfl) (Eq.mpr (by kernel_rfl) H)
/-- turnout/turnoutlaw02.SumsJoins -/
def A10 : Ann := (.seq .nil (.seq .nil (.seq .nil (.seq .nil (.seq .nil (.seq .nil (.seq (.join 6) .nil)))))))
theorem V10 (a_ : Int) (b_ : Int) (n_ : Int) (h : Hp) (R : Ending → Hp → Prop) (H :
  CallsH Tryd.prog 12 #[] h fun en_ hp_ =>
  ∃ x16_ : Bool, en_ = .returned (Value.bool x16_) ∧
  CallsH Tryd.prog 28 #[(Value.int .u32 a_), (Value.int .u32 b_), (Value.int .i64 n_)] hp_ fun en_1 hp_1 =>
  ∃ x21r0_ : Int, ∃ x21r1_ : Int, en_1 = .returned (Value.tuple #[(Value.int .u32 x21r0_), (Value.int .i64 x21r1_)]) ∧
  CallsH Tryd.prog 29 #[(Value.int .u32 a_), (Value.int .u32 b_), (Value.int .i64 n_)] hp_1 fun en_2 hp_2 =>
  ∃ x28r0_ : Int, ∃ x28r1_ : Int, en_2 = .returned (Value.tuple #[(Value.int .u32 x28r0_), (Value.int .i64 x28r1_)]) ∧
  CallsH Tryd.prog 30 #[(Value.int .u32 a_), (Value.int .u32 b_), (Value.int .i64 n_)] hp_2 fun en_3 hp_3 =>
  ∃ x35r0_ : Int, ∃ x35r1_ : Int, en_3 = .returned (Value.tuple #[(Value.int .u32 x35r0_), (Value.int .i64 x35r1_)]) ∧
  CallsH Tryd.prog 31 #[(Value.int .u32 a_), (Value.int .u32 b_), (Value.int .i64 n_)] hp_3 fun en_4 hp_4 =>
  ∃ x42r0_ : Int, ∃ x42r1_ : Int, en_4 = .returned (Value.tuple #[(Value.int .u32 x42r0_), (Value.int .i64 x42r1_)]) ∧
  ∃ B_ : Bool, (((x16_ = true →
     (((decide (x21r0_ = x35r0_)) = true →
       (((decide (x28r0_ = x42r0_)) = true →
         (((decide (x21r1_ = x35r1_)) = true →
           hp_4 = hp_4 ∧ B_ = (decide (x28r1_ = x42r1_))) ∧
          ((decide (x21r1_ = x35r1_)) = false →
           hp_4 = hp_4 ∧ B_ = false))) ∧
        ((decide (x28r0_ = x42r0_)) = false →
         hp_4 = hp_4 ∧ B_ = false))) ∧
      ((decide (x21r0_ = x35r0_)) = false →
       hp_4 = hp_4 ∧ B_ = false))) ∧
    (x16_ = false →
     hp_4 = hp_4 ∧ B_ = false))) ∧
  R (.returned (Value.bool B_)) hp_4) :
  CallsH Tryd.prog 10 #[(Value.int .u32 a_), (Value.int .u32 b_), (Value.int .i64 n_)] h R := calls_vc fine false Tryd.func10 (ann := A10) (args := [(Value.int .u32 a_), (Value.int .u32 b_), (Value.int .i64 n_)]) (by kernel_rfl) (Eq.mpr (by kernel_rfl) H)
/-- turnout/turnoutlaw02.SumsJoined -/
def A11 : Ann := (.seq .nil (.seq .nil (.seq .nil (.seq .nil (.seq .nil (.seq .nil (.seq .nil (.seq .nil (.seq .nil (.cut (.seq (.join 88) (.cond (.seq .nil .nil) .nil)) [] (.seq .nil (.seq .nil (.seq (.seq .nil (.block (.loop [(18, .slice), (19, (.int .i64))] (.seq (.seq .nil (.cond .nil .nil)) (.seq (.block .nil) .nil))))) (.seq .nil (.seq .nil (.seq .nil (.seq .nil (.seq .nil .nil))))))))))))))))))
theorem V11 (x_ : ByteArray) (y_ : ByteArray) (z_ : ByteArray) (h : Hp) (R : Ending → Hp → Prop) (H :
  CallsH Tryd.prog 12 #[] h fun en_ hp_ =>
  ∃ x24_ : Bool, en_ = .returned (Value.bool x24_) ∧
  SemH Tryd.prog (Instr.buildSlice 23 1 #[(0, (Value.string x_))]) hp_ fun v_ hp_1 =>
  ∃ (x26p_ : Option Addr) (x26n_ x26c_ : Nat), v_ = (Value.slice x26p_ x26n_ x26c_) ∧
  CallsH Tryd.prog 20 #[(Value.slice x26p_ x26n_ x26c_)] hp_1 fun en_1 hp_2 =>
  ∃ x27_ : Int, en_1 = .returned (Value.int .u32 x27_) ∧
  SemH Tryd.prog (Instr.buildSlice 23 1 #[(0, (Value.string y_))]) hp_2 fun v_1 hp_3 =>
  ∃ (x29p_ : Option Addr) (x29n_ x29c_ : Nat), v_1 = (Value.slice x29p_ x29n_ x29c_) ∧
  CallsH Tryd.prog 20 #[(Value.slice x29p_ x29n_ x29c_)] hp_3 fun en_2 hp_4 =>
  ∃ x30_ : Int, en_2 = .returned (Value.int .u32 x30_) ∧
  SemH Tryd.prog (Instr.buildSlice 23 2 #[(0, (Value.string x_)), (1, (Value.string y_))]) hp_4 fun v_2 hp_5 =>
  ∃ (x33p_ : Option Addr) (x33n_ x33c_ : Nat), v_2 = (Value.slice x33p_ x33n_ x33c_) ∧
  CallsH Tryd.prog 20 #[(Value.slice x33p_ x33n_ x33c_)] hp_5 fun en_3 hp_6 =>
  ∃ x34_ : Int, en_3 = .returned (Value.int .u32 x34_) ∧
  ByteArray.size x_ + ByteArray.size y_ ≤ 9223372036854775807 ∧ ∃ x37_, x_ ++ y_ = x37_ ∧
  SemH Tryd.prog (Instr.buildSlice 23 1 #[(0, (Value.string x37_))]) hp_6 fun v_3 hp_7 =>
  ∃ (x38p_ : Option Addr) (x38n_ x38c_ : Nat), v_3 = (Value.slice x38p_ x38n_ x38c_) ∧
  CallsH Tryd.prog 20 #[(Value.slice x38p_ x38n_ x38c_)] hp_7 fun en_4 hp_8 =>
  ∃ x39_ : Int, en_4 = .returned (Value.int .u32 x39_) ∧
  CallsH Tryd.prog 22 #[(Value.int .u32 x27_), (Value.string y_)] hp_8 fun en_5 hp_9 =>
  ∃ x42_ : Int, en_5 = .returned (Value.int .u32 x42_) ∧
  CallsH Tryd.prog 28 #[(Value.int .u32 x27_), (Value.int .u32 x30_), (Value.int .i64 (ByteArray.size y_ : Int))] hp_9 fun en_6 hp_10 =>
  ∃ x48r0_ : Int, ∃ x48r1_ : Int, en_6 = .returned (Value.tuple #[(Value.int .u32 x48r0_), (Value.int .i64 x48r1_)]) ∧
  CallsH Tryd.prog 29 #[(Value.int .u32 x34_), (Value.int .u32 x30_), (Value.int .i64 (ByteArray.size y_ : Int))] hp_10 fun en_7 hp_11 =>
  ∃ x56r0_ : Int, ∃ x56r1_ : Int, en_7 = .returned (Value.tuple #[(Value.int .u32 x56r0_), (Value.int .i64 x56r1_)]) ∧
  ∃ Jv_ : List Value → Hp → Prop,
  (∃ B_ : Bool, ((((!x24_) = true →
      hp_11 = hp_11 ∧ B_ = true) ∧
     ((!x24_) = false →
      (((decide (x39_ ≠ x34_)) = true →
        hp_11 = hp_11 ∧ B_ = true) ∧
       ((decide (x39_ ≠ x34_)) = false →
        (((decide (x42_ ≠ x34_)) = true →
          hp_11 = hp_11 ∧ B_ = true) ∧
         ((decide (x42_ ≠ x34_)) = false →
          (((decide (x48r0_ ≠ x34_)) = true →
            hp_11 = hp_11 ∧ B_ = true) ∧
           ((decide (x48r0_ ≠ x34_)) = false →
            (((decide (x56r0_ ≠ x27_)) = true →
              hp_11 = hp_11 ∧ B_ = true) ∧
             ((decide (x56r0_ ≠ x27_)) = false →
              (((decide (x48r1_ ≠ (0 : Int))) = true →
                hp_11 = hp_11 ∧ B_ = true) ∧
               ((decide (x48r1_ ≠ (0 : Int))) = false →
                hp_11 = hp_11 ∧ B_ = (decide (x56r1_ ≠ (0 : Int)))))))))))))))) ∧
   ((B_ = true →
     R (.returned (Value.bool false)) hp_11) ∧
    (B_ = false →
     Jv_ [] hp_11))) ∧
  (∀  hp_12, Jv_ [] hp_12 →
   ∃ (Iv_ : List Value → Hp → Prop) (m_ : List Value → Hp → Nat), Iv_ [(Value.slice none 0 0), (Value.int .i64 (0 : Int))] hp_12 ∧
   (∀ (mixedp_ : Option Addr) (mixedn_ mixedc_ : Nat) (i_ : Int) hp_13, Iv_ [(Value.slice mixedp_ mixedn_ mixedc_), (Value.int .i64 i_)] hp_13 →
    (((decide (i_ < (min (min (ByteArray.size x_ : Int) (ByteArray.size y_ : Int)) (ByteArray.size z_ : Int)))) = true →
      0 ≤ i_ ∧ ∃ x104_ : UInt8, x_[Int.toNat i_]? = some x104_ ∧
      0 ≤ i_ ∧ ∃ x107_ : UInt8, y_[Int.toNat i_]? = some x107_ ∧
      ∃ x108_, xorI .u8 (x104_.toNat : Int) (x107_.toNat : Int) = x108_ ∧
      0 ≤ i_ ∧ ∃ x111_ : UInt8, z_[Int.toNat i_]? = some x111_ ∧
      ∃ x112_, xorI .u8 x108_ (x111_.toNat : Int) = x112_ ∧
      SemH Tryd.prog (Instr.buildSlice 35 1 #[(0, (Value.int .u8 x112_))]) hp_13 fun v_4 hp_14 =>
      ∃ (x113p_ : Option Addr) (x113n_ x113c_ : Nat), v_4 = (Value.slice x113p_ x113n_ x113c_) ∧
      SemH Tryd.prog (Builtin.append_ #[35, 35] 35 #[(Value.slice mixedp_ mixedn_ mixedc_), (Value.slice x113p_ x113n_ x113c_)]) hp_14 fun v_5 hp_15 =>
      ∃ (x114p_ : Option Addr) (x114n_ x114c_ : Nat), v_5 = (Value.slice x114p_ x114n_ x114c_) ∧
      ∃ x100_, IntKind.i64.wrap (i_ + (1 : Int)) = x100_ ∧
      (Iv_ [(Value.slice x114p_ x114n_ x114c_), (Value.int .i64 x100_)] hp_15 ∧ m_ [(Value.slice x114p_ x114n_ x114c_), (Value.int .i64 x100_)] hp_15 < m_ [(Value.slice mixedp_ mixedn_ mixedc_), (Value.int .i64 i_)] hp_13)) ∧
     ((decide (i_ < (min (min (ByteArray.size x_ : Int) (ByteArray.size y_ : Int)) (ByteArray.size z_ : Int)))) = false →
      ∃ u_ : Nat, (min (min (ByteArray.size x_ : Int) (ByteArray.size y_ : Int)) (ByteArray.size z_ : Int)) = (u_ : Int) ∧
      0 ≤ u_ ∧ u_ ≤ ByteArray.size x_ ∧ ∃ x117_, ByteArray.extract x_ 0 u_ = x117_ ∧
      SemH Tryd.prog (Instr.buildSlice 23 1 #[(0, (Value.string x117_))]) hp_13 fun v_6 hp_16 =>
      ∃ (x118p_ : Option Addr) (x118n_ x118c_ : Nat), v_6 = (Value.slice x118p_ x118n_ x118c_) ∧
      CallsH Tryd.prog 20 #[(Value.slice x118p_ x118n_ x118c_)] hp_16 fun en_8 hp_17 =>
      ∃ x119_ : Int, en_8 = .returned (Value.int .u32 x119_) ∧
      ∃ u_1 : Nat, (min (min (ByteArray.size x_ : Int) (ByteArray.size y_ : Int)) (ByteArray.size z_ : Int)) = (u_1 : Int) ∧
      0 ≤ u_1 ∧ u_1 ≤ ByteArray.size y_ ∧ ∃ x122_, ByteArray.extract y_ 0 u_1 = x122_ ∧
      SemH Tryd.prog (Instr.buildSlice 23 1 #[(0, (Value.string x122_))]) hp_17 fun v_7 hp_18 =>
      ∃ (x123p_ : Option Addr) (x123n_ x123c_ : Nat), v_7 = (Value.slice x123p_ x123n_ x123c_) ∧
      CallsH Tryd.prog 20 #[(Value.slice x123p_ x123n_ x123c_)] hp_18 fun en_9 hp_19 =>
      ∃ x124_ : Int, en_9 = .returned (Value.int .u32 x124_) ∧
      ∃ u_2 : Nat, (min (min (ByteArray.size x_ : Int) (ByteArray.size y_ : Int)) (ByteArray.size z_ : Int)) = (u_2 : Int) ∧
      0 ≤ u_2 ∧ u_2 ≤ ByteArray.size z_ ∧ ∃ x127_, ByteArray.extract z_ 0 u_2 = x127_ ∧
      SemH Tryd.prog (Instr.buildSlice 23 1 #[(0, (Value.string x127_))]) hp_19 fun v_8 hp_20 =>
      ∃ (x128p_ : Option Addr) (x128n_ x128c_ : Nat), v_8 = (Value.slice x128p_ x128n_ x128c_) ∧
      CallsH Tryd.prog 20 #[(Value.slice x128p_ x128n_ x128c_)] hp_20 fun en_10 hp_21 =>
      ∃ x129_ : Int, en_10 = .returned (Value.int .u32 x129_) ∧
      SemH Tryd.prog (convert 35 9 (Value.slice mixedp_ mixedn_ mixedc_)) hp_21 fun v_9 hp_22 =>
      ∃ x131_ : ByteArray, v_9 = (Value.string x131_) ∧
      SemH Tryd.prog (Instr.buildSlice 23 1 #[(0, (Value.string x131_))]) hp_22 fun v_10 hp_23 =>
      ∃ (x132p_ : Option Addr) (x132n_ x132c_ : Nat), v_10 = (Value.slice x132p_ x132n_ x132c_) ∧
      CallsH Tryd.prog 20 #[(Value.slice x132p_ x132n_ x132c_)] hp_23 fun en_11 hp_24 =>
      ∃ x133_ : Int, en_11 = .returned (Value.int .u32 x133_) ∧
      ∃ x136_, xorI .u32 x119_ x124_ = x136_ ∧
      ∃ x138_, xorI .u32 x136_ x129_ = x138_ ∧
      R (.returned (Value.bool (decide (x138_ = x133_)))) hp_24))))) :
  CallsH Tryd.prog 11 #[(Value.string x_), (Value.string y_), (Value.string z_)] h R := calls_vc fine false Tryd.func11 (ann := A11) (args := [(Value.string x_), (Value.string y_), (Value.string z_)]) (by kernel_rfl) (Eq.mpr (by kernel_rfl) H)
/-- turnout/turnoutlaw02.live -/
def A12 : Ann := (.seq .nil (.seq .nil (.seq .nil (.seq (.join 0) .nil))))
theorem V12  (h : Hp) (R : Ending → Hp → Prop) (H :
  SemH Tryd.prog (Instr.buildSlice 23 3 #[(0, (Value.string (⟨#[49, 50, 51, 52]⟩ : ByteArray))), (1, (Value.string (⟨#[]⟩ : ByteArray))), (2, (Value.string (⟨#[53, 54, 55, 56, 57]⟩ : ByteArray)))]) h fun v_ hp_ =>
  ∃ (x4p_ : Option Addr) (x4n_ x4c_ : Nat), v_ = (Value.slice x4p_ x4n_ x4c_) ∧
  CallsH Tryd.prog 20 #[(Value.slice x4p_ x4n_ x4c_)] hp_ fun en_ hp_1 =>
  ∃ x5_ : Int, en_ = .returned (Value.int .u32 x5_) ∧
  SemH Tryd.prog (Instr.buildSlice 23 1 #[(0, (Value.string (⟨#[97]⟩ : ByteArray)))]) hp_1 fun v_1 hp_2 =>
  ∃ (x7p_ : Option Addr) (x7n_ x7c_ : Nat), v_1 = (Value.slice x7p_ x7n_ x7c_) ∧
  CallsH Tryd.prog 17 #[(Value.int .u32 (0 : Int)), (Value.int .i64 (1 : Int)), (Value.slice x7p_ x7n_ x7c_)] hp_2 fun en_1 hp_3 =>
  ∃ (x8r0p_ : Option Addr) (x8r0n_ x8r0c_ : Nat), ∃ x8r1_ : Int, en_1 = .returned (Value.tuple #[(Value.slice x8r0p_ x8r0n_ x8r0c_), (Value.int .i64 x8r1_)]) ∧
  ∃ B_ : Bool, ((((decide (x5_ = (3421780262 : Int))) = true →
     (((decide (x8r1_ = (0 : Int))) = true →
       (((decide (((x8r0n_ : Nat) : Int) = (1 : Int))) = true →
         ∃ b_ o_, x8r0p_ = some ⟨b_, o_, none⟩ ∧ 0 ≤ (0 : Int) ∧ (0 : Int) < (x8r0n_ : Int) ∧
         ∃ x25_ : Int, cellsAt hp_3 b_ (o_ + Int.toNat (0 : Int) * 1) [(Value.int .i64 x25_)] ∧
         hp_3 = hp_3 ∧ B_ = (decide (x25_ = (0 : Int)))) ∧
        ((decide (((x8r0n_ : Nat) : Int) = (1 : Int))) = false →
         hp_3 = hp_3 ∧ B_ = false))) ∧
      ((decide (x8r1_ = (0 : Int))) = false →
       hp_3 = hp_3 ∧ B_ = false))) ∧
    ((decide (x5_ = (3421780262 : Int))) = false →
     hp_3 = hp_3 ∧ B_ = false))) ∧
  R (.returned (Value.bool B_)) hp_3) :
  CallsH Tryd.prog 12 #[] h R := calls_vc fine false Tryd.func12 (ann := A12) (args := []) (by kernel_rfl) (Eq.mpr (by kernel_rfl) H)
/-- turnout/sums.Spread -/
def A13 : Ann := (.seq .nil (.seq .nil (.seq (.seq .nil (.block (.loop [(5, (.int .u32)), (11, (.int .i64))] (.seq .nil (.seq (.cond .nil .nil) (.seq (.block (.seq .nil .nil)) .nil)))))) (.seq .nil (.seq .nil .nil)))))
theorem V13 (seed_ : Int) (b_ : ByteArray) (h : Hp) (R : Ending → Hp → Prop) (H :
  ∃ x8_, xorI .u32 (2166136261 : Int) seed_ = x8_ ∧
  ∃ (Iv_ : List Value → Hp → Prop) (m_ : List Value → Hp → Nat), Iv_ [(Value.int .u32 x8_), (Value.int .i64 (0 : Int))] h ∧
  (∀ (n_ : Int) (x11_ : Int) hp_, Iv_ [(Value.int .u32 n_), (Value.int .i64 x11_)] hp_ →
   (((decide (x11_ < (ByteArray.size b_ : Int))) = true →
     0 ≤ x11_ ∧ ∃ x17_ : UInt8, b_[Int.toNat x11_]? = some x17_ ∧
     ∃ x18_, IntKind.u32.wrap (x17_.toNat : Int) = x18_ ∧
     ∃ x19_, xorI .u32 n_ x18_ = x19_ ∧
     ∃ x20_, IntKind.u32.wrap (x19_ * (16777619 : Int)) = x20_ ∧
     ∃ x21_, IntKind.i64.wrap (x11_ + (1 : Int)) = x21_ ∧
     (Iv_ [(Value.int .u32 x20_), (Value.int .i64 x21_)] hp_ ∧ m_ [(Value.int .u32 x20_), (Value.int .i64 x21_)] hp_ < m_ [(Value.int .u32 n_), (Value.int .i64 x11_)] hp_)) ∧
    ((decide (x11_ < (ByteArray.size b_ : Int))) = false →
     0 ≤ (16 : Int) ∧ ∃ x24_, shrI .u32 n_ (16 : Int) = x24_ ∧
     ∃ x25_, xorI .u32 n_ x24_ = x25_ ∧
     ∃ x26_, IntKind.u32.wrap (x25_ * (2246822507 : Int)) = x26_ ∧
     0 ≤ (13 : Int) ∧ ∃ x29_, shrI .u32 x26_ (13 : Int) = x29_ ∧
     ∃ x30_, xorI .u32 x26_ x29_ = x30_ ∧
     R (.returned (Value.int .u32 x30_)) hp_)))) :
  CallsH Tryd.prog 13 #[(Value.int .u32 seed_), (Value.string b_)] h R := calls_vc fine false Tryd.func13 (ann := A13) (args := [(Value.int .u32 seed_), (Value.string b_)]) (by kernel_rfl) (Eq.mpr (by kernel_rfl) H)
/-- turnout/turnoutref02.Spread -/
def A14 : Ann := (.seq .nil (.seq .nil (.seq (.seq .nil (.block (.loop [(5, (.int .u32)), (6, (.int .i64))] (.seq (.seq .nil (.cond .nil .nil)) (.seq (.block (.seq .nil .nil)) .nil))))) (.seq .nil (.seq .nil (.seq .nil .nil))))))
theorem V14 (seed_ : Int) (b_ : ByteArray) (h : Hp) (R : Ending → Hp → Prop) (H :
  ∃ x8_, xorI .u32 (2166136261 : Int) seed_ = x8_ ∧
  ∃ (Iv_ : List Value → Hp → Prop) (m_ : List Value → Hp → Nat), Iv_ [(Value.int .u32 x8_), (Value.int .i64 (0 : Int))] h ∧
  (∀ (n_ : Int) (i_ : Int) hp_, Iv_ [(Value.int .u32 n_), (Value.int .i64 i_)] hp_ →
   (((decide (i_ < (ByteArray.size b_ : Int))) = true →
     0 ≤ i_ ∧ ∃ x18_ : UInt8, b_[Int.toNat i_]? = some x18_ ∧
     ∃ x19_, IntKind.u32.wrap (x18_.toNat : Int) = x19_ ∧
     ∃ x20_, xorI .u32 n_ x19_ = x20_ ∧
     ∃ x22_, IntKind.u32.wrap (x20_ * (16777619 : Int)) = x22_ ∧
     ∃ x14_, IntKind.i64.wrap (i_ + (1 : Int)) = x14_ ∧
     (Iv_ [(Value.int .u32 x22_), (Value.int .i64 x14_)] hp_ ∧ m_ [(Value.int .u32 x22_), (Value.int .i64 x14_)] hp_ < m_ [(Value.int .u32 n_), (Value.int .i64 i_)] hp_)) ∧
    ((decide (i_ < (ByteArray.size b_ : Int))) = false →
     (65536 : Int) ≠ 0 ∧ ∃ x25_, IntKind.u32.wrap (Int.tdiv n_ (65536 : Int)) = x25_ ∧
     ∃ x26_, xorI .u32 n_ x25_ = x26_ ∧
     ∃ x28_, IntKind.u32.wrap (x26_ * (2246822507 : Int)) = x28_ ∧
     (8192 : Int) ≠ 0 ∧ ∃ x31_, IntKind.u32.wrap (Int.tdiv x28_ (8192 : Int)) = x31_ ∧
     ∃ x32_, xorI .u32 x28_ x31_ = x32_ ∧
     R (.returned (Value.int .u32 x32_)) hp_)))) :
  CallsH Tryd.prog 14 #[(Value.int .u32 seed_), (Value.string b_)] h R := calls_vc fine false Tryd.func14 (ann := A14) (args := [(Value.int .u32 seed_), (Value.string b_)]) (by kernel_rfl) (Eq.mpr (by kernel_rfl) H)
/-- turnout/turnoutref02.Slots -/
def A15 : Ann := (.seq .nil (.seq (.seq .nil (.cond (.seq .nil .nil) .nil)) (.seq .nil (.seq .nil (.seq (.seq .nil (.block (.loop [(8, .slice), (9, .slice), (10, (.int .i64))] (.seq (.seq .nil (.cond .nil .nil)) (.seq (.block (.seq .nil (.cut (.seq .nil (.block (.loop [(11, (.int .i64)), (12, (.int .i64))] (.cut (.seq (.join 31) (.cond .nil .nil)) [] (.seq (.block (.seq .nil (.cond .nil .nil))) .nil))))) [(11, (.int .i64))] (.seq (.seq .nil (.cond (.seq .nil .nil) .nil)) (.seq (.seq .nil (.cond (.seq .nil .nil) .nil)) (.seq .nil (.seq .nil (.seq .nil (.seq (.block (.loop [(11, (.int .i64)), (14, (.int .i64)), (15, .bool)] (.seq (.seq .nil (.cond .nil .nil)) (.block (.seq .nil .nil))))) (.seq .nil (.seq .nil (.seq .nil (.seq .nil .nil))))))))))))) .nil))))) (.seq .nil .nil))))))
theorem V15 (seed_ : Int) (most_ : Int) (lp_ : Option Addr) (ln_ lc_ : Nat) (h : Hp) (R : Ending → Hp → Prop) (H :
  (((decide (most_ < (1 : Int))) = true →
    R (.returned (Value.tuple #[(Value.slice none 0 0), (Value.int .i64 (1 : Int))])) h) ∧
   ((decide (most_ < (1 : Int))) = false →
    ∃ (Iv_ : List Value → Hp → Prop) (m_ : List Value → Hp → Nat), Iv_ [(Value.slice none 0 0), (Value.slice none 0 0), (Value.int .i64 (0 : Int))] h ∧
    (∀ (outp_ : Option Addr) (outn_ outc_ : Nat) (takenp_ : Option Addr) (takenn_ takenc_ : Nat) (i_ : Int) hp_, Iv_ [(Value.slice outp_ outn_ outc_), (Value.slice takenp_ takenn_ takenc_), (Value.int .i64 i_)] hp_ →
     (((decide (i_ < ((ln_ : Nat) : Int))) = true →
       ∃ Jv_ : List Value → Hp → Prop,
       (∃ (Iv_1 : List Value → Hp → Prop) (m_1 : List Value → Hp → Nat), Iv_1 [(Value.int .i64 (-1 : Int)), (Value.int .i64 (0 : Int))] hp_ ∧
        (∀ (atv_ : Int) (k_ : Int) hp_1, Iv_1 [(Value.int .i64 atv_), (Value.int .i64 k_)] hp_1 →
         ∃ Jv_1 : List Value → Hp → Prop,
         (∃ B_ : Bool, ((((decide (k_ < i_)) = true →
             hp_1 = hp_1 ∧ B_ = (decide (atv_ < (0 : Int)))) ∧
            ((decide (k_ < i_)) = false →
             hp_1 = hp_1 ∧ B_ = false))) ∧
          ((B_ = true →
            Jv_1 [] hp_1) ∧
           (B_ = false →
            Jv_ [(Value.int .i64 atv_)] hp_1))) ∧
         (∀  hp_2, Jv_1 [] hp_2 →
          ∃ b_ o_, lp_ = some ⟨b_, o_, none⟩ ∧ 0 ≤ k_ ∧ k_ < (ln_ : Int) ∧
          ∃ x37_ : ByteArray, cellsAt hp_2 b_ (o_ + Int.toNat k_ * 1) [(Value.string x37_)] ∧
          ∃ b_1 o_1, lp_ = some ⟨b_1, o_1, none⟩ ∧ 0 ≤ i_ ∧ i_ < (ln_ : Int) ∧
          ∃ x41_ : ByteArray, cellsAt hp_2 b_1 (o_1 + Int.toNat i_ * 1) [(Value.string x41_)] ∧
          (((decide (x37_ = x41_)) = true →
            ∃ b_2 o_2, outp_ = some ⟨b_2, o_2, none⟩ ∧ 0 ≤ k_ ∧ k_ < (outn_ : Int) ∧
            ∃ x46_ : Int, cellsAt hp_2 b_2 (o_2 + Int.toNat k_ * 1) [(Value.int .i64 x46_)] ∧
            ∃ x33_, IntKind.i64.wrap (k_ + (1 : Int)) = x33_ ∧
            (Iv_1 [(Value.int .i64 x46_), (Value.int .i64 x33_)] hp_2 ∧ m_1 [(Value.int .i64 x46_), (Value.int .i64 x33_)] hp_2 < m_1 [(Value.int .i64 atv_), (Value.int .i64 k_)] hp_1)) ∧
           ((decide (x37_ = x41_)) = false →
            ∃ x33_1, IntKind.i64.wrap (k_ + (1 : Int)) = x33_1 ∧
            (Iv_1 [(Value.int .i64 atv_), (Value.int .i64 x33_1)] hp_2 ∧ m_1 [(Value.int .i64 atv_), (Value.int .i64 x33_1)] hp_2 < m_1 [(Value.int .i64 atv_), (Value.int .i64 k_)] hp_1)))))) ∧
       (∀ (atv_1 : Int) hp_3, Jv_ [(Value.int .i64 atv_1)] hp_3 →
        (((decide ((0 : Int) ≤ atv_1)) = true →
          SemH Tryd.prog (Instr.buildSlice 26 1 #[(0, (Value.int .i64 atv_1))]) hp_3 fun v_ hp_4 =>
          ∃ (x51p_ : Option Addr) (x51n_ x51c_ : Nat), v_ = (Value.slice x51p_ x51n_ x51c_) ∧
          SemH Tryd.prog (Builtin.append_ #[26, 26] 26 #[(Value.slice outp_ outn_ outc_), (Value.slice x51p_ x51n_ x51c_)]) hp_4 fun v_1 hp_5 =>
          ∃ (x52p_ : Option Addr) (x52n_ x52c_ : Nat), v_1 = (Value.slice x52p_ x52n_ x52c_) ∧
          ∃ x24_, IntKind.i64.wrap (i_ + (1 : Int)) = x24_ ∧
          (Iv_ [(Value.slice x52p_ x52n_ x52c_), (Value.slice takenp_ takenn_ takenc_), (Value.int .i64 x24_)] hp_5 ∧ m_ [(Value.slice x52p_ x52n_ x52c_), (Value.slice takenp_ takenn_ takenc_), (Value.int .i64 x24_)] hp_5 < m_ [(Value.slice outp_ outn_ outc_), (Value.slice takenp_ takenn_ takenc_), (Value.int .i64 i_)] hp_)) ∧
         ((decide ((0 : Int) ≤ atv_1)) = false →
          (((decide (most_ ≤ ((takenn_ : Nat) : Int))) = true →
            R (.returned (Value.tuple #[(Value.slice none 0 0), (Value.int .i64 (120 : Int))])) hp_3) ∧
           ((decide (most_ ≤ ((takenn_ : Nat) : Int))) = false →
            ∃ b_3 o_3, lp_ = some ⟨b_3, o_3, none⟩ ∧ 0 ≤ i_ ∧ i_ < (ln_ : Int) ∧
            ∃ x61_ : ByteArray, cellsAt hp_3 b_3 (o_3 + Int.toNat i_ * 1) [(Value.string x61_)] ∧
            CallsH Tryd.prog 14 #[(Value.int .u32 seed_), (Value.string x61_)] hp_3 fun en_ hp_6 =>
            ∃ x62_ : Int, en_ = .returned (Value.int .u32 x62_) ∧
            ∃ x64_, IntKind.i64.wrap x62_ = x64_ ∧
            most_ ≠ 0 ∧ ∃ x66_, Int.tmod x64_ most_ = x66_ ∧
            CallsH Tryd.prog 32 #[(Value.slice takenp_ takenn_ takenc_), (Value.int .i64 x66_)] hp_6 fun en_1 hp_7 =>
            ∃ x70r0_ : Int, ∃ x70r1_ : Bool, en_1 = .returned (Value.tuple #[(Value.int .i64 x70r0_), (Value.bool x70r1_)]) ∧
            ∃ (Iv_2 : List Value → Hp → Prop) (m_2 : List Value → Hp → Nat), Iv_2 [(Value.int .i64 x66_), (Value.int .i64 x70r0_), (Value.bool x70r1_)] hp_7 ∧
            (∀ (atv_2 : Int) (p_ : Int) (isv_ : Bool) hp_8, Iv_2 [(Value.int .i64 atv_2), (Value.int .i64 p_), (Value.bool isv_)] hp_8 →
             ((isv_ = true →
               ∃ x75_, IntKind.i64.wrap (atv_2 + (1 : Int)) = x75_ ∧
               most_ ≠ 0 ∧ ∃ x77_, Int.tmod x75_ most_ = x77_ ∧
               CallsH Tryd.prog 32 #[(Value.slice takenp_ takenn_ takenc_), (Value.int .i64 x77_)] hp_8 fun en_2 hp_9 =>
               ∃ x81r0_ : Int, ∃ x81r1_ : Bool, en_2 = .returned (Value.tuple #[(Value.int .i64 x81r0_), (Value.bool x81r1_)]) ∧
               (Iv_2 [(Value.int .i64 x77_), (Value.int .i64 x81r0_), (Value.bool x81r1_)] hp_9 ∧ m_2 [(Value.int .i64 x77_), (Value.int .i64 x81r0_), (Value.bool x81r1_)] hp_9 < m_2 [(Value.int .i64 atv_2), (Value.int .i64 p_), (Value.bool isv_)] hp_8)) ∧
              (isv_ = false →
               ∃ u_ : Nat, p_ = (u_ : Int) ∧
               0 ≤ u_ ∧ u_ ≤ takenc_ ∧ ∃ x87p_, cutP takenp_ takenc_ 0 1 = x87p_ ∧
               SemH Tryd.prog (Builtin.append_ #[26, 26] 26 #[(Value.slice none 0 0), (Value.slice x87p_ (u_ - 0) (takenc_ - 0))]) hp_8 fun v_2 hp_10 =>
               ∃ (x88p_ : Option Addr) (x88n_ x88c_ : Nat), v_2 = (Value.slice x88p_ x88n_ x88c_) ∧
               SemH Tryd.prog (Instr.buildSlice 26 1 #[(0, (Value.int .i64 atv_2))]) hp_10 fun v_3 hp_11 =>
               ∃ (x91p_ : Option Addr) (x91n_ x91c_ : Nat), v_3 = (Value.slice x91p_ x91n_ x91c_) ∧
               SemH Tryd.prog (Builtin.append_ #[26, 26] 26 #[(Value.slice x88p_ x88n_ x88c_), (Value.slice x91p_ x91n_ x91c_)]) hp_11 fun v_4 hp_12 =>
               ∃ (x92p_ : Option Addr) (x92n_ x92c_ : Nat), v_4 = (Value.slice x92p_ x92n_ x92c_) ∧
               ∃ l_ : Nat, p_ = (l_ : Int) ∧
               l_ ≤ takenn_ ∧ takenn_ ≤ takenc_ ∧ ∃ x96p_, cutP takenp_ takenc_ l_ 1 = x96p_ ∧
               SemH Tryd.prog (Builtin.append_ #[26, 26] 26 #[(Value.slice x92p_ x92n_ x92c_), (Value.slice x96p_ (takenn_ - l_) (takenc_ - l_))]) hp_12 fun v_5 hp_13 =>
               ∃ (x97p_ : Option Addr) (x97n_ x97c_ : Nat), v_5 = (Value.slice x97p_ x97n_ x97c_) ∧
               SemH Tryd.prog (Instr.buildSlice 26 1 #[(0, (Value.int .i64 atv_2))]) hp_13 fun v_6 hp_14 =>
               ∃ (x100p_ : Option Addr) (x100n_ x100c_ : Nat), v_6 = (Value.slice x100p_ x100n_ x100c_) ∧
               SemH Tryd.prog (Builtin.append_ #[26, 26] 26 #[(Value.slice outp_ outn_ outc_), (Value.slice x100p_ x100n_ x100c_)]) hp_14 fun v_7 hp_15 =>
               ∃ (x101p_ : Option Addr) (x101n_ x101c_ : Nat), v_7 = (Value.slice x101p_ x101n_ x101c_) ∧
               ∃ x24_1, IntKind.i64.wrap (i_ + (1 : Int)) = x24_1 ∧
               (Iv_ [(Value.slice x101p_ x101n_ x101c_), (Value.slice x97p_ x97n_ x97c_), (Value.int .i64 x24_1)] hp_15 ∧ m_ [(Value.slice x101p_ x101n_ x101c_), (Value.slice x97p_ x97n_ x97c_), (Value.int .i64 x24_1)] hp_15 < m_ [(Value.slice outp_ outn_ outc_), (Value.slice takenp_ takenn_ takenc_), (Value.int .i64 i_)] hp_)))))))))) ∧
      ((decide (i_ < ((ln_ : Nat) : Int))) = false →
       R (.returned (Value.tuple #[(Value.slice outp_ outn_ outc_), (Value.int .i64 (0 : Int))])) hp_)))))) :
  CallsH Tryd.prog 15 #[(Value.int .u32 seed_), (Value.int .i64 most_), (Value.slice lp_ ln_ lc_)] h R := calls_vc fine false Tryd.func15 (ann := A15) (args := [(Value.int .u32 seed_), (Value.int .i64 most_), (Value.slice lp_ ln_ lc_)]) (by kernel_rfl) (Eq.mpr (by kernel_rfl) H)
/-- turnout/turnoutlaw02.lent -/
def A16 : Ann := (.seq .nil (.seq .nil (.seq (.seq .nil (.block (.loop [(3, .slice), (4, (.int .i64))] (.seq (.seq .nil (.cond .nil .nil)) (.seq (.block .nil) .nil))))) (.seq .nil .nil))))
theorem V16 (lp_ : Option Addr) (ln_ lc_ : Nat) (h : Hp) (R : Ending → Hp → Prop) (H :
  ∃ (Iv_ : List Value → Hp → Prop) (m_ : List Value → Hp → Nat), Iv_ [(Value.slice none 0 0), (Value.int .i64 (0 : Int))] h ∧
  (∀ (allp_ : Option Addr) (alln_ allc_ : Nat) (i_ : Int) hp_, Iv_ [(Value.slice allp_ alln_ allc_), (Value.int .i64 i_)] hp_ →
   (((decide (i_ < ((ln_ : Nat) : Int))) = true →
     ∃ b_ o_, lp_ = some ⟨b_, o_, none⟩ ∧ 0 ≤ i_ ∧ i_ < (ln_ : Int) ∧
     ∃ x15_ : ByteArray, cellsAt hp_ b_ (o_ + Int.toNat i_ * 1) [(Value.string x15_)] ∧
     SemH Tryd.prog (Instr.buildSlice 23 1 #[(0, (Value.string x15_))]) hp_ fun v_ hp_1 =>
     ∃ (x16p_ : Option Addr) (x16n_ x16c_ : Nat), v_ = (Value.slice x16p_ x16n_ x16c_) ∧
     SemH Tryd.prog (Builtin.append_ #[23, 23] 23 #[(Value.slice allp_ alln_ allc_), (Value.slice x16p_ x16n_ x16c_)]) hp_1 fun v_1 hp_2 =>
     ∃ (x17p_ : Option Addr) (x17n_ x17c_ : Nat), v_1 = (Value.slice x17p_ x17n_ x17c_) ∧
     ∃ x10_, IntKind.i64.wrap (i_ + (1 : Int)) = x10_ ∧
     (Iv_ [(Value.slice x17p_ x17n_ x17c_), (Value.int .i64 x10_)] hp_2 ∧ m_ [(Value.slice x17p_ x17n_ x17c_), (Value.int .i64 x10_)] hp_2 < m_ [(Value.slice allp_ alln_ allc_), (Value.int .i64 i_)] hp_)) ∧
    ((decide (i_ < ((ln_ : Nat) : Int))) = false →
     SemH Tryd.prog (Instr.buildSlice 23 1 #[(0, (Value.string (⟨#[98, 101, 104, 105, 110, 100, 32, 105, 116]⟩ : ByteArray)))]) hp_ fun v_2 hp_3 =>
     ∃ (x19p_ : Option Addr) (x19n_ x19c_ : Nat), v_2 = (Value.slice x19p_ x19n_ x19c_) ∧
     SemH Tryd.prog (Builtin.append_ #[23, 23] 23 #[(Value.slice allp_ alln_ allc_), (Value.slice x19p_ x19n_ x19c_)]) hp_3 fun v_3 hp_4 =>
     ∃ (x20p_ : Option Addr) (x20n_ x20c_ : Nat), v_3 = (Value.slice x20p_ x20n_ x20c_) ∧
     R (.returned (Value.slice x20p_ x20n_ x20c_)) hp_4)))) :
  CallsH Tryd.prog 16 #[(Value.slice lp_ ln_ lc_)] h R := calls_vc fine false Tryd.func16 (ann := A16) (args := [(Value.slice lp_ ln_ lc_)]) (by kernel_rfl) (Eq.mpr (by kernel_rfl) H)
/-- turnout/sums.Slots -/
def A17 : Ann := (.seq .nil (.seq (.seq .nil (.cond (.seq .nil .nil) .nil)) (.seq .nil (.seq .nil (.seq .nil (.seq (.seq .nil (.block (.loop [(10, .slice), (21, (.int .i64))] (.seq .nil (.seq (.cond .nil .nil) (.seq (.block (.seq .nil (.seq .nil (.seq (.seq .nil (.cond (.seq (.seq .nil (.cond (.seq .nil .nil) .nil)) (.seq .nil (.seq (.block (.loop [(13, (.int .i64))] (.seq (.seq .nil (.cond .nil .nil)) (.block .nil)))) (.seq .nil .nil)))) .nil)) .nil)))) .nil)))))) (.seq .nil .nil)))))))
theorem V17 (seed_ : Int) (most_ : Int) (lp_ : Option Addr) (ln_ lc_ : Nat) (h : Hp) (R : Ending → Hp → Prop) (H :
  (((decide (most_ < (1 : Int))) = true →
    R (.returned (Value.tuple #[(Value.slice none 0 0), (Value.int .i64 (1 : Int))])) h) ∧
   ((decide (most_ < (1 : Int))) = false →
    ∀ r_ hp_, r_ = Array.size h → hp_ = Array.push h (.map #[] 0) →
    ∀ r_1 hp_1, r_1 = Array.size hp_ → hp_1 = Array.push hp_ (.map #[] 0) →
    ∃ (Iv_ : List Value → Hp → Prop) (m_ : List Value → Hp → Nat), Iv_ [(Value.slice none 0 0), (Value.int .i64 (0 : Int))] hp_1 ∧
    (∀ (outp_ : Option Addr) (outn_ outc_ : Nat) (x21_ : Int) hp_2, Iv_ [(Value.slice outp_ outn_ outc_), (Value.int .i64 x21_)] hp_2 →
     (((decide (x21_ < ((ln_ : Nat) : Int))) = true →
       ∃ b_ o_, lp_ = some ⟨b_, o_, none⟩ ∧ 0 ≤ x21_ ∧ x21_ < (ln_ : Int) ∧
       ∃ x25_ : ByteArray, cellsAt hp_2 b_ (o_ + Int.toNat x21_ * 1) [(Value.string x25_)] ∧
       SemH Tryd.prog (Instr.lookup 58 (Value.map (some r_)) (Value.string x25_) true) hp_2 fun v_ hp_3 =>
       ∃ x29r0_ : Int, ∃ x29r1_ : Bool, v_ = (Value.tuple #[(Value.int .i64 x29r0_), (Value.bool x29r1_)]) ∧
       (((!x29r1_) = true →
         SemH Tryd.prog (Builtin.len_ #[59] 3 #[(Value.map (some r_1))]) hp_3 fun v_1 hp_4 =>
         ∃ x35_ : Int, v_1 = (Value.int .i64 x35_) ∧
         (((decide (most_ ≤ x35_)) = true →
           R (.returned (Value.tuple #[(Value.slice none 0 0), (Value.int .i64 (120 : Int))])) hp_4) ∧
          ((decide (most_ ≤ x35_)) = false →
           CallsH Tryd.prog 13 #[(Value.int .u32 seed_), (Value.string x25_)] hp_4 fun en_ hp_5 =>
           ∃ x40_ : Int, en_ = .returned (Value.int .u32 x40_) ∧
           ∃ x41_, IntKind.u64.wrap x40_ = x41_ ∧
           ∃ x43_, IntKind.u64.wrap most_ = x43_ ∧
           x43_ ≠ 0 ∧ ∃ x44_, Int.tmod x41_ x43_ = x44_ ∧
           ∃ x45_, IntKind.i64.wrap x44_ = x45_ ∧
           ∃ (Iv_1 : List Value → Hp → Prop) (m_1 : List Value → Hp → Nat), Iv_1 [(Value.int .i64 x45_)] hp_5 ∧
           (∀ (atv_ : Int) hp_6, Iv_1 [(Value.int .i64 atv_)] hp_6 →
            SemH Tryd.prog (Instr.lookup 59 (Value.map (some r_1)) (Value.int .i64 atv_) false) hp_6 fun v_2 hp_7 =>
            ∃ x48_ : Int, v_2 = (Value.int .i64 x48_) ∧
            (((decide ((0 : Int) < x48_)) = true →
              ∃ x51_, IntKind.i64.wrap (atv_ + (1 : Int)) = x51_ ∧
              most_ ≠ 0 ∧ ∃ x53_, Int.tmod x51_ most_ = x53_ ∧
              (Iv_1 [(Value.int .i64 x53_)] hp_7 ∧ m_1 [(Value.int .i64 x53_)] hp_7 < m_1 [(Value.int .i64 atv_)] hp_6)) ∧
             ((decide ((0 : Int) < x48_)) = false →
              SemH Tryd.prog (Instr.mapUpdate 58 (Value.map (some r_)) (Value.string x25_) (Value.int .i64 atv_)) hp_7 fun _ hp_8 =>
              ∃ x60_, IntKind.i64.wrap (x21_ + (1 : Int)) = x60_ ∧
              SemH Tryd.prog (Instr.mapUpdate 59 (Value.map (some r_1)) (Value.int .i64 atv_) (Value.int .i64 x60_)) hp_8 fun _ hp_9 =>
              SemH Tryd.prog (Instr.buildSlice 26 1 #[(0, (Value.int .i64 atv_))]) hp_9 fun v_3 hp_10 =>
              ∃ (x63p_ : Option Addr) (x63n_ x63c_ : Nat), v_3 = (Value.slice x63p_ x63n_ x63c_) ∧
              SemH Tryd.prog (Builtin.append_ #[26, 26] 26 #[(Value.slice outp_ outn_ outc_), (Value.slice x63p_ x63n_ x63c_)]) hp_10 fun v_4 hp_11 =>
              ∃ (x64p_ : Option Addr) (x64n_ x64c_ : Nat), v_4 = (Value.slice x64p_ x64n_ x64c_) ∧
              ∃ x65_, IntKind.i64.wrap (x21_ + (1 : Int)) = x65_ ∧
              (Iv_ [(Value.slice x64p_ x64n_ x64c_), (Value.int .i64 x65_)] hp_11 ∧ m_ [(Value.slice x64p_ x64n_ x64c_), (Value.int .i64 x65_)] hp_11 < m_ [(Value.slice outp_ outn_ outc_), (Value.int .i64 x21_)] hp_2))))))) ∧
        ((!x29r1_) = false →
         SemH Tryd.prog (Instr.buildSlice 26 1 #[(0, (Value.int .i64 x29r0_))]) hp_3 fun v_5 hp_12 =>
         ∃ (x63p_1 : Option Addr) (x63n_1 x63c_1 : Nat), v_5 = (Value.slice x63p_1 x63n_1 x63c_1) ∧
         SemH Tryd.prog (Builtin.append_ #[26, 26] 26 #[(Value.slice outp_ outn_ outc_), (Value.slice x63p_1 x63n_1 x63c_1)]) hp_12 fun v_6 hp_13 =>
         ∃ (x64p_1 : Option Addr) (x64n_1 x64c_1 : Nat), v_6 = (Value.slice x64p_1 x64n_1 x64c_1) ∧
         ∃ x65_1, IntKind.i64.wrap (x21_ + (1 : Int)) = x65_1 ∧
         (Iv_ [(Value.slice x64p_1 x64n_1 x64c_1), (Value.int .i64 x65_1)] hp_13 ∧ m_ [(Value.slice x64p_1 x64n_1 x64c_1), (Value.int .i64 x65_1)] hp_13 < m_ [(Value.slice outp_ outn_ outc_), (Value.int .i64 x21_)] hp_2)))) ∧
      ((decide (x21_ < ((ln_ : Nat) : Int))) = false →
       R (.returned (Value.tuple #[(Value.slice outp_ outn_ outc_), (Value.int .i64 (0 : Int))])) hp_2)))))) :
  CallsH Tryd.prog 17 #[(Value.int .u32 seed_), (Value.int .i64 most_), (Value.slice lp_ ln_ lc_)] h R := calls_vc fine false Tryd.func17 (ann := A17) (args := [(Value.int .u32 seed_), (Value.int .i64 most_), (Value.slice lp_ ln_ lc_)]) (by kernel_rfl) (Eq.mpr (by kernel_rfl) H)
/-- turnout/turnoutlaw02.back -/
def A18 : Ann := (.seq .nil (.seq (.seq .nil (.block (.loop [(5, (.int .i64))] (.seq (.seq .nil (.cond .nil .nil)) (.seq (.block (.seq .nil (.cond (.seq .nil .nil) .nil))) .nil))))) (.seq .nil .nil)))
theorem V18 (allp_ : Option Addr) (alln_ allc_ : Nat) (lp_ : Option Addr) (ln_ lc_ : Nat) (h : Hp) (R : Ending → Hp → Prop) (H :
  ∃ (Iv_ : List Value → Hp → Prop) (m_ : List Value → Hp → Nat), Iv_ [(Value.int .i64 (0 : Int))] h ∧
  (∀ (i_ : Int) hp_, Iv_ [(Value.int .i64 i_)] hp_ →
   (((decide (i_ < ((ln_ : Nat) : Int))) = true →
     ∃ b_ o_, allp_ = some ⟨b_, o_, none⟩ ∧ 0 ≤ i_ ∧ i_ < (alln_ : Int) ∧
     ∃ x15_ : ByteArray, cellsAt hp_ b_ (o_ + Int.toNat i_ * 1) [(Value.string x15_)] ∧
     ∃ b_1 o_1, lp_ = some ⟨b_1, o_1, none⟩ ∧ 0 ≤ i_ ∧ i_ < (ln_ : Int) ∧
     ∃ x19_ : ByteArray, cellsAt hp_ b_1 (o_1 + Int.toNat i_ * 1) [(Value.string x19_)] ∧
     (((decide (x15_ ≠ x19_)) = true →
       R (.returned (Value.bool false)) hp_) ∧
      ((decide (x15_ ≠ x19_)) = false →
       ∃ x11_, IntKind.i64.wrap (i_ + (1 : Int)) = x11_ ∧
       (Iv_ [(Value.int .i64 x11_)] hp_ ∧ m_ [(Value.int .i64 x11_)] hp_ < m_ [(Value.int .i64 i_)] hp_)))) ∧
    ((decide (i_ < ((ln_ : Nat) : Int))) = false →
     ∃ b_2 o_2, allp_ = some ⟨b_2, o_2, none⟩ ∧ 0 ≤ ((ln_ : Nat) : Int) ∧ ((ln_ : Nat) : Int) < (alln_ : Int) ∧
     ∃ x25_ : ByteArray, cellsAt hp_ b_2 (o_2 + Int.toNat ((ln_ : Nat) : Int) * 1) [(Value.string x25_)] ∧
     R (.returned (Value.bool (decide (x25_ = (⟨#[98, 101, 104, 105, 110, 100, 32, 105, 116]⟩ : ByteArray))))) hp_)))) :
  CallsH Tryd.prog 18 #[(Value.slice allp_ alln_ allc_), (Value.slice lp_ ln_ lc_)] h R := calls_vc fine false Tryd.func18 (ann := A18) (args := [(Value.slice allp_ alln_ allc_), (Value.slice lp_ ln_ lc_)]) (by kernel_rfl) (Eq.mpr (by kernel_rfl) H)
/-- turnout/turnoutlaw02.sameInts -/
def A19 : Ann := (.seq .nil (.seq (.seq .nil (.cond (.seq .nil .nil) .nil)) (.seq (.seq .nil (.block (.loop [(5, (.int .i64))] (.seq (.seq .nil (.cond .nil .nil)) (.seq (.block (.seq .nil (.cond (.seq .nil .nil) .nil))) .nil))))) (.seq .nil .nil))))
theorem V19 (ap_ : Option Addr) (an_ ac_ : Nat) (bp_ : Option Addr) (bn_ bc_ : Nat) (h : Hp) (R : Ending → Hp → Prop) (H :
  (((decide (((an_ : Nat) : Int) ≠ ((bn_ : Nat) : Int))) = true →
    R (.returned (Value.bool false)) h) ∧
   ((decide (((an_ : Nat) : Int) ≠ ((bn_ : Nat) : Int))) = false →
    ∃ (Iv_ : List Value → Hp → Prop) (m_ : List Value → Hp → Nat), Iv_ [(Value.int .i64 (0 : Int))] h ∧
    (∀ (i_ : Int) hp_, Iv_ [(Value.int .i64 i_)] hp_ →
     (((decide (i_ < ((an_ : Nat) : Int))) = true →
       ∃ b_ o_, ap_ = some ⟨b_, o_, none⟩ ∧ 0 ≤ i_ ∧ i_ < (an_ : Int) ∧
       ∃ x20_ : Int, cellsAt hp_ b_ (o_ + Int.toNat i_ * 1) [(Value.int .i64 x20_)] ∧
       ∃ b_1 o_1, bp_ = some ⟨b_1, o_1, none⟩ ∧ 0 ≤ i_ ∧ i_ < (bn_ : Int) ∧
       ∃ x24_ : Int, cellsAt hp_ b_1 (o_1 + Int.toNat i_ * 1) [(Value.int .i64 x24_)] ∧
       (((decide (x20_ ≠ x24_)) = true →
         R (.returned (Value.bool false)) hp_) ∧
        ((decide (x20_ ≠ x24_)) = false →
         ∃ x16_, IntKind.i64.wrap (i_ + (1 : Int)) = x16_ ∧
         (Iv_ [(Value.int .i64 x16_)] hp_ ∧ m_ [(Value.int .i64 x16_)] hp_ < m_ [(Value.int .i64 i_)] hp_)))) ∧
      ((decide (i_ < ((an_ : Nat) : Int))) = false →
       R (.returned (Value.bool true)) hp_)))))) :
  CallsH Tryd.prog 19 #[(Value.slice ap_ an_ ac_), (Value.slice bp_ bn_ bc_)] h R := calls_vc fine false Tryd.func19 (ann := A19) (args := [(Value.slice ap_ an_ ac_), (Value.slice bp_ bn_ bc_)]) (by kernel_rfl) (Eq.mpr (by kernel_rfl) H)
/-- turnout/sums.Sum -/
def A20 : Ann := (.seq .nil (.seq .nil (.seq (.seq .nil (.block (.loop [(3, (.int .u32)), (8, (.int .i64))] (.seq .nil (.seq (.cond .nil .nil) (.seq (.block (.seq .nil .nil)) .nil)))))) (.seq .nil .nil))))
theorem V20 (partsp_ : Option Addr) (partsn_ partsc_ : Nat) (h : Hp) (R : Ending → Hp → Prop) (H :
  ∃ (Iv_ : List Value → Hp → Prop) (m_ : List Value → Hp → Nat), Iv_ [(Value.int .u32 (4294967295 : Int)), (Value.int .i64 (0 : Int))] h ∧
  (∀ (r_ : Int) (x8_ : Int) hp_, Iv_ [(Value.int .u32 r_), (Value.int .i64 x8_)] hp_ →
   (((decide (x8_ < ((partsn_ : Nat) : Int))) = true →
     ∃ b_ o_, partsp_ = some ⟨b_, o_, none⟩ ∧ 0 ≤ x8_ ∧ x8_ < (partsn_ : Int) ∧
     ∃ x11_ : ByteArray, cellsAt hp_ b_ (o_ + Int.toNat x8_ * 1) [(Value.string x11_)] ∧
     CallsH Tryd.prog 33 #[(Value.int .u32 r_), (Value.string x11_)] hp_ fun en_ hp_1 =>
     ∃ x14_ : Int, en_ = .returned (Value.int .u32 x14_) ∧
     ∃ x15_, IntKind.i64.wrap (x8_ + (1 : Int)) = x15_ ∧
     (Iv_ [(Value.int .u32 x14_), (Value.int .i64 x15_)] hp_1 ∧ m_ [(Value.int .u32 x14_), (Value.int .i64 x15_)] hp_1 < m_ [(Value.int .u32 r_), (Value.int .i64 x8_)] hp_)) ∧
    ((decide (x8_ < ((partsn_ : Nat) : Int))) = false →
     ∃ x17_, notI .u32 r_ = x17_ ∧
     R (.returned (Value.int .u32 x17_)) hp_)))) :
  CallsH Tryd.prog 20 #[(Value.slice partsp_ partsn_ partsc_)] h R := calls_vc fine false Tryd.func20 (ann := A20) (args := [(Value.slice partsp_ partsn_ partsc_)]) (by kernel_rfl) (Eq.mpr (by kernel_rfl) H)
/-- turnout/turnoutref02.More -/
def A21 : Ann := (.seq .nil (.seq .nil (.seq .nil .nil)))
theorem V21 (sum_ : Int) (b_ : ByteArray) (h : Hp) (R : Ending → Hp → Prop) (H :
  CallsH Tryd.prog 35 #[(Value.int .u32 sum_)] h fun en_ hp_ =>
  ∃ x7_ : Int, en_ = .returned (Value.int .u32 x7_) ∧
  CallsH Tryd.prog 34 #[(Value.int .u32 x7_), (Value.string b_)] hp_ fun en_1 hp_1 =>
  ∃ x9_ : Int, en_1 = .returned (Value.int .u32 x9_) ∧
  CallsH Tryd.prog 35 #[(Value.int .u32 x9_)] hp_1 fun en_2 hp_2 =>
  ∃ x11_ : Int, en_2 = .returned (Value.int .u32 x11_) ∧
  R (.returned (Value.int .u32 x11_)) hp_2) :
  CallsH Tryd.prog 21 #[(Value.int .u32 sum_), (Value.string b_)] h R := calls_vc fine false Tryd.func21 (ann := A21) (args := [(Value.int .u32 sum_), (Value.string b_)]) (by kernel_rfl) (Eq.mpr (by kernel_rfl) H)
/-- turnout/sums.More -/
def A22 : Ann := (.seq .nil (.seq .nil .nil))
theorem V22 (sum_ : Int) (b_ : ByteArray) (h : Hp) (R : Ending → Hp → Prop) (H :
  ∃ x6_, notI .u32 sum_ = x6_ ∧
  CallsH Tryd.prog 33 #[(Value.int .u32 x6_), (Value.string b_)] h fun en_ hp_ =>
  ∃ x8_ : Int, en_ = .returned (Value.int .u32 x8_) ∧
  ∃ x9_, notI .u32 x8_ = x9_ ∧
  R (.returned (Value.int .u32 x9_)) hp_) :
  CallsH Tryd.prog 22 #[(Value.int .u32 sum_), (Value.string b_)] h R := calls_vc fine false Tryd.func22 (ann := A22) (args := [(Value.int .u32 sum_), (Value.string b_)]) (by kernel_rfl) (Eq.mpr (by kernel_rfl) H)
/-- turnout/sums.Ones -/
def A23 : Ann := (.seq .nil (.seq .nil (.seq (.seq .nil (.block (.loop [(3, (.int .u64)), (7, (.int .i64))] (.seq .nil (.seq (.cond .nil .nil) (.seq (.block (.seq .nil (.seq .nil (.cond .nil .nil)))) .nil)))))) (.seq .nil .nil))))
theorem V23 (b_ : ByteArray) (h : Hp) (R : Ending → Hp → Prop) (H :
  ∃ (Iv_ : List Value → Hp → Prop) (m_ : List Value → Hp → Nat), Iv_ [(Value.int .u64 (0 : Int)), (Value.int .i64 (0 : Int))] h ∧
  (∀ (n_ : Int) (x7_ : Int) hp_, Iv_ [(Value.int .u64 n_), (Value.int .i64 x7_)] hp_ →
   (((decide (x7_ < (ByteArray.size b_ : Int))) = true →
     (2 : Int) ≠ 0 ∧ ∃ x11_, Int.tmod x7_ (2 : Int) = x11_ ∧
     (((decide (x11_ = (0 : Int))) = true →
       0 ≤ x7_ ∧ ∃ x16_ : UInt8, b_[Int.toNat x7_]? = some x16_ ∧
       ∃ x17_, IntKind.u64.wrap (x16_.toNat : Int) = x17_ ∧
       0 ≤ (8 : Int) ∧ ∃ x18_, shlI .u64 x17_ (8 : Int) = x18_ ∧
       ∃ x19_, IntKind.u64.wrap (n_ + x18_) = x19_ ∧
       ∃ x26_, IntKind.i64.wrap (x7_ + (1 : Int)) = x26_ ∧
       (Iv_ [(Value.int .u64 x19_), (Value.int .i64 x26_)] hp_ ∧ m_ [(Value.int .u64 x19_), (Value.int .i64 x26_)] hp_ < m_ [(Value.int .u64 n_), (Value.int .i64 x7_)] hp_)) ∧
      ((decide (x11_ = (0 : Int))) = false →
       0 ≤ x7_ ∧ ∃ x23_ : UInt8, b_[Int.toNat x7_]? = some x23_ ∧
       ∃ x24_, IntKind.u64.wrap (x23_.toNat : Int) = x24_ ∧
       ∃ x25_, IntKind.u64.wrap (n_ + x24_) = x25_ ∧
       ∃ x26_1, IntKind.i64.wrap (x7_ + (1 : Int)) = x26_1 ∧
       (Iv_ [(Value.int .u64 x25_), (Value.int .i64 x26_1)] hp_ ∧ m_ [(Value.int .u64 x25_), (Value.int .i64 x26_1)] hp_ < m_ [(Value.int .u64 n_), (Value.int .i64 x7_)] hp_)))) ∧
    ((decide (x7_ < (ByteArray.size b_ : Int))) = false →
     CallsH Tryd.prog 36 #[(Value.int .u64 n_)] hp_ fun en_ hp_1 =>
     ∃ x28_ : Int, en_ = .returned (Value.int .u16 x28_) ∧
     ∃ x29_, notI .u16 x28_ = x29_ ∧
     R (.returned (Value.int .u16 x29_)) hp_1)))) :
  CallsH Tryd.prog 23 #[(Value.string b_)] h R := calls_vc fine false Tryd.func23 (ann := A23) (args := [(Value.string b_)]) (by kernel_rfl) (Eq.mpr (by kernel_rfl) H)
/-- turnout/turnoutref02.Ones -/
def A24 : Ann := (.seq .nil (.seq .nil (.seq (.seq .nil (.block (.loop [(3, (.int .i64)), (4, (.int .i64))] (.seq (.seq .nil (.cond .nil .nil)) (.seq (.block (.seq .nil (.seq .nil (.cond .nil .nil)))) .nil))))) (.seq .nil (.seq .nil .nil)))))
theorem V24 (b_ : ByteArray) (h : Hp) (R : Ending → Hp → Prop) (H :
  ∃ (Iv_ : List Value → Hp → Prop) (m_ : List Value → Hp → Nat), Iv_ [(Value.int .i64 (0 : Int)), (Value.int .i64 (0 : Int))] h ∧
  (∀ (n_ : Int) (i_ : Int) hp_, Iv_ [(Value.int .i64 n_), (Value.int .i64 i_)] hp_ →
   (((decide (i_ < (ByteArray.size b_ : Int))) = true →
     0 ≤ i_ ∧ ∃ x15_ : UInt8, b_[Int.toNat i_]? = some x15_ ∧
     ∃ x16_, IntKind.i64.wrap (x15_.toNat : Int) = x16_ ∧
     ∃ x17_, IntKind.i64.wrap ((256 : Int) * x16_) = x17_ ∧
     ∃ x18_, IntKind.i64.wrap (n_ + x17_) = x18_ ∧
     ∃ x20_, IntKind.i64.wrap (i_ + (1 : Int)) = x20_ ∧
     (((decide (x20_ < (ByteArray.size b_ : Int))) = true →
       ∃ x27_, IntKind.i64.wrap (i_ + (1 : Int)) = x27_ ∧
       0 ≤ x27_ ∧ ∃ x28_ : UInt8, b_[Int.toNat x27_]? = some x28_ ∧
       ∃ x29_, IntKind.i64.wrap (x28_.toNat : Int) = x29_ ∧
       ∃ x30_, IntKind.i64.wrap (x18_ + x29_) = x30_ ∧
       ∃ x11_, IntKind.i64.wrap (i_ + (2 : Int)) = x11_ ∧
       (Iv_ [(Value.int .i64 x30_), (Value.int .i64 x11_)] hp_ ∧ m_ [(Value.int .i64 x30_), (Value.int .i64 x11_)] hp_ < m_ [(Value.int .i64 n_), (Value.int .i64 i_)] hp_)) ∧
      ((decide (x20_ < (ByteArray.size b_ : Int))) = false →
       ∃ x11_1, IntKind.i64.wrap (i_ + (2 : Int)) = x11_1 ∧
       (Iv_ [(Value.int .i64 x18_), (Value.int .i64 x11_1)] hp_ ∧ m_ [(Value.int .i64 x18_), (Value.int .i64 x11_1)] hp_ < m_ [(Value.int .i64 n_), (Value.int .i64 i_)] hp_)))) ∧
    ((decide (i_ < (ByteArray.size b_ : Int))) = false →
     CallsH Tryd.prog 37 #[(Value.int .i64 n_)] hp_ fun en_ hp_1 =>
     ∃ x32_ : Int, en_ = .returned (Value.int .i64 x32_) ∧
     ∃ x34_, IntKind.i64.wrap ((65535 : Int) - x32_) = x34_ ∧
     ∃ x35_, IntKind.u16.wrap x34_ = x35_ ∧
     R (.returned (Value.int .u16 x35_)) hp_1)))) :
  CallsH Tryd.prog 24 #[(Value.string b_)] h R := calls_vc fine false Tryd.func24 (ann := A24) (args := [(Value.string b_)]) (by kernel_rfl) (Eq.mpr (by kernel_rfl) H)
/-- turnout/sums.Patch -/
def A25 : Ann := (.seq .nil (.seq .nil .nil))
theorem V25 (sum_ : Int) (old_ : Int) (fresh_ : Int) (h : Hp) (R : Ending → Hp → Prop) (H :
  ∃ x8_, notI .u16 sum_ = x8_ ∧
  ∃ x9_, IntKind.u64.wrap x8_ = x9_ ∧
  ∃ x11_, notI .u16 old_ = x11_ ∧
  ∃ x12_, IntKind.u64.wrap x11_ = x12_ ∧
  ∃ x13_, IntKind.u64.wrap (x9_ + x12_) = x13_ ∧
  ∃ x15_, IntKind.u64.wrap fresh_ = x15_ ∧
  ∃ x16_, IntKind.u64.wrap (x13_ + x15_) = x16_ ∧
  CallsH Tryd.prog 36 #[(Value.int .u64 x16_)] h fun en_ hp_ =>
  ∃ x17_ : Int, en_ = .returned (Value.int .u16 x17_) ∧
  ∃ x18_, notI .u16 x17_ = x18_ ∧
  R (.returned (Value.int .u16 x18_)) hp_) :
  CallsH Tryd.prog 25 #[(Value.int .u16 sum_), (Value.int .u16 old_), (Value.int .u16 fresh_)] h R := calls_vc fine false Tryd.func25 (ann := A25) (args := [(Value.int .u16 sum_), (Value.int .u16 old_), (Value.int .u16 fresh_)]) (by kernel_rfl) (Eq.mpr (by kernel_rfl) H)
/-- turnout/turnoutref02.Patch -/
def A26 : Ann := (.seq .nil (.seq .nil (.seq .nil .nil)))
theorem V26 (sum_ : Int) (old_ : Int) (fresh_ : Int) (h : Hp) (R : Ending → Hp → Prop) (H :
  ∃ x9_, IntKind.i64.wrap sum_ = x9_ ∧
  ∃ x10_, IntKind.i64.wrap ((65535 : Int) - x9_) = x10_ ∧
  ∃ x11_, IntKind.i64.wrap (x10_ + (65535 : Int)) = x11_ ∧
  ∃ x13_, IntKind.i64.wrap old_ = x13_ ∧
  ∃ x14_, IntKind.i64.wrap (x11_ - x13_) = x14_ ∧
  ∃ x16_, IntKind.i64.wrap fresh_ = x16_ ∧
  ∃ x17_, IntKind.i64.wrap (x14_ + x16_) = x17_ ∧
  CallsH Tryd.prog 37 #[(Value.int .i64 x17_)] h fun en_ hp_ =>
  ∃ x18_ : Int, en_ = .returned (Value.int .i64 x18_) ∧
  ∃ x20_, IntKind.i64.wrap ((65535 : Int) - x18_) = x20_ ∧
  ∃ x21_, IntKind.u16.wrap x20_ = x21_ ∧
  R (.returned (Value.int .u16 x21_)) hp_) :
  CallsH Tryd.prog 26 #[(Value.int .u16 sum_), (Value.int .u16 old_), (Value.int .u16 fresh_)] h R := calls_vc fine false Tryd.func26 (ann := A26) (args := [(Value.int .u16 sum_), (Value.int .u16 old_), (Value.int .u16 fresh_)]) (by kernel_rfl) (Eq.mpr (by kernel_rfl) H)
/-- turnout/sums.Four -/
def A27 : Ann := (.seq .nil (.seq .nil (.seq .nil .nil)))
theorem V27 (sum_ : Int) (want_ : Int) (h : Hp) (R : Ending → Hp → Prop) (H :
  CallsH Tryd.prog 38 #[(Value.func (.func 39) #[] #[])] h fun en_ hp_ =>
  ∃ x6z_ : List Int, x6z_.length = 32 ∧ en_ = .returned (Value.agg (x6z_.map (Value.int .u32)).toArray) ∧
  ∃ x8_, notI .u32 want_ = x8_ ∧
  CallsH Tryd.prog 40 #[(Value.agg (x6z_.map (Value.int .u32)).toArray), (Value.int .u32 x8_), (Value.int .i64 (4 : Int))] hp_ fun en_1 hp_1 =>
  ∃ x9_ : Int, en_1 = .returned (Value.int .u32 x9_) ∧
  ∃ x11_, notI .u32 sum_ = x11_ ∧
  ∃ x12_, xorI .u32 x9_ x11_ = x12_ ∧
  ∃ x14_, IntKind.u8.wrap x12_ = x14_ ∧
  0 ≤ (8 : Int) ∧ ∃ x16_, shrI .u32 x12_ (8 : Int) = x16_ ∧
  ∃ x17_, IntKind.u8.wrap x16_ = x17_ ∧
  0 ≤ (16 : Int) ∧ ∃ x19_, shrI .u32 x12_ (16 : Int) = x19_ ∧
  ∃ x20_, IntKind.u8.wrap x19_ = x20_ ∧
  0 ≤ (24 : Int) ∧ ∃ x22_, shrI .u32 x12_ (24 : Int) = x22_ ∧
  ∃ x23_, IntKind.u8.wrap x22_ = x23_ ∧
  SemH Tryd.prog (Instr.buildSlice 35 4 #[(0, (Value.int .u8 x14_)), (1, (Value.int .u8 x17_)), (2, (Value.int .u8 x20_)), (3, (Value.int .u8 x23_))]) hp_1 fun v_ hp_2 =>
  ∃ (x24p_ : Option Addr) (x24n_ x24c_ : Nat), v_ = (Value.slice x24p_ x24n_ x24c_) ∧
  SemH Tryd.prog (convert 35 9 (Value.slice x24p_ x24n_ x24c_)) hp_2 fun v_1 hp_3 =>
  ∃ x25_ : ByteArray, v_1 = (Value.string x25_) ∧
  R (.returned (Value.string x25_)) hp_3) :
  CallsH Tryd.prog 27 #[(Value.int .u32 sum_), (Value.int .u32 want_)] h R := calls_vc fine false Tryd.func27 (ann := A27) (args := [(Value.int .u32 sum_), (Value.int .u32 want_)]) (by kernel_rfl) (Eq.mpr (by kernel_rfl) H)
/-- turnout/sums.Join -/
def A28 : Ann := (.seq .nil (.seq (.seq .nil (.cond (.seq .nil .nil) .nil)) (.seq .nil .nil)))
theorem V28 (a_ : Int) (b_ : Int) (n_ : Int) (h : Hp) (R : Ending → Hp → Prop) (H :
  (((decide (n_ < (0 : Int))) = true →
    R (.returned (Value.tuple #[(Value.int .u32 (0 : Int)), (Value.int .i64 (1 : Int))])) h) ∧
   ((decide (n_ < (0 : Int))) = false →
    CallsH Tryd.prog 38 #[(Value.func (.func 41) #[] #[])] h fun en_ hp_ =>
    ∃ x10z_ : List Int, x10z_.length = 32 ∧ en_ = .returned (Value.agg (x10z_.map (Value.int .u32)).toArray) ∧
    CallsH Tryd.prog 40 #[(Value.agg (x10z_.map (Value.int .u32)).toArray), (Value.int .u32 a_), (Value.int .i64 n_)] hp_ fun en_1 hp_1 =>
    ∃ x13_ : Int, en_1 = .returned (Value.int .u32 x13_) ∧
    ∃ x15_, xorI .u32 x13_ b_ = x15_ ∧
    R (.returned (Value.tuple #[(Value.int .u32 x15_), (Value.int .i64 (0 : Int))])) hp_1))) :
  CallsH Tryd.prog 28 #[(Value.int .u32 a_), (Value.int .u32 b_), (Value.int .i64 n_)] h R := calls_vc fine false Tryd.func28 (ann := A28) (args := [(Value.int .u32 a_), (Value.int .u32 b_), (Value.int .i64 n_)]) (by kernel_rfl) (Eq.mpr (by kernel_rfl) H)
/-- turnout/sums.Split -/
def A29 : Ann := (.seq .nil (.seq (.seq .nil (.cond (.seq .nil .nil) .nil)) (.seq .nil .nil)))
theorem V29 (whole_ : Int) (b_ : Int) (n_ : Int) (h : Hp) (R : Ending → Hp → Prop) (H :
  (((decide (n_ < (0 : Int))) = true →
    R (.returned (Value.tuple #[(Value.int .u32 (0 : Int)), (Value.int .i64 (1 : Int))])) h) ∧
   ((decide (n_ < (0 : Int))) = false →
    CallsH Tryd.prog 38 #[(Value.func (.func 39) #[] #[])] h fun en_ hp_ =>
    ∃ x10z_ : List Int, x10z_.length = 32 ∧ en_ = .returned (Value.agg (x10z_.map (Value.int .u32)).toArray) ∧
    ∃ x13_, xorI .u32 whole_ b_ = x13_ ∧
    CallsH Tryd.prog 40 #[(Value.agg (x10z_.map (Value.int .u32)).toArray), (Value.int .u32 x13_), (Value.int .i64 n_)] hp_ fun en_1 hp_1 =>
    ∃ x15_ : Int, en_1 = .returned (Value.int .u32 x15_) ∧
    R (.returned (Value.tuple #[(Value.int .u32 x15_), (Value.int .i64 (0 : Int))])) hp_1))) :
  CallsH Tryd.prog 29 #[(Value.int .u32 whole_), (Value.int .u32 b_), (Value.int .i64 n_)] h R := calls_vc fine false Tryd.func29 (ann := A29) (args := [(Value.int .u32 whole_), (Value.int .u32 b_), (Value.int .i64 n_)]) (by kernel_rfl) (Eq.mpr (by kernel_rfl) H)
/-- turnout/turnoutref02.Join -/
def A30 : Ann := (.seq .nil (.seq (.seq .nil (.cond (.seq .nil .nil) .nil)) (.seq .nil (.seq .nil .nil))))
theorem V30 (a_ : Int) (b_ : Int) (n_ : Int) (h : Hp) (R : Ending → Hp → Prop) (H :
  (((decide (n_ < (0 : Int))) = true →
    R (.returned (Value.tuple #[(Value.int .u32 (0 : Int)), (Value.int .i64 (1 : Int))])) h) ∧
   ((decide (n_ < (0 : Int))) = false →
    CallsH Tryd.prog 42 #[(Value.int .u32 a_), (Value.int .i64 n_), (Value.bool false)] h fun en_ hp_ =>
    ∃ x13_ : Int, en_ = .returned (Value.int .u32 x13_) ∧
    ∃ x16_, xorI .u32 x13_ b_ = x16_ ∧
    R (.returned (Value.tuple #[(Value.int .u32 x16_), (Value.int .i64 (0 : Int))])) hp_))) :
  CallsH Tryd.prog 30 #[(Value.int .u32 a_), (Value.int .u32 b_), (Value.int .i64 n_)] h R := calls_vc fine false Tryd.func30 (ann := A30) (args := [(Value.int .u32 a_), (Value.int .u32 b_), (Value.int .i64 n_)]) (by kernel_rfl) (Eq.mpr (by kernel_rfl) H)
/-- turnout/turnoutref02.Split -/
def A31 : Ann := (.seq .nil (.seq (.seq .nil (.cond (.seq .nil .nil) .nil)) (.seq .nil (.seq .nil .nil))))
theorem V31 (whole_ : Int) (b_ : Int) (n_ : Int) (h : Hp) (R : Ending → Hp → Prop) (H :
  (((decide (n_ < (0 : Int))) = true →
    R (.returned (Value.tuple #[(Value.int .u32 (0 : Int)), (Value.int .i64 (1 : Int))])) h) ∧
   ((decide (n_ < (0 : Int))) = false →
    ∃ x13_, xorI .u32 whole_ b_ = x13_ ∧
    CallsH Tryd.prog 42 #[(Value.int .u32 x13_), (Value.int .i64 n_), (Value.bool true)] h fun en_ hp_ =>
    ∃ x15_ : Int, en_ = .returned (Value.int .u32 x15_) ∧
    R (.returned (Value.tuple #[(Value.int .u32 x15_), (Value.int .i64 (0 : Int))])) hp_))) :
  CallsH Tryd.prog 31 #[(Value.int .u32 whole_), (Value.int .u32 b_), (Value.int .i64 n_)] h R := calls_vc fine false Tryd.func31 (ann := A31) (args := [(Value.int .u32 whole_), (Value.int .u32 b_), (Value.int .i64 n_)]) (by kernel_rfl) (Eq.mpr (by kernel_rfl) H)
/-- turnout/turnoutref02.stands -/
def A32 : Ann := (.seq .nil (.seq .nil (.seq .nil (.seq (.block (.loop [(6, (.int .i64)), (7, (.int .i64))] (.seq (.seq .nil (.cond .nil .nil)) (.block (.seq .nil (.seq .nil (.cond .nil .nil))))))) (.seq .nil .nil)))))
theorem V32 (lp_ : Option Addr) (ln_ lc_ : Nat) (n_ : Int) (h : Hp) (R : Ending → Hp → Prop) (H :
  ∃ (Iv_ : List Value → Hp → Prop) (m_ : List Value → Hp → Nat), Iv_ [(Value.int .i64 (0 : Int)), (Value.int .i64 ((ln_ : Nat) : Int))] h ∧
  (∀ (lo_ : Int) (hi_ : Int) hp_, Iv_ [(Value.int .i64 lo_), (Value.int .i64 hi_)] hp_ →
   (((decide (lo_ < hi_)) = true →
     ∃ x16_, IntKind.i64.wrap (lo_ + hi_) = x16_ ∧
     (2 : Int) ≠ 0 ∧ ∃ x17_, IntKind.i64.wrap (Int.tdiv x16_ (2 : Int)) = x17_ ∧
     ∃ b_ o_, lp_ = some ⟨b_, o_, none⟩ ∧ 0 ≤ x17_ ∧ x17_ < (ln_ : Int) ∧
     ∃ x21_ : Int, cellsAt hp_ b_ (o_ + Int.toNat x17_ * 1) [(Value.int .i64 x21_)] ∧
     (((decide (x21_ < n_)) = true →
       ∃ x25_, IntKind.i64.wrap (x17_ + (1 : Int)) = x25_ ∧
       (Iv_ [(Value.int .i64 x25_), (Value.int .i64 hi_)] hp_ ∧ m_ [(Value.int .i64 x25_), (Value.int .i64 hi_)] hp_ < m_ [(Value.int .i64 lo_), (Value.int .i64 hi_)] hp_)) ∧
      ((decide (x21_ < n_)) = false →
       (Iv_ [(Value.int .i64 lo_), (Value.int .i64 x17_)] hp_ ∧ m_ [(Value.int .i64 lo_), (Value.int .i64 x17_)] hp_ < m_ [(Value.int .i64 lo_), (Value.int .i64 hi_)] hp_)))) ∧
    ((decide (lo_ < hi_)) = false →
     (((decide (lo_ < ((ln_ : Nat) : Int))) = true →
       ∃ b_1 o_1, lp_ = some ⟨b_1, o_1, none⟩ ∧ 0 ≤ lo_ ∧ lo_ < (ln_ : Int) ∧
       ∃ x36_ : Int, cellsAt hp_ b_1 (o_1 + Int.toNat lo_ * 1) [(Value.int .i64 x36_)] ∧
       R (.returned (Value.tuple #[(Value.int .i64 lo_), (Value.bool (decide (x36_ = n_)))])) hp_) ∧
      ((decide (lo_ < ((ln_ : Nat) : Int))) = false →
       R (.returned (Value.tuple #[(Value.int .i64 lo_), (Value.bool false)])) hp_)))))) :
  CallsH Tryd.prog 32 #[(Value.slice lp_ ln_ lc_), (Value.int .i64 n_)] h R := calls_vc fine false Tryd.func32 (ann := A32) (args := [(Value.slice lp_ ln_ lc_), (Value.int .i64 n_)]) (by kernel_rfl) (Eq.mpr (by kernel_rfl) H)
/-- turnout/sums.takes -/
def A33 : Ann := (.seq .nil (.seq (.seq .nil (.block (.loop [(0, (.int .u32)), (8, (.int .i64))] (.seq .nil (.seq (.cond .nil .nil) (.seq (.block (.seq .nil (.seq .nil (.seq .nil .nil)))) .nil)))))) (.seq .nil .nil)))
theorem V33 (r_ : Int) (b_ : ByteArray) (h : Hp) (R : Ending → Hp → Prop) (H :
  ∃ (Iv_ : List Value → Hp → Prop) (m_ : List Value → Hp → Nat), Iv_ [(Value.int .u32 r_), (Value.int .i64 (0 : Int))] h ∧
  (∀ (r_1 : Int) (x8_ : Int) hp_, Iv_ [(Value.int .u32 r_1), (Value.int .i64 x8_)] hp_ →
   (((decide (x8_ < (ByteArray.size b_ : Int))) = true →
     0 ≤ x8_ ∧ ∃ x14_ : UInt8, b_[Int.toNat x8_]? = some x14_ ∧
     ∃ x15_, IntKind.u32.wrap (x14_.toNat : Int) = x15_ ∧
     ∃ x16_, xorI .u32 r_1 x15_ = x16_ ∧
     0 ≤ (4 : Int) ∧ ∃ x18_, shrI .u32 x16_ (4 : Int) = x18_ ∧
     ∃ x20_, andI .u32 x16_ (15 : Int) = x20_ ∧
     0 ≤ x20_ ∧ x20_ < ((16 : Nat) : Int) ∧
     ∃ x22_ : Int, cellsAt hp_ 0 (0 + Int.toNat x20_ * 1) [(Value.int .u32 x22_)] ∧
     ∃ x23_, xorI .u32 x18_ x22_ = x23_ ∧
     0 ≤ (4 : Int) ∧ ∃ x25_, shrI .u32 x23_ (4 : Int) = x25_ ∧
     ∃ x27_, andI .u32 x23_ (15 : Int) = x27_ ∧
     0 ≤ x27_ ∧ x27_ < ((16 : Nat) : Int) ∧
     ∃ x29_ : Int, cellsAt hp_ 0 (0 + Int.toNat x27_ * 1) [(Value.int .u32 x29_)] ∧
     ∃ x30_, xorI .u32 x25_ x29_ = x30_ ∧
     ∃ x31_, IntKind.i64.wrap (x8_ + (1 : Int)) = x31_ ∧
     (Iv_ [(Value.int .u32 x30_), (Value.int .i64 x31_)] hp_ ∧ m_ [(Value.int .u32 x30_), (Value.int .i64 x31_)] hp_ < m_ [(Value.int .u32 r_1), (Value.int .i64 x8_)] hp_)) ∧
    ((decide (x8_ < (ByteArray.size b_ : Int))) = false →
     R (.returned (Value.int .u32 r_1)) hp_)))) :
  CallsH Tryd.prog 33 #[(Value.int .u32 r_), (Value.string b_)] h R := calls_vc fine false Tryd.func33 (ann := A33) (args := [(Value.int .u32 r_), (Value.string b_)]) (by kernel_rfl) (Eq.mpr (by kernel_rfl) H)
/-- turnout/turnoutref02.takes -/
def A34 : Ann := (.seq .nil (.seq (.seq .nil (.block (.loop [(0, (.int .u32)), (5, (.int .i64))] (.seq (.seq .nil (.cond .nil .nil)) (.seq (.block (.seq .nil (.seq .nil (.block (.loop [(0, (.int .u32)), (6, (.int .i64))] (.seq (.seq .nil (.cond .nil .nil)) (.seq (.block .nil) .nil))))))) .nil))))) (.seq .nil .nil)))
theorem V34 (r_ : Int) (b_ : ByteArray) (h : Hp) (R : Ending → Hp → Prop) (H :
  ∃ (Iv_ : List Value → Hp → Prop) (m_ : List Value → Hp → Nat), Iv_ [(Value.int .u32 r_), (Value.int .i64 (0 : Int))] h ∧
  (∀ (r_1 : Int) (i_ : Int) hp_, Iv_ [(Value.int .u32 r_1), (Value.int .i64 i_)] hp_ →
   (((decide (i_ < (ByteArray.size b_ : Int))) = true →
     0 ≤ i_ ∧ ∃ x16_ : UInt8, b_[Int.toNat i_]? = some x16_ ∧
     ∃ x17_, IntKind.u32.wrap (x16_.toNat : Int) = x17_ ∧
     ∃ x18_, xorI .u32 r_1 x17_ = x18_ ∧
     ∃ (Iv_1 : List Value → Hp → Prop) (m_1 : List Value → Hp → Nat), Iv_1 [(Value.int .u32 x18_), (Value.int .i64 (0 : Int))] hp_ ∧
     (∀ (r_2 : Int) (k_ : Int) hp_1, Iv_1 [(Value.int .u32 r_2), (Value.int .i64 k_)] hp_1 →
      (((decide (k_ < (8 : Int))) = true →
        CallsH Tryd.prog 43 #[(Value.int .u32 r_2)] hp_1 fun en_ hp_2 =>
        ∃ x24_ : Int, en_ = .returned (Value.int .u32 x24_) ∧
        ∃ x22_, IntKind.i64.wrap (k_ + (1 : Int)) = x22_ ∧
        (Iv_1 [(Value.int .u32 x24_), (Value.int .i64 x22_)] hp_2 ∧ m_1 [(Value.int .u32 x24_), (Value.int .i64 x22_)] hp_2 < m_1 [(Value.int .u32 r_2), (Value.int .i64 k_)] hp_1)) ∧
       ((decide (k_ < (8 : Int))) = false →
        ∃ x12_, IntKind.i64.wrap (i_ + (1 : Int)) = x12_ ∧
        (Iv_ [(Value.int .u32 r_2), (Value.int .i64 x12_)] hp_1 ∧ m_ [(Value.int .u32 r_2), (Value.int .i64 x12_)] hp_1 < m_ [(Value.int .u32 r_1), (Value.int .i64 i_)] hp_))))) ∧
    ((decide (i_ < (ByteArray.size b_ : Int))) = false →
     R (.returned (Value.int .u32 r_1)) hp_)))) :
  CallsH Tryd.prog 34 #[(Value.int .u32 r_), (Value.string b_)] h R := calls_vc fine false Tryd.func34 (ann := A34) (args := [(Value.int .u32 r_), (Value.string b_)]) (by kernel_rfl) (Eq.mpr (by kernel_rfl) H)
/-- turnout/turnoutref02.over -/
def A35 : Ann := (.seq .nil (.seq .nil .nil))
theorem V35 (r_ : Int) (h : Hp) (R : Ending → Hp → Prop) (H :
  ∃ x4_, IntKind.u32.wrap ((4294967295 : Int) - r_) = x4_ ∧
  R (.returned (Value.int .u32 x4_)) h) :
  CallsH Tryd.prog 35 #[(Value.int .u32 r_)] h R := calls_vc fine false Tryd.func35 (ann := A35) (args := [(Value.int .u32 r_)]) (by kernel_rfl) (Eq.mpr (by kernel_rfl) H)
/-- turnout/sums.folded -/
def A36 : Ann := (.seq .nil (.seq (.block (.loop [(0, (.int .u64))] (.seq (.seq .nil (.cond .nil .nil)) (.block .nil)))) (.seq .nil .nil)))
theorem V36 (n_ : Int) (h : Hp) (R : Ending → Hp → Prop) (H :
  ∃ (Iv_ : List Value → Hp → Prop) (m_ : List Value → Hp → Nat), Iv_ [(Value.int .u64 n_)] h ∧
  (∀ (n_1 : Int) hp_, Iv_ [(Value.int .u64 n_1)] hp_ →
   (((decide ((65535 : Int) < n_1)) = true →
     0 ≤ (16 : Int) ∧ ∃ x6_, shrI .u64 n_1 (16 : Int) = x6_ ∧
     ∃ x8_, andI .u64 n_1 (65535 : Int) = x8_ ∧
     ∃ x9_, IntKind.u64.wrap (x6_ + x8_) = x9_ ∧
     (Iv_ [(Value.int .u64 x9_)] hp_ ∧ m_ [(Value.int .u64 x9_)] hp_ < m_ [(Value.int .u64 n_1)] hp_)) ∧
    ((decide ((65535 : Int) < n_1)) = false →
     ∃ x11_, IntKind.u16.wrap n_1 = x11_ ∧
     R (.returned (Value.int .u16 x11_)) hp_)))) :
  CallsH Tryd.prog 36 #[(Value.int .u64 n_)] h R := calls_vc fine false Tryd.func36 (ann := A36) (args := [(Value.int .u64 n_)]) (by kernel_rfl) (Eq.mpr (by kernel_rfl) H)
/-- turnout/turnoutref02.folded -/
def A37 : Ann := (.seq .nil (.seq (.block (.loop [(0, (.int .i64))] (.seq (.seq .nil (.cond .nil .nil)) (.block .nil)))) (.seq .nil .nil)))
theorem V37 (n_ : Int) (h : Hp) (R : Ending → Hp → Prop) (H :
  ∃ (Iv_ : List Value → Hp → Prop) (m_ : List Value → Hp → Nat), Iv_ [(Value.int .i64 n_)] h ∧
  (∀ (n_1 : Int) hp_, Iv_ [(Value.int .i64 n_1)] hp_ →
   (((decide ((65535 : Int) < n_1)) = true →
     (65536 : Int) ≠ 0 ∧ ∃ x6_, IntKind.i64.wrap (Int.tdiv n_1 (65536 : Int)) = x6_ ∧
     (65536 : Int) ≠ 0 ∧ ∃ x8_, Int.tmod n_1 (65536 : Int) = x8_ ∧
     ∃ x9_, IntKind.i64.wrap (x6_ + x8_) = x9_ ∧
     (Iv_ [(Value.int .i64 x9_)] hp_ ∧ m_ [(Value.int .i64 x9_)] hp_ < m_ [(Value.int .i64 n_1)] hp_)) ∧
    ((decide ((65535 : Int) < n_1)) = false →
     R (.returned (Value.int .i64 n_1)) hp_)))) :
  CallsH Tryd.prog 37 #[(Value.int .i64 n_)] h R := calls_vc fine false Tryd.func37 (ann := A37) (args := [(Value.int .i64 n_)]) (by kernel_rfl) (Eq.mpr (by kernel_rfl) H)
/-- turnout/sums.eight -/
def A38 : Ann := (.seq .nil (.seq .nil (.seq (.seq .nil (.block (.loop [(6, (.int .i64))] (.seq .nil (.seq (.cond .nil .nil) (.seq (.block (.seq .nil (.seq .nil (.seq (.seq .nil (.block (.loop [(5, (.int .u32)), (11, (.int .i64))] (.seq .nil (.seq (.cond .nil .nil) (.seq (.block .nil) .nil)))))) .nil)))) .nil)))))) (.seq .nil .nil))))
theorem V38 (turn_ : Value) (h : Hp) (R : Ending → Hp → Prop) (H :
  ∀ b_ hp_, b_ = Array.size h → hp_ = Array.push h (.cells (zeros Tryd.prog 64) 64) → (∃ i z, Tryd.prog.info? 64 = some i ∧ i.zero = some z) ∧
  ∀ b_1 hp_1, b_1 = Array.size hp_ → hp_1 = Array.push hp_ (.cells (zeros Tryd.prog 64) 64) → (∃ i z, Tryd.prog.info? 64 = some i ∧ i.zero = some z) ∧
  ∃ (Iv_ : List Value → Hp → Prop) (m_ : List Value → Hp → Nat), Iv_ [(Value.int .i64 (0 : Int))] hp_1 ∧
  (∀ (x6_ : Int) hp_2, Iv_ [(Value.int .i64 x6_)] hp_2 →
   (((decide (x6_ < (32 : Int))) = true →
     0 ≤ x6_ ∧ ∃ x10_, shlI .u32 (1 : Int) x6_ = x10_ ∧
     ∃ (Iv_1 : List Value → Hp → Prop) (m_1 : List Value → Hp → Nat), Iv_1 [(Value.int .u32 x10_), (Value.int .i64 (0 : Int))] hp_2 ∧
     (∀ (r_ : Int) (x11_ : Int) hp_3, Iv_1 [(Value.int .u32 r_), (Value.int .i64 x11_)] hp_3 →
      (((decide (x11_ < (8 : Int))) = true →
        ∃ fn_ fst_ cap_, turn_ = Value.func (.func fn_) fst_ cap_ ∧ bodied Tryd.prog fn_ = true ∧
        CallsH Tryd.prog fn_ (fst_.toList ++ [(Value.int .u32 r_)] ++ cap_.toList).toArray hp_3 fun en_ hp_4 =>
        ∃ x15_ : Int, en_ = .returned (Value.int .u32 x15_) ∧
        ∃ x16_, IntKind.i64.wrap (x11_ + (1 : Int)) = x16_ ∧
        (Iv_1 [(Value.int .u32 x15_), (Value.int .i64 x16_)] hp_4 ∧ m_1 [(Value.int .u32 x15_), (Value.int .i64 x16_)] hp_4 < m_1 [(Value.int .u32 r_), (Value.int .i64 x11_)] hp_3)) ∧
       ((decide (x11_ < (8 : Int))) = false →
        0 ≤ x6_ ∧ x6_ < ((32 : Nat) : Int) ∧
        Value.oneCell' (Value.int .u32 r_) = true ∧ wrAt hp_3 b_1 (0 + Int.toNat x6_ * 1) 1 ∧ ∀ hp_5, hp_5 = setsH hp_3 b_1 (0 + Int.toNat x6_ * 1) [(Value.int .u32 r_)] →
        ∃ x20_, IntKind.i64.wrap (x6_ + (1 : Int)) = x20_ ∧
        (Iv_ [(Value.int .i64 x20_)] hp_5 ∧ m_ [(Value.int .i64 x20_)] hp_5 < m_ [(Value.int .i64 x6_)] hp_2))))) ∧
    ((decide (x6_ < (32 : Int))) = false →
     ∃ x21z_ : List Int, x21z_.length = 32 ∧ cellsAt hp_2 b_1 0 (x21z_.map (Value.int .u32)) ∧
     List.length (x21z_.map (Value.int .u32)) = 32 ∧ (∀ c ∈ (x21z_.map (Value.int .u32)), c.oneCell' = true) ∧ wrAt hp_2 b_ 0 32 ∧ ∀ hp_6, hp_6 = setsH hp_2 b_ 0 (x21z_.map (Value.int .u32)) →
     ∃ resz_ : List Int, resz_.length = 32 ∧ cellsAt hp_6 b_ 0 (resz_.map (Value.int .u32)) ∧
     R (.returned (Value.agg (resz_.map (Value.int .u32)).toArray)) hp_6)))) :
  CallsH Tryd.prog 38 #[turn_] h R := calls_vc fine false Tryd.func38 (ann := A38) (args := [turn_]) (by kernel_rfl) (Eq.mpr (by kernel_rfl) H)
/-- turnout/sums.back -/
def A39 : Ann := (.seq .nil (.seq (.seq .nil (.cond (.seq .nil .nil) .nil)) (.seq .nil .nil)))
theorem V39 (r_ : Int) (h : Hp) (R : Ending → Hp → Prop) (H :
  0 ≤ (31 : Int) ∧ ∃ x4_, shrI .u32 r_ (31 : Int) = x4_ ∧
  (((decide (x4_ = (1 : Int))) = true →
    ∃ x7_, xorI .u32 r_ (3988292384 : Int) = x7_ ∧
    0 ≤ (1 : Int) ∧ ∃ x8_, shlI .u32 x7_ (1 : Int) = x8_ ∧
    ∃ x9_, orI .u32 x8_ (1 : Int) = x9_ ∧
    R (.returned (Value.int .u32 x9_)) h) ∧
   ((decide (x4_ = (1 : Int))) = false →
    0 ≤ (1 : Int) ∧ ∃ x11_, shlI .u32 r_ (1 : Int) = x11_ ∧
    R (.returned (Value.int .u32 x11_)) h))) :
  CallsH Tryd.prog 39 #[(Value.int .u32 r_)] h R := calls_vc fine false Tryd.func39 (ann := A39) (args := [(Value.int .u32 r_)]) (by kernel_rfl) (Eq.mpr (by kernel_rfl) H)
/-- (turnout/sums.turns).times -/
def A40 : Ann := (.seq .nil (.seq (.block (.loop [(1, (.int .u32)), (2, (.int .i64))] (.seq (.seq .nil (.cond .nil .nil)) (.block (.seq (.seq .nil (.cond .nil .nil)) (.seq .nil .nil)))))) (.seq .nil .nil)))
theorem V40 (t_ : List Int) (r_ : Int) (n_ : Int) (h : Hp) (R : Ending → Hp → Prop) (H :
  ∀ b_ hp_, b_ = Array.size h → hp_ = Array.push h (.cells (t_.map (Value.int .u32)).toArray 64) →
  ∃ (Iv_ : List Value → Hp → Prop) (m_ : List Value → Hp → Nat), Iv_ [(Value.int .u32 r_), (Value.int .i64 n_)] hp_ ∧
  (∀ (r_1 : Int) (n_1 : Int) hp_1, Iv_ [(Value.int .u32 r_1), (Value.int .i64 n_1)] hp_1 →
   (((decide ((0 : Int) < n_1)) = true →
     ∃ x10_, andI .i64 n_1 (1 : Int) = x10_ ∧
     (((decide (x10_ = (1 : Int))) = true →
       ∃ x12z_ : List Int, x12z_.length = 32 ∧ cellsAt hp_1 b_ 0 (x12z_.map (Value.int .u32)) ∧
       CallsH Tryd.prog 44 #[(Value.agg (x12z_.map (Value.int .u32)).toArray), (Value.int .u32 r_1)] hp_1 fun en_ hp_2 =>
       ∃ x14_ : Int, en_ = .returned (Value.int .u32 x14_) ∧
       ∃ x15z_ : List Int, x15z_.length = 32 ∧ cellsAt hp_2 b_ 0 (x15z_.map (Value.int .u32)) ∧
       CallsH Tryd.prog 45 #[(Value.agg (x15z_.map (Value.int .u32)).toArray)] hp_2 fun en_1 hp_3 =>
       ∃ x16z_ : List Int, x16z_.length = 32 ∧ en_1 = .returned (Value.agg (x16z_.map (Value.int .u32)).toArray) ∧
       List.length (x16z_.map (Value.int .u32)) = 32 ∧ (∀ c ∈ (x16z_.map (Value.int .u32)), c.oneCell' = true) ∧ wrAt hp_3 b_ 0 32 ∧ ∀ hp_4, hp_4 = setsH hp_3 b_ 0 (x16z_.map (Value.int .u32)) →
       0 ≤ (1 : Int) ∧ ∃ x18_, shrI .i64 n_1 (1 : Int) = x18_ ∧
       (Iv_ [(Value.int .u32 x14_), (Value.int .i64 x18_)] hp_4 ∧ m_ [(Value.int .u32 x14_), (Value.int .i64 x18_)] hp_4 < m_ [(Value.int .u32 r_1), (Value.int .i64 n_1)] hp_1)) ∧
      ((decide (x10_ = (1 : Int))) = false →
       ∃ x15z_1 : List Int, x15z_1.length = 32 ∧ cellsAt hp_1 b_ 0 (x15z_1.map (Value.int .u32)) ∧
       CallsH Tryd.prog 45 #[(Value.agg (x15z_1.map (Value.int .u32)).toArray)] hp_1 fun en_2 hp_5 =>
       ∃ x16z_1 : List Int, x16z_1.length = 32 ∧ en_2 = .returned (Value.agg (x16z_1.map (Value.int .u32)).toArray) ∧
       List.length (x16z_1.map (Value.int .u32)) = 32 ∧ (∀ c ∈ (x16z_1.map (Value.int .u32)), c.oneCell' = true) ∧ wrAt hp_5 b_ 0 32 ∧ ∀ hp_6, hp_6 = setsH hp_5 b_ 0 (x16z_1.map (Value.int .u32)) →
       0 ≤ (1 : Int) ∧ ∃ x18_1, shrI .i64 n_1 (1 : Int) = x18_1 ∧
       (Iv_ [(Value.int .u32 r_1), (Value.int .i64 x18_1)] hp_6 ∧ m_ [(Value.int .u32 r_1), (Value.int .i64 x18_1)] hp_6 < m_ [(Value.int .u32 r_1), (Value.int .i64 n_1)] hp_1)))) ∧
    ((decide ((0 : Int) < n_1)) = false →
     R (.returned (Value.int .u32 r_1)) hp_1)))) :
  CallsH Tryd.prog 40 #[(Value.agg (t_.map (Value.int .u32)).toArray), (Value.int .u32 r_), (Value.int .i64 n_)] h R := calls_vc fine false Tryd.func40 (ann := A40) (args := [(Value.agg (t_.map (Value.int .u32)).toArray), (Value.int .u32 r_), (Value.int .i64 n_)]) (by kernel_rfl) (Eq.mpr (by kernel_rfl) H)
/-- turnout/sums.ahead -/
def A41 : Ann := (.seq .nil (.seq (.seq .nil (.cond (.seq .nil .nil) .nil)) (.seq .nil .nil)))
theorem V41 (r_ : Int) (h : Hp) (R : Ending → Hp → Prop) (H :
  ∃ x4_, andI .u32 r_ (1 : Int) = x4_ ∧
  (((decide (x4_ = (1 : Int))) = true →
    0 ≤ (1 : Int) ∧ ∃ x7_, shrI .u32 r_ (1 : Int) = x7_ ∧
    ∃ x8_, xorI .u32 x7_ (3988292384 : Int) = x8_ ∧
    R (.returned (Value.int .u32 x8_)) h) ∧
   ((decide (x4_ = (1 : Int))) = false →
    0 ≤ (1 : Int) ∧ ∃ x10_, shrI .u32 r_ (1 : Int) = x10_ ∧
    R (.returned (Value.int .u32 x10_)) h))) :
  CallsH Tryd.prog 41 #[(Value.int .u32 r_)] h R := calls_vc fine false Tryd.func41 (ann := A41) (args := [(Value.int .u32 r_)]) (by kernel_rfl) (Eq.mpr (by kernel_rfl) H)
/-- turnout/turnoutref02.far -/
def A42 : Ann := (.seq .nil (.seq .nil (.seq .nil (.seq (.seq .nil (.block (.loop [(7, .slice), (8, (.int .u32)), (9, (.int .i64))] (.seq (.seq .nil (.cond .nil .nil)) (.seq (.block (.seq .nil (.seq (.seq .nil (.block (.loop [(10, (.int .u32)), (11, (.int .i64))] (.seq (.seq .nil (.cond .nil .nil)) (.seq (.block (.seq .nil (.cond .nil .nil))) .nil))))) (.seq .nil .nil)))) .nil))))) (.seq (.block (.loop [(0, (.int .u32)), (1, (.int .i64)), (7, .slice)] (.seq (.seq .nil (.cond .nil .nil)) (.block (.cut (.seq .nil (.cond .nil .nil)) [(0, (.int .u32))] (.seq .nil (.seq (.seq .nil (.block (.loop [(12, .slice), (13, (.int .i64))] (.seq (.seq .nil (.cond .nil .nil)) (.seq (.block (.seq .nil .nil)) .nil))))) (.seq .nil .nil)))))))) (.seq .nil .nil))))))
theorem V42 (r_ : Int) (n_ : Int) (back_ : Bool) (h : Hp) (R : Ending → Hp → Prop) (H :
  ∃ (Iv_ : List Value → Hp → Prop) (m_ : List Value → Hp → Nat), Iv_ [(Value.slice none 0 0), (Value.int .u32 (1 : Int)), (Value.int .i64 (0 : Int))] h ∧
  (∀ (bitsp_ : Option Addr) (bitsn_ bitsc_ : Nat) (one_ : Int) (i_ : Int) hp_, Iv_ [(Value.slice bitsp_ bitsn_ bitsc_), (Value.int .u32 one_), (Value.int .i64 i_)] hp_ →
   (((decide (i_ < (32 : Int))) = true →
     ∃ (Iv_1 : List Value → Hp → Prop) (m_1 : List Value → Hp → Nat), Iv_1 [(Value.int .u32 one_), (Value.int .i64 (0 : Int))] hp_ ∧
     (∀ (x_ : Int) (k_ : Int) hp_1, Iv_1 [(Value.int .u32 x_), (Value.int .i64 k_)] hp_1 →
      (((decide (k_ < (8 : Int))) = true →
        ((back_ = true →
          CallsH Tryd.prog 46 #[(Value.int .u32 x_)] hp_1 fun en_ hp_2 =>
          ∃ x26_ : Int, en_ = .returned (Value.int .u32 x26_) ∧
          ∃ x23_, IntKind.i64.wrap (k_ + (1 : Int)) = x23_ ∧
          (Iv_1 [(Value.int .u32 x26_), (Value.int .i64 x23_)] hp_2 ∧ m_1 [(Value.int .u32 x26_), (Value.int .i64 x23_)] hp_2 < m_1 [(Value.int .u32 x_), (Value.int .i64 k_)] hp_1)) ∧
         (back_ = false →
          CallsH Tryd.prog 43 #[(Value.int .u32 x_)] hp_1 fun en_1 hp_3 =>
          ∃ x28_ : Int, en_1 = .returned (Value.int .u32 x28_) ∧
          ∃ x23_1, IntKind.i64.wrap (k_ + (1 : Int)) = x23_1 ∧
          (Iv_1 [(Value.int .u32 x28_), (Value.int .i64 x23_1)] hp_3 ∧ m_1 [(Value.int .u32 x28_), (Value.int .i64 x23_1)] hp_3 < m_1 [(Value.int .u32 x_), (Value.int .i64 k_)] hp_1)))) ∧
       ((decide (k_ < (8 : Int))) = false →
        SemH Tryd.prog (Instr.buildSlice 70 1 #[(0, (Value.int .u32 x_))]) hp_1 fun v_ hp_4 =>
        ∃ (x31p_ : Option Addr) (x31n_ x31c_ : Nat), v_ = (Value.slice x31p_ x31n_ x31c_) ∧
        SemH Tryd.prog (Builtin.append_ #[70, 70] 70 #[(Value.slice bitsp_ bitsn_ bitsc_), (Value.slice x31p_ x31n_ x31c_)]) hp_4 fun v_1 hp_5 =>
        ∃ (x32p_ : Option Addr) (x32n_ x32c_ : Nat), v_1 = (Value.slice x32p_ x32n_ x32c_) ∧
        ∃ x34_, IntKind.u32.wrap ((2 : Int) * one_) = x34_ ∧
        ∃ x18_, IntKind.i64.wrap (i_ + (1 : Int)) = x18_ ∧
        (Iv_ [(Value.slice x32p_ x32n_ x32c_), (Value.int .u32 x34_), (Value.int .i64 x18_)] hp_5 ∧ m_ [(Value.slice x32p_ x32n_ x32c_), (Value.int .u32 x34_), (Value.int .i64 x18_)] hp_5 < m_ [(Value.slice bitsp_ bitsn_ bitsc_), (Value.int .u32 one_), (Value.int .i64 i_)] hp_))))) ∧
    ((decide (i_ < (32 : Int))) = false →
     ∃ (Iv_2 : List Value → Hp → Prop) (m_2 : List Value → Hp → Nat), Iv_2 [(Value.int .u32 r_), (Value.int .i64 n_), (Value.slice bitsp_ bitsn_ bitsc_)] hp_ ∧
     (∀ (r_1 : Int) (n_1 : Int) (bitsp_1 : Option Addr) (bitsn_1 bitsc_1 : Nat) hp_6, Iv_2 [(Value.int .u32 r_1), (Value.int .i64 n_1), (Value.slice bitsp_1 bitsn_1 bitsc_1)] hp_6 →
      (((decide ((0 : Int) < n_1)) = true →
        ∃ Jv_ : List Value → Hp → Prop,
        ((2 : Int) ≠ 0 ∧ ∃ x38_, Int.tmod n_1 (2 : Int) = x38_ ∧
         (((decide (x38_ = (1 : Int))) = true →
           CallsH Tryd.prog 47 #[(Value.slice bitsp_1 bitsn_1 bitsc_1), (Value.int .u32 r_1)] hp_6 fun en_2 hp_7 =>
           ∃ x42_ : Int, en_2 = .returned (Value.int .u32 x42_) ∧
           Jv_ [(Value.int .u32 x42_)] hp_7) ∧
          ((decide (x38_ = (1 : Int))) = false →
           Jv_ [(Value.int .u32 r_1)] hp_6))) ∧
        (∀ (r_2 : Int) hp_8, Jv_ [(Value.int .u32 r_2)] hp_8 →
         ∃ (Iv_3 : List Value → Hp → Prop) (m_3 : List Value → Hp → Nat), Iv_3 [(Value.slice none 0 0), (Value.int .i64 (0 : Int))] hp_8 ∧
         (∀ (bothp_ : Option Addr) (bothn_ bothc_ : Nat) (i_1 : Int) hp_9, Iv_3 [(Value.slice bothp_ bothn_ bothc_), (Value.int .i64 i_1)] hp_9 →
          (((decide (i_1 < (32 : Int))) = true →
            ∃ b_ o_, bitsp_1 = some ⟨b_, o_, none⟩ ∧ 0 ≤ i_1 ∧ i_1 < (bitsn_1 : Int) ∧
            ∃ x51_ : Int, cellsAt hp_9 b_ (o_ + Int.toNat i_1 * 1) [(Value.int .u32 x51_)] ∧
            CallsH Tryd.prog 47 #[(Value.slice bitsp_1 bitsn_1 bitsc_1), (Value.int .u32 x51_)] hp_9 fun en_3 hp_10 =>
            ∃ x52_ : Int, en_3 = .returned (Value.int .u32 x52_) ∧
            SemH Tryd.prog (Instr.buildSlice 70 1 #[(0, (Value.int .u32 x52_))]) hp_10 fun v_2 hp_11 =>
            ∃ (x55p_ : Option Addr) (x55n_ x55c_ : Nat), v_2 = (Value.slice x55p_ x55n_ x55c_) ∧
            SemH Tryd.prog (Builtin.append_ #[70, 70] 70 #[(Value.slice bothp_ bothn_ bothc_), (Value.slice x55p_ x55n_ x55c_)]) hp_11 fun v_3 hp_12 =>
            ∃ (x56p_ : Option Addr) (x56n_ x56c_ : Nat), v_3 = (Value.slice x56p_ x56n_ x56c_) ∧
            ∃ x46_, IntKind.i64.wrap (i_1 + (1 : Int)) = x46_ ∧
            (Iv_3 [(Value.slice x56p_ x56n_ x56c_), (Value.int .i64 x46_)] hp_12 ∧ m_3 [(Value.slice x56p_ x56n_ x56c_), (Value.int .i64 x46_)] hp_12 < m_3 [(Value.slice bothp_ bothn_ bothc_), (Value.int .i64 i_1)] hp_9)) ∧
           ((decide (i_1 < (32 : Int))) = false →
            (2 : Int) ≠ 0 ∧ ∃ x59_, IntKind.i64.wrap (Int.tdiv n_1 (2 : Int)) = x59_ ∧
            (Iv_2 [(Value.int .u32 r_2), (Value.int .i64 x59_), (Value.slice bothp_ bothn_ bothc_)] hp_9 ∧ m_2 [(Value.int .u32 r_2), (Value.int .i64 x59_), (Value.slice bothp_ bothn_ bothc_)] hp_9 < m_2 [(Value.int .u32 r_1), (Value.int .i64 n_1), (Value.slice bitsp_1 bitsn_1 bitsc_1)] hp_6)))))) ∧
       ((decide ((0 : Int) < n_1)) = false →
        R (.returned (Value.int .u32 r_1)) hp_6))))))) :
  CallsH Tryd.prog 42 #[(Value.int .u32 r_), (Value.int .i64 n_), (Value.bool back_)] h R := calls_vc fine false Tryd.func42 (ann := A42) (args := [(Value.int .u32 r_), (Value.int .i64 n_), (Value.bool back_)]) (by kernel_rfl) (Eq.mpr (by kernel_rfl) H)
/-- turnout/turnoutref02.turn -/
def A43 : Ann := (.seq .nil (.seq (.seq .nil (.cond (.seq .nil .nil) .nil)) (.seq .nil .nil)))
theorem V43 (r_ : Int) (h : Hp) (R : Ending → Hp → Prop) (H :
  (2 : Int) ≠ 0 ∧ ∃ x4_, Int.tmod r_ (2 : Int) = x4_ ∧
  (((decide (x4_ = (1 : Int))) = true →
    (2 : Int) ≠ 0 ∧ ∃ x7_, IntKind.u32.wrap (Int.tdiv r_ (2 : Int)) = x7_ ∧
    ∃ x8_, xorI .u32 x7_ (3988292384 : Int) = x8_ ∧
    R (.returned (Value.int .u32 x8_)) h) ∧
   ((decide (x4_ = (1 : Int))) = false →
    (2 : Int) ≠ 0 ∧ ∃ x10_, IntKind.u32.wrap (Int.tdiv r_ (2 : Int)) = x10_ ∧
    R (.returned (Value.int .u32 x10_)) h))) :
  CallsH Tryd.prog 43 #[(Value.int .u32 r_)] h R := calls_vc fine false Tryd.func43 (ann := A43) (args := [(Value.int .u32 r_)]) (by kernel_rfl) (Eq.mpr (by kernel_rfl) H)
/-- (turnout/sums.turns).on -/
def A44 : Ann := (.seq .nil (.seq .nil (.seq (.seq .nil (.block (.loop [(5, (.int .u32)), (7, (.int .i64))] (.seq .nil (.seq (.cond .nil .nil) (.seq (.block (.seq .nil (.seq .nil (.cond .nil .nil)))) .nil)))))) (.seq .nil .nil))))
theorem V44 (t_ : List Int) (r_ : Int) (h : Hp) (R : Ending → Hp → Prop) (H :
  ∀ b_ hp_, b_ = Array.size h → hp_ = Array.push h (.cells (t_.map (Value.int .u32)).toArray 64) →
  ∃ (Iv_ : List Value → Hp → Prop) (m_ : List Value → Hp → Nat), Iv_ [(Value.int .u32 (0 : Int)), (Value.int .i64 (0 : Int))] hp_ ∧
  (∀ (out_ : Int) (x7_ : Int) hp_1, Iv_ [(Value.int .u32 out_), (Value.int .i64 x7_)] hp_1 →
   (((decide (x7_ < (32 : Int))) = true →
     0 ≤ x7_ ∧ ∃ x12_, shrI .u32 r_ x7_ = x12_ ∧
     ∃ x13_, andI .u32 x12_ (1 : Int) = x13_ ∧
     (((decide (x13_ = (1 : Int))) = true →
       0 ≤ x7_ ∧ x7_ < ((32 : Nat) : Int) ∧
       ∃ x18_ : Int, cellsAt hp_1 b_ (0 + Int.toNat x7_ * 1) [(Value.int .u32 x18_)] ∧
       ∃ x19_, xorI .u32 out_ x18_ = x19_ ∧
       ∃ x20_, IntKind.i64.wrap (x7_ + (1 : Int)) = x20_ ∧
       (Iv_ [(Value.int .u32 x19_), (Value.int .i64 x20_)] hp_1 ∧ m_ [(Value.int .u32 x19_), (Value.int .i64 x20_)] hp_1 < m_ [(Value.int .u32 out_), (Value.int .i64 x7_)] hp_1)) ∧
      ((decide (x13_ = (1 : Int))) = false →
       ∃ x20_1, IntKind.i64.wrap (x7_ + (1 : Int)) = x20_1 ∧
       (Iv_ [(Value.int .u32 out_), (Value.int .i64 x20_1)] hp_1 ∧ m_ [(Value.int .u32 out_), (Value.int .i64 x20_1)] hp_1 < m_ [(Value.int .u32 out_), (Value.int .i64 x7_)] hp_1)))) ∧
    ((decide (x7_ < (32 : Int))) = false →
     R (.returned (Value.int .u32 out_)) hp_1)))) :
  CallsH Tryd.prog 44 #[(Value.agg (t_.map (Value.int .u32)).toArray), (Value.int .u32 r_)] h R := calls_vc fine false Tryd.func44 (ann := A44) (args := [(Value.agg (t_.map (Value.int .u32)).toArray), (Value.int .u32 r_)]) (by kernel_rfl) (Eq.mpr (by kernel_rfl) H)
/-- (turnout/sums.turns).twice -/
def A45 : Ann := (.seq .nil (.seq .nil (.seq (.seq .nil (.block (.loop [(5, (.int .i64))] (.seq .nil (.seq (.cond .nil .nil) (.seq (.block (.seq .nil .nil)) .nil)))))) (.seq .nil .nil))))
theorem V45 (t_ : List Int) (h : Hp) (R : Ending → Hp → Prop) (H :
  ∀ b_ hp_, b_ = Array.size h → hp_ = Array.push h (.cells (t_.map (Value.int .u32)).toArray 64) →
  ∀ b_1 hp_1, b_1 = Array.size hp_ → hp_1 = Array.push hp_ (.cells (zeros Tryd.prog 64) 64) → (∃ i z, Tryd.prog.info? 64 = some i ∧ i.zero = some z) ∧
  ∀ b_2 hp_2, b_2 = Array.size hp_1 → hp_2 = Array.push hp_1 (.cells (zeros Tryd.prog 64) 64) → (∃ i z, Tryd.prog.info? 64 = some i ∧ i.zero = some z) ∧
  ∃ (Iv_ : List Value → Hp → Prop) (m_ : List Value → Hp → Nat), Iv_ [(Value.int .i64 (0 : Int))] hp_2 ∧
  (∀ (x5_ : Int) hp_3, Iv_ [(Value.int .i64 x5_)] hp_3 →
   (((decide (x5_ < (32 : Int))) = true →
     ∃ x9z_ : List Int, x9z_.length = 32 ∧ cellsAt hp_3 b_ 0 (x9z_.map (Value.int .u32)) ∧
     0 ≤ x5_ ∧ x5_ < ((32 : Nat) : Int) ∧
     ∃ x12_ : Int, cellsAt hp_3 b_ (0 + Int.toNat x5_ * 1) [(Value.int .u32 x12_)] ∧
     CallsH Tryd.prog 44 #[(Value.agg (x9z_.map (Value.int .u32)).toArray), (Value.int .u32 x12_)] hp_3 fun en_ hp_4 =>
     ∃ x13_ : Int, en_ = .returned (Value.int .u32 x13_) ∧
     0 ≤ x5_ ∧ x5_ < ((32 : Nat) : Int) ∧
     Value.oneCell' (Value.int .u32 x13_) = true ∧ wrAt hp_4 b_2 (0 + Int.toNat x5_ * 1) 1 ∧ ∀ hp_5, hp_5 = setsH hp_4 b_2 (0 + Int.toNat x5_ * 1) [(Value.int .u32 x13_)] →
     ∃ x15_, IntKind.i64.wrap (x5_ + (1 : Int)) = x15_ ∧
     (Iv_ [(Value.int .i64 x15_)] hp_5 ∧ m_ [(Value.int .i64 x15_)] hp_5 < m_ [(Value.int .i64 x5_)] hp_3)) ∧
    ((decide (x5_ < (32 : Int))) = false →
     ∃ x16z_ : List Int, x16z_.length = 32 ∧ cellsAt hp_3 b_2 0 (x16z_.map (Value.int .u32)) ∧
     List.length (x16z_.map (Value.int .u32)) = 32 ∧ (∀ c ∈ (x16z_.map (Value.int .u32)), c.oneCell' = true) ∧ wrAt hp_3 b_1 0 32 ∧ ∀ hp_6, hp_6 = setsH hp_3 b_1 0 (x16z_.map (Value.int .u32)) →
     ∃ resz_ : List Int, resz_.length = 32 ∧ cellsAt hp_6 b_1 0 (resz_.map (Value.int .u32)) ∧
     R (.returned (Value.agg (resz_.map (Value.int .u32)).toArray)) hp_6)))) :
  CallsH Tryd.prog 45 #[(Value.agg (t_.map (Value.int .u32)).toArray)] h R := calls_vc fine false Tryd.func45 (ann := A45) (args := [(Value.agg (t_.map (Value.int .u32)).toArray)]) (by kernel_rfl) (Eq.mpr (by kernel_rfl) H)
/-- turnout/turnoutref02.undone -/
def A46 : Ann := (.seq .nil (.seq (.seq .nil (.cond (.seq .nil .nil) .nil)) (.seq .nil .nil)))
theorem V46 (r_ : Int) (h : Hp) (R : Ending → Hp → Prop) (H :
  (((decide ((2147483648 : Int) ≤ r_)) = true →
    ∃ x6_, xorI .u32 r_ (3988292384 : Int) = x6_ ∧
    ∃ x7_, IntKind.u32.wrap ((2 : Int) * x6_) = x7_ ∧
    ∃ x8_, IntKind.u32.wrap (x7_ + (1 : Int)) = x8_ ∧
    R (.returned (Value.int .u32 x8_)) h) ∧
   ((decide ((2147483648 : Int) ≤ r_)) = false →
    ∃ x10_, IntKind.u32.wrap ((2 : Int) * r_) = x10_ ∧
    R (.returned (Value.int .u32 x10_)) h))) :
  CallsH Tryd.prog 46 #[(Value.int .u32 r_)] h R := calls_vc fine false Tryd.func46 (ann := A46) (args := [(Value.int .u32 r_)]) (by kernel_rfl) (Eq.mpr (by kernel_rfl) H)
/-- turnout/turnoutref02.of -/
def A47 : Ann := (.seq .nil (.seq .nil (.seq (.seq .nil (.block (.loop [(1, (.int .u32)), (5, (.int .u32)), (6, (.int .i64))] (.seq (.seq .nil (.cond .nil .nil)) (.seq (.block (.seq (.seq .nil (.cond .nil .nil)) .nil)) .nil))))) (.seq .nil .nil))))
theorem V47 (bitsp_ : Option Addr) (bitsn_ bitsc_ : Nat) (r_ : Int) (h : Hp) (R : Ending → Hp → Prop) (H :
  ∃ (Iv_ : List Value → Hp → Prop) (m_ : List Value → Hp → Nat), Iv_ [(Value.int .u32 r_), (Value.int .u32 (0 : Int)), (Value.int .i64 (0 : Int))] h ∧
  (∀ (r_1 : Int) (out_ : Int) (i_ : Int) hp_, Iv_ [(Value.int .u32 r_1), (Value.int .u32 out_), (Value.int .i64 i_)] hp_ →
   (((decide (i_ < (32 : Int))) = true →
     (2 : Int) ≠ 0 ∧ ∃ x12_, Int.tmod r_1 (2 : Int) = x12_ ∧
     (((decide (x12_ = (1 : Int))) = true →
       ∃ b_ o_, bitsp_ = some ⟨b_, o_, none⟩ ∧ 0 ≤ i_ ∧ i_ < (bitsn_ : Int) ∧
       ∃ x18_ : Int, cellsAt hp_ b_ (o_ + Int.toNat i_ * 1) [(Value.int .u32 x18_)] ∧
       ∃ x19_, xorI .u32 out_ x18_ = x19_ ∧
       (2 : Int) ≠ 0 ∧ ∃ x21_, IntKind.u32.wrap (Int.tdiv r_1 (2 : Int)) = x21_ ∧
       ∃ x10_, IntKind.i64.wrap (i_ + (1 : Int)) = x10_ ∧
       (Iv_ [(Value.int .u32 x21_), (Value.int .u32 x19_), (Value.int .i64 x10_)] hp_ ∧ m_ [(Value.int .u32 x21_), (Value.int .u32 x19_), (Value.int .i64 x10_)] hp_ < m_ [(Value.int .u32 r_1), (Value.int .u32 out_), (Value.int .i64 i_)] hp_)) ∧
      ((decide (x12_ = (1 : Int))) = false →
       (2 : Int) ≠ 0 ∧ ∃ x21_1, IntKind.u32.wrap (Int.tdiv r_1 (2 : Int)) = x21_1 ∧
       ∃ x10_1, IntKind.i64.wrap (i_ + (1 : Int)) = x10_1 ∧
       (Iv_ [(Value.int .u32 x21_1), (Value.int .u32 out_), (Value.int .i64 x10_1)] hp_ ∧ m_ [(Value.int .u32 x21_1), (Value.int .u32 out_), (Value.int .i64 x10_1)] hp_ < m_ [(Value.int .u32 r_1), (Value.int .u32 out_), (Value.int .i64 i_)] hp_)))) ∧
    ((decide (i_ < (32 : Int))) = false →
     R (.returned (Value.int .u32 out_)) hp_)))) :
  CallsH Tryd.prog 47 #[(Value.slice bitsp_ bitsn_ bitsc_), (Value.int .u32 r_)] h R := calls_vc fine false Tryd.func47 (ann := A47) (args := [(Value.slice bitsp_ bitsn_ bitsc_), (Value.int .u32 r_)]) (by kernel_rfl) (Eq.mpr (by kernel_rfl) H)
end Go.Vc
