import Derived.Test.YtamhpfdcnfgngaaGreatVcN
import Derived.Test.YtamhpfdcnfgngaaGreatProg
set_option maxRecDepth 10000
namespace Go.Vc
open Go Go.Proofs
set_option maxRecDepth 100000
theorem fine : Fine Tryz.prog := fine_of (by kernel_rfl) (by kernel_rfl)
def A3 : Ann := (.seq .nil (.seq .nil (.seq .nil (.cut (.seq .nil (.cond (.seq .nil .nil) .nil)) [] (.cut (.seq .nil (.block (.loop [(10, (.int .i64))] (.cut (.seq .nil (.cond .nil .nil)) [] (.seq (.block (.seq .nil (.seq .nil (.seq (.orders 9 [[0, 1, 2, 3, 4, 5, 6, 7, 8, 9, 10], [0, 1, 2, 3, 4, 5, 9, 6, 7, 8, 10], [0, 1, 2, 3, 4, 5, 6, 7, 9, 8, 10]] [4, 7]) (.seq .nil (.seq .nil (.seq .nil (.cut (.seq .nil (.cond (.seq .nil (.seq .nil (.seq .nil .nil))) .nil)) [] (.seq .nil (.seq .nil (.seq .nil (.cond (.seq .nil .nil) .nil)))))))))))) .nil))))) [] (.seq (.seq .nil (.block (.loop [(22, (.int .i64))] (.cut (.seq .nil (.cond .nil .nil)) [] (.seq (.block (.seq .nil (.seq .nil (.seq .nil (.seq .nil (.cut (.seq .nil (.cond (.seq .nil .nil) .nil)) [] (.seq .nil (.cond (.seq .nil .nil) .nil)))))))) .nil))))) (.seq .nil .nil)))))))
theorem V3 (width_ : Int) (routesp_ : Option Addr) (routesn_ routesc_ : Nat) (askedp_ : Option Addr) (askedn_ askedc_ : Nat) (h : Hp) (R : Ending → Hp → Prop) (H :
 CallsH Tryz.prog 4 #[(.int .i64 width_), (.int .i64 (128 : Int))] h fun en_ q_ =>
 ∃ x30_ : Int, en_ = .returned (.int .i64 x30_) ∧
 ∃ x31_, IntKind.i64.wrap ((1 : Int) + x30_) = x31_ ∧
 CallsH Tryz.prog 6 #[(.int .i64 x31_)] q_ fun en_1 q_1 =>
 ∃ (x34f0p_ : Option Addr) (x34f0n_ x34f0c_ : Nat) (x34f1p_ : Option Addr) (x34f1n_ x34f1c_ : Nat) (x34f2p_ : Option Addr) (x34f2n_ x34f2c_ : Nat) (x34f3p_ : Option Addr) (x34f3n_ x34f3c_ : Nat) (x34f4p_ : Option Addr) (x34f4n_ x34f4c_ : Nat) (x34f5p_ : Option Addr) (x34f5n_ x34f5c_ : Nat), en_1 = .returned (.agg #[(.slice x34f0p_ x34f0n_ x34f0c_), (.slice x34f1p_ x34f1n_ x34f1c_), (.slice x34f2p_ x34f2n_ x34f2c_), (.slice x34f3p_ x34f3n_ x34f3c_), (.slice x34f4p_ x34f4n_ x34f4c_), (.slice x34f5p_ x34f5n_ x34f5c_)]) ∧
 CallsH Tryz.prog 5 #[(.agg #[(.slice x34f0p_ x34f0n_ x34f0c_), (.slice x34f1p_ x34f1n_ x34f1c_), (.slice x34f2p_ x34f2n_ x34f2c_), (.slice x34f3p_ x34f3n_ x34f3c_), (.slice x34f4p_ x34f4n_ x34f4c_), (.slice x34f5p_ x34f5n_ x34f5c_)])] q_1 fun en_2 q_2 =>
 ∃ x35r0_ : Option Addr, ∃ x35r1_ : Int, en_2 = .returned (.tuple #[(.pointer x35r0_), (.int .i64 x35r1_)]) ∧
 ∃ Jv_ : List Value → Hp → Prop,
 ((((decide (x35r1_ ≠ (0 : Int))) = true →
 R (.returned (.bool false)) q_2) ∧
 ((decide (x35r1_ ≠ (0 : Int))) = false →
 ∃ x42_, EqV Tryz.prog 25 (.pointer x35r0_) (.pointer none) x42_ ∧
 ((x42_ = true →
 R (.returned (.bool false)) q_2) ∧
 (x42_ = false →
 Jv_ [] q_2))))) ∧
 (∀  q_3, Jv_ [] q_3 →
 ∃ Jv_1 : List Value → Hp → Prop,
 (∃ (Iv_ : List Value → Hp → Prop) (m_ : List Value → Hp → Nat), Iv_ [(.int .i64 (0 : Int))] q_3 ∧
 (∀ (i_ : Int) q_4, Iv_ [(.int .i64 i_)] q_4 →
 ∃ Jv_2 : List Value → Hp → Prop,
 ((((decide (i_ < ((routesn_ : Nat) : Int))) = true →
 (((decide (i_ < (150 : Int))) = true →
 Jv_2 [] q_4) ∧
 ((decide (i_ < (150 : Int))) = false →
 Jv_1 [] q_4))) ∧
 ((decide (i_ < ((routesn_ : Nat) : Int))) = false →
 Jv_1 [] q_4))) ∧
 (∀  q_5, Jv_2 [] q_5 →
 ∃ b_ o_, routesp_ = some ⟨b_, o_, none⟩ ∧ 0 ≤ i_ ∧ i_ < (routesn_ : Int) ∧
 ∃ x58_ : Int, cellsAt q_5 b_ ((o_ + Int.toNat i_ * 5) + 2) [(.int .i64 x58_)] ∧
 ∃ x60_, IntKind.i64.wrap (x31_ + (1 : Int)) = x60_ ∧
 CallsH Tryz.prog 4 #[(.int .i64 x58_), (.int .i64 x60_)] q_5 fun en_3 q_6 =>
 ∃ x61_ : Int, en_3 = .returned (.int .i64 x61_) ∧
 CallsH Tryz.prog 7 #[(.int .i64 x31_), (.int .i64 x61_)] q_6 fun en_4 q_7 =>
 ∃ x65r0f0_ : Int, ∃ x65r0f1_ : Int, ∃ x65r1_ : Int, en_4 = .returned (.tuple #[(.agg #[(.int .u64 x65r0f0_), (.int .u64 x65r0f1_)]), (.int .i64 x65r1_)]) ∧
 ∀ b_1 q_8, b_1 = q_7.size → q_8 = q_7.push (.cells (zeros Tryz.prog 40) 40) → (∃ i z, Tryz.prog.info? 40 = some i ∧ i.zero = some z) ∧
 List.length [(Value.int .u64 x65r0f0_), (.int .u64 x65r0f1_)] = 2 ∧ (∀ c ∈ [(Value.int .u64 x65r0f0_), (.int .u64 x65r0f1_)], c.oneCell' = true) ∧ wrAt q_8 b_1 0 2 ∧ ∀ q_9, q_9 = setsH q_8 b_1 0 [(.int .u64 x65r0f0_), (.int .u64 x65r0f1_)] →
 (∃ Cv_ : Hp → Prop, Cv_ q_9 ∧
 ∃ b_2 o_1, routesp_ = some ⟨b_2, o_1, none⟩ ∧ 0 ≤ i_ ∧ i_ < (routesn_ : Int) ∧
 ∃ x72f0_ : Int, ∃ x72f1_ : Int, (∀ h', Cv_ h' → cellsAt h' b_2 ((o_1 + Int.toNat i_ * 5) + 0) [(.int .u64 x72f0_), (.int .u64 x72f1_)]) ∧
 CallsH Tryz.prog 9 #[(.agg #[(.int .u64 x72f0_), (.int .u64 x72f1_)]), (.int .i64 x31_)] q_9 fun en_5 q_10 =>
 ∃ x74f0_ : Int, ∃ x74f1_ : Int, en_5 = .returned (.agg #[(.int .u64 x74f0_), (.int .u64 x74f1_)]) ∧
 Cv_ q_10 ∧
 ∃ x75f0_ : Int, ∃ x75f1_ : Int, (∀ h', Cv_ h' → cellsAt h' b_1 0 [(.int .u64 x75f0_), (.int .u64 x75f1_)]) ∧
 CallsH Tryz.prog 8 #[(.agg #[(.int .u64 x74f0_), (.int .u64 x74f1_)]), (.agg #[(.int .u64 x75f0_), (.int .u64 x75f1_)])] q_10 fun en_6 q_11 =>
 ∃ x76f0_ : Int, ∃ x76f1_ : Int, en_6 = .returned (.agg #[(.int .u64 x76f0_), (.int .u64 x76f1_)]) ∧
 Cv_ q_11 ∧
 ∀ b_3 q_12, b_3 = q_11.size → q_12 = q_11.push (.cells (zeros Tryz.prog 40) 40) → (∃ i z, Tryz.prog.info? 40 = some i ∧ i.zero = some z) ∧
 Cv_ q_12 ∧
 List.length [(Value.int .u64 x76f0_), (.int .u64 x76f1_)] = 2 ∧ (∀ c ∈ [(Value.int .u64 x76f0_), (.int .u64 x76f1_)], c.oneCell' = true) ∧ wrAt q_12 b_3 0 2 ∧ ∀ q_13, q_13 = setsH q_12 b_3 0 [(.int .u64 x76f0_), (.int .u64 x76f1_)] →
 Cv_ q_13 ∧
 ∃ b_4 o_2, routesp_ = some ⟨b_4, o_2, none⟩ ∧ 0 ≤ i_ ∧ i_ < (routesn_ : Int) ∧
 ∃ x81_ : Int, cellsAt q_13 b_4 ((o_2 + Int.toNat i_ * 5) + 3) [(.int .u64 x81_)] ∧
 SemH Tryz.prog (Instr.buildSlice 23 1 #[(0, (.agg #[(.int .u64 (0 : Int)), (.int .u64 x81_)]))]) q_13 fun v_ q_14 =>
 ∃ (x83p_ : Option Addr) (x83n_ x83c_ : Nat), v_ = (.slice x83p_ x83n_ x83c_) ∧
 ∀ b_5 q_15, b_5 = q_14.size → q_15 = q_14.push (.cells (zeros Tryz.prog 48) 48) → (∃ i z, Tryz.prog.info? 48 = some i ∧ i.zero = some z) ∧
 List.length [(Value.string (⟨#[111, 117, 116]⟩ : ByteArray)), (.slice x83p_ x83n_ x83c_)] = 2 ∧ (∀ c ∈ [(Value.string (⟨#[111, 117, 116]⟩ : ByteArray)), (.slice x83p_ x83n_ x83c_)], c.oneCell' = true) ∧ wrAt q_15 b_5 0 2 ∧ ∀ q_16, q_16 = setsH q_15 b_5 0 [(.string (⟨#[111, 117, 116]⟩ : ByteArray)), (.slice x83p_ x83n_ x83c_)] →
 ∃ x85f0_ : Int, ∃ x85f1_ : Int, cellsAt q_16 b_3 0 [(.int .u64 x85f0_), (.int .u64 x85f1_)] ∧
 SemH Tryz.prog (Instr.buildSlice 51 1 #[(0, (.agg #[(.int .u64 x85f0_), (.int .u64 x85f1_), (.int .u64 (0 : Int)), (.int .u64 (0 : Int)), (.int .i64 x61_)]))]) q_16 fun v_1 q_17 =>
 ∃ (x88p_ : Option Addr) (x88n_ x88c_ : Nat), v_1 = (.slice x88p_ x88n_ x88c_) ∧
 ∃ x89f0_ : ByteArray, ∃ (x89f1p_ : Option Addr) (x89f1n_ x89f1c_ : Nat), cellsAt q_17 b_5 0 [(.string x89f0_), (.slice x89f1p_ x89f1n_ x89f1c_)] ∧
 ∀ b_6 q_18, b_6 = q_17.size → q_18 = q_17.push (.cells (zeros Tryz.prog 55) 55) → (∃ i z, Tryz.prog.info? 55 = some i ∧ i.zero = some z) ∧
 List.length [(Value.int .i64 (1 : Int)), (.string (⟨#[108, 111, 110, 103]⟩ : ByteArray)), (.slice x88p_ x88n_ x88c_), (.int .i64 (0 : Int)), (.string x89f0_), (.slice x89f1p_ x89f1n_ x89f1c_)] = 6 ∧ (∀ c ∈ [(Value.int .i64 (1 : Int)), (.string (⟨#[108, 111, 110, 103]⟩ : ByteArray)), (.slice x88p_ x88n_ x88c_), (.int .i64 (0 : Int)), (.string x89f0_), (.slice x89f1p_ x89f1n_ x89f1c_)], c.oneCell' = true) ∧ wrAt q_18 b_6 0 6 ∧ ∀ q_19, q_19 = setsH q_18 b_6 0 [(.int .i64 (1 : Int)), (.string (⟨#[108, 111, 110, 103]⟩ : ByteArray)), (.slice x88p_ x88n_ x88c_), (.int .i64 (0 : Int)), (.string x89f0_), (.slice x89f1p_ x89f1n_ x89f1c_)] →
 ∃ x92f0_ : Int, ∃ x92f1_ : Int, cellsAt q_19 b_3 0 [(.int .u64 x92f0_), (.int .u64 x92f1_)] ∧
 ∃ x93f0_ : Int, ∃ x93f1_ : Int, cellsAt q_19 b_1 0 [(.int .u64 x93f0_), (.int .u64 x93f1_)] ∧
 SemH Tryz.prog (Instr.buildSlice 51 1 #[(0, (.agg #[(.int .u64 x92f0_), (.int .u64 x92f1_), (.int .u64 x93f0_), (.int .u64 x93f1_), (.int .i64 (0 : Int))]))]) q_19 fun v_2 q_20 =>
 ∃ (x95p_ : Option Addr) (x95n_ x95c_ : Nat), v_2 = (.slice x95p_ x95n_ x95c_) ∧
 ∃ x97_, IntKind.i64.wrap (x61_ + (1 : Int)) = x97_ ∧
 ∃ x98f0_ : ByteArray, ∃ (x98f1p_ : Option Addr) (x98f1n_ x98f1c_ : Nat), cellsAt q_20 b_5 0 [(.string x98f0_), (.slice x98f1p_ x98f1n_ x98f1c_)] ∧
 ∀ b_7 q_21, b_7 = q_20.size → q_21 = q_20.push (.cells (zeros Tryz.prog 55) 55) → (∃ i z, Tryz.prog.info? 55 = some i ∧ i.zero = some z) ∧
 List.length [(Value.int .i64 (1 : Int)), (.string (⟨#[104, 105, 103, 104]⟩ : ByteArray)), (.slice x95p_ x95n_ x95c_), (.int .i64 x97_), (.string x98f0_), (.slice x98f1p_ x98f1n_ x98f1c_)] = 6 ∧ (∀ c ∈ [(Value.int .i64 (1 : Int)), (.string (⟨#[104, 105, 103, 104]⟩ : ByteArray)), (.slice x95p_ x95n_ x95c_), (.int .i64 x97_), (.string x98f0_), (.slice x98f1p_ x98f1n_ x98f1c_)], c.oneCell' = true) ∧ wrAt q_21 b_7 0 6 ∧ ∀ q_22, q_22 = setsH q_21 b_7 0 [(.int .i64 (1 : Int)), (.string (⟨#[104, 105, 103, 104]⟩ : ByteArray)), (.slice x95p_ x95n_ x95c_), (.int .i64 x97_), (.string x98f0_), (.slice x98f1p_ x98f1n_ x98f1c_)] →
 ∃ Jv_3 : List Value → Hp → Prop,
 (∃ b_8 o_3, routesp_ = some ⟨b_8, o_3, none⟩ ∧ 0 ≤ i_ ∧ i_ < (routesn_ : Int) ∧
 ∃ x105_ : Bool, cellsAt q_22 b_8 ((o_3 + Int.toNat i_ * 5) + 4) [(.bool x105_)] ∧
 ((x105_ = true →
 Value.oneCell' (.int .i64 (3 : Int)) = true ∧ wrAt q_22 b_6 (0 + 0) 1 ∧ ∀ q_23, q_23 = setsH q_22 b_6 (0 + 0) [(.int .i64 (3 : Int))] →
 Value.oneCell' (.int .i64 (3 : Int)) = true ∧ wrAt q_23 b_7 (0 + 0) 1 ∧ ∀ q_24, q_24 = setsH q_23 b_7 (0 + 0) [(.int .i64 (3 : Int))] →
 List.length [(Value.string (⟨#[]⟩ : ByteArray)), (.slice none 0 0)] = 2 ∧ (∀ c ∈ [(Value.string (⟨#[]⟩ : ByteArray)), (.slice none 0 0)], c.oneCell' = true) ∧ wrAt q_24 b_6 ((0 + 2) + 2) 2 ∧ ∀ q_25, q_25 = setsH q_24 b_6 ((0 + 2) + 2) [(.string (⟨#[]⟩ : ByteArray)), (.slice none 0 0)] →
 List.length [(Value.string (⟨#[]⟩ : ByteArray)), (.slice none 0 0)] = 2 ∧ (∀ c ∈ [(Value.string (⟨#[]⟩ : ByteArray)), (.slice none 0 0)], c.oneCell' = true) ∧ wrAt q_25 b_7 ((0 + 2) + 2) 2 ∧ ∀ q_26, q_26 = setsH q_25 b_7 ((0 + 2) + 2) [(.string (⟨#[]⟩ : ByteArray)), (.slice none 0 0)] →
 Jv_3 [] q_26) ∧
 (x105_ = false →
 Jv_3 [] q_22))) ∧
 (∀  q_27, Jv_3 [] q_27 →
 ∃ x116f0_ : Int, ∃ x116f1_ : ByteArray, ∃ (x116f2p_ : Option Addr) (x116f2n_ x116f2c_ : Nat), ∃ x116f3_ : Int, ∃ x116f4_ : ByteArray, ∃ (x116f5p_ : Option Addr) (x116f5n_ x116f5c_ : Nat), cellsAt q_27 b_6 0 [(.int .i64 x116f0_), (.string x116f1_), (.slice x116f2p_ x116f2n_ x116f2c_), (.int .i64 x116f3_), (.string x116f4_), (.slice x116f5p_ x116f5n_ x116f5c_)] ∧
 SemH Tryz.prog (Instr.buildSlice 97 1 #[(0, (.agg #[(.int .i64 x116f0_), (.string x116f1_), (.slice x116f2p_ x116f2n_ x116f2c_), (.int .i64 x116f3_), (.string x116f4_), (.slice x116f5p_ x116f5n_ x116f5c_)]))]) q_27 fun v_3 q_28 =>
 ∃ (x117p_ : Option Addr) (x117n_ x117c_ : Nat), v_3 = (.slice x117p_ x117n_ x117c_) ∧
 CallsH Tryz.prog 10 #[(.pointer x35r0_), (.slice x117p_ x117n_ x117c_)] q_28 fun en_7 q_29 =>
 ∃ x118r0_ : Int, ∃ x118r1_ : Int, en_7 = .returned (.tuple #[(.int .i64 x118r0_), (.int .i64 x118r1_)]) ∧
 ∃ x123f0_ : Int, ∃ x123f1_ : ByteArray, ∃ (x123f2p_ : Option Addr) (x123f2n_ x123f2c_ : Nat), ∃ x123f3_ : Int, ∃ x123f4_ : ByteArray, ∃ (x123f5p_ : Option Addr) (x123f5n_ x123f5c_ : Nat), cellsAt q_29 b_7 0 [(.int .i64 x123f0_), (.string x123f1_), (.slice x123f2p_ x123f2n_ x123f2c_), (.int .i64 x123f3_), (.string x123f4_), (.slice x123f5p_ x123f5n_ x123f5c_)] ∧
 SemH Tryz.prog (Instr.buildSlice 97 1 #[(0, (.agg #[(.int .i64 x123f0_), (.string x123f1_), (.slice x123f2p_ x123f2n_ x123f2c_), (.int .i64 x123f3_), (.string x123f4_), (.slice x123f5p_ x123f5n_ x123f5c_)]))]) q_29 fun v_4 q_30 =>
 ∃ (x124p_ : Option Addr) (x124n_ x124c_ : Nat), v_4 = (.slice x124p_ x124n_ x124c_) ∧
 CallsH Tryz.prog 10 #[(.pointer x35r0_), (.slice x124p_ x124n_ x124c_)] q_30 fun en_8 q_31 =>
 ∃ x125r0_ : Int, ∃ x125r1_ : Int, en_8 = .returned (.tuple #[(.int .i64 x125r0_), (.int .i64 x125r1_)]) ∧
 (((decide (x65r1_ ≠ (0 : Int))) = true →
 R (.returned (.bool false)) q_31) ∧
 ((decide (x65r1_ ≠ (0 : Int))) = false →
 (((decide (x118r1_ ≠ x125r1_)) = true →
 R (.returned (.bool false)) q_31) ∧
 ((decide (x118r1_ ≠ x125r1_)) = false →
 (((decide (x118r1_ ≠ (0 : Int))) = true →
 (((decide (x118r1_ ≠ (121 : Int))) = true →
 (((decide (x118r1_ ≠ (122 : Int))) = true →
 R (.returned (.bool false)) q_31) ∧
 ((decide (x118r1_ ≠ (122 : Int))) = false →
 ∃ x53_, IntKind.i64.wrap (i_ + (1 : Int)) = x53_ ∧
 (Iv_ [(.int .i64 x53_)] q_31 ∧ m_ [(.int .i64 x53_)] q_31 < m_ [(.int .i64 i_)] q_4)))) ∧
 ((decide (x118r1_ ≠ (121 : Int))) = false →
 ∃ x53_1, IntKind.i64.wrap (i_ + (1 : Int)) = x53_1 ∧
 (Iv_ [(.int .i64 x53_1)] q_31 ∧ m_ [(.int .i64 x53_1)] q_31 < m_ [(.int .i64 i_)] q_4)))) ∧
 ((decide (x118r1_ ≠ (0 : Int))) = false →
 ∃ x53_2, IntKind.i64.wrap (i_ + (1 : Int)) = x53_2 ∧
 (Iv_ [(.int .i64 x53_2)] q_31 ∧ m_ [(.int .i64 x53_2)] q_31 < m_ [(.int .i64 i_)] q_4))))))))) ∧
 (∃ Cv_1 : Hp → Prop, Cv_1 q_9 ∧
 ∃ b_9 o_4, routesp_ = some ⟨b_9, o_4, none⟩ ∧ 0 ≤ i_ ∧ i_ < (routesn_ : Int) ∧
 ∃ x72f0_1 : Int, ∃ x72f1_1 : Int, (∀ h', Cv_1 h' → cellsAt h' b_9 ((o_4 + Int.toNat i_ * 5) + 0) [(.int .u64 x72f0_1), (.int .u64 x72f1_1)]) ∧
 ∀ b_10 q_32, b_10 = q_9.size → q_32 = q_9.push (.cells (zeros Tryz.prog 40) 40) → (∃ i z, Tryz.prog.info? 40 = some i ∧ i.zero = some z) ∧
 Cv_1 q_32 ∧
 CallsH Tryz.prog 9 #[(.agg #[(.int .u64 x72f0_1), (.int .u64 x72f1_1)]), (.int .i64 x31_)] q_32 fun en_9 q_33 =>
 ∃ x74f0_1 : Int, ∃ x74f1_1 : Int, en_9 = .returned (.agg #[(.int .u64 x74f0_1), (.int .u64 x74f1_1)]) ∧
 Cv_1 q_33 ∧
 ∃ x75f0_1 : Int, ∃ x75f1_1 : Int, (∀ h', Cv_1 h' → cellsAt h' b_1 0 [(.int .u64 x75f0_1), (.int .u64 x75f1_1)]) ∧
 CallsH Tryz.prog 8 #[(.agg #[(.int .u64 x74f0_1), (.int .u64 x74f1_1)]), (.agg #[(.int .u64 x75f0_1), (.int .u64 x75f1_1)])] q_33 fun en_10 q_34 =>
 ∃ x76f0_1 : Int, ∃ x76f1_1 : Int, en_10 = .returned (.agg #[(.int .u64 x76f0_1), (.int .u64 x76f1_1)]) ∧
 Cv_1 q_34 ∧
 List.length [(Value.int .u64 x76f0_1), (.int .u64 x76f1_1)] = 2 ∧ (∀ c ∈ [(Value.int .u64 x76f0_1), (.int .u64 x76f1_1)], c.oneCell' = true) ∧ wrAt q_34 b_10 0 2 ∧ ∀ q_35, q_35 = setsH q_34 b_10 0 [(.int .u64 x76f0_1), (.int .u64 x76f1_1)] →
 Cv_1 q_35 ∧
 ∃ b_11 o_5, routesp_ = some ⟨b_11, o_5, none⟩ ∧ 0 ≤ i_ ∧ i_ < (routesn_ : Int) ∧
 ∃ x81_1 : Int, cellsAt q_35 b_11 ((o_5 + Int.toNat i_ * 5) + 3) [(.int .u64 x81_1)] ∧
 SemH Tryz.prog (Instr.buildSlice 23 1 #[(0, (.agg #[(.int .u64 (0 : Int)), (.int .u64 x81_1)]))]) q_35 fun v_5 q_36 =>
 ∃ (x83p_1 : Option Addr) (x83n_1 x83c_1 : Nat), v_5 = (.slice x83p_1 x83n_1 x83c_1) ∧
 ∀ b_12 q_37, b_12 = q_36.size → q_37 = q_36.push (.cells (zeros Tryz.prog 48) 48) → (∃ i z, Tryz.prog.info? 48 = some i ∧ i.zero = some z) ∧
 List.length [(Value.string (⟨#[111, 117, 116]⟩ : ByteArray)), (.slice x83p_1 x83n_1 x83c_1)] = 2 ∧ (∀ c ∈ [(Value.string (⟨#[111, 117, 116]⟩ : ByteArray)), (.slice x83p_1 x83n_1 x83c_1)], c.oneCell' = true) ∧ wrAt q_37 b_12 0 2 ∧ ∀ q_38, q_38 = setsH q_37 b_12 0 [(.string (⟨#[111, 117, 116]⟩ : ByteArray)), (.slice x83p_1 x83n_1 x83c_1)] →
 ∃ x85f0_1 : Int, ∃ x85f1_1 : Int, cellsAt q_38 b_10 0 [(.int .u64 x85f0_1), (.int .u64 x85f1_1)] ∧
 SemH Tryz.prog (Instr.buildSlice 51 1 #[(0, (.agg #[(.int .u64 x85f0_1), (.int .u64 x85f1_1), (.int .u64 (0 : Int)), (.int .u64 (0 : Int)), (.int .i64 x61_)]))]) q_38 fun v_6 q_39 =>
 ∃ (x88p_1 : Option Addr) (x88n_1 x88c_1 : Nat), v_6 = (.slice x88p_1 x88n_1 x88c_1) ∧
 ∃ x89f0_1 : ByteArray, ∃ (x89f1p_1 : Option Addr) (x89f1n_1 x89f1c_1 : Nat), cellsAt q_39 b_12 0 [(.string x89f0_1), (.slice x89f1p_1 x89f1n_1 x89f1c_1)] ∧
 ∀ b_13 q_40, b_13 = q_39.size → q_40 = q_39.push (.cells (zeros Tryz.prog 55) 55) → (∃ i z, Tryz.prog.info? 55 = some i ∧ i.zero = some z) ∧
 List.length [(Value.int .i64 (1 : Int)), (.string (⟨#[108, 111, 110, 103]⟩ : ByteArray)), (.slice x88p_1 x88n_1 x88c_1), (.int .i64 (0 : Int)), (.string x89f0_1), (.slice x89f1p_1 x89f1n_1 x89f1c_1)] = 6 ∧ (∀ c ∈ [(Value.int .i64 (1 : Int)), (.string (⟨#[108, 111, 110, 103]⟩ : ByteArray)), (.slice x88p_1 x88n_1 x88c_1), (.int .i64 (0 : Int)), (.string x89f0_1), (.slice x89f1p_1 x89f1n_1 x89f1c_1)], c.oneCell' = true) ∧ wrAt q_40 b_13 0 6 ∧ ∀ q_41, q_41 = setsH q_40 b_13 0 [(.int .i64 (1 : Int)), (.string (⟨#[108, 111, 110, 103]⟩ : ByteArray)), (.slice x88p_1 x88n_1 x88c_1), (.int .i64 (0 : Int)), (.string x89f0_1), (.slice x89f1p_1 x89f1n_1 x89f1c_1)] →
 ∃ x92f0_1 : Int, ∃ x92f1_1 : Int, cellsAt q_41 b_10 0 [(.int .u64 x92f0_1), (.int .u64 x92f1_1)] ∧
 ∃ x93f0_1 : Int, ∃ x93f1_1 : Int, cellsAt q_41 b_1 0 [(.int .u64 x93f0_1), (.int .u64 x93f1_1)] ∧
 SemH Tryz.prog (Instr.buildSlice 51 1 #[(0, (.agg #[(.int .u64 x92f0_1), (.int .u64 x92f1_1), (.int .u64 x93f0_1), (.int .u64 x93f1_1), (.int .i64 (0 : Int))]))]) q_41 fun v_7 q_42 =>
 ∃ (x95p_1 : Option Addr) (x95n_1 x95c_1 : Nat), v_7 = (.slice x95p_1 x95n_1 x95c_1) ∧
 ∃ x97_1, IntKind.i64.wrap (x61_ + (1 : Int)) = x97_1 ∧
 ∃ x98f0_1 : ByteArray, ∃ (x98f1p_1 : Option Addr) (x98f1n_1 x98f1c_1 : Nat), cellsAt q_42 b_12 0 [(.string x98f0_1), (.slice x98f1p_1 x98f1n_1 x98f1c_1)] ∧
 ∀ b_14 q_43, b_14 = q_42.size → q_43 = q_42.push (.cells (zeros Tryz.prog 55) 55) → (∃ i z, Tryz.prog.info? 55 = some i ∧ i.zero = some z) ∧
 List.length [(Value.int .i64 (1 : Int)), (.string (⟨#[104, 105, 103, 104]⟩ : ByteArray)), (.slice x95p_1 x95n_1 x95c_1), (.int .i64 x97_1), (.string x98f0_1), (.slice x98f1p_1 x98f1n_1 x98f1c_1)] = 6 ∧ (∀ c ∈ [(Value.int .i64 (1 : Int)), (.string (⟨#[104, 105, 103, 104]⟩ : ByteArray)), (.slice x95p_1 x95n_1 x95c_1), (.int .i64 x97_1), (.string x98f0_1), (.slice x98f1p_1 x98f1n_1 x98f1c_1)], c.oneCell' = true) ∧ wrAt q_43 b_14 0 6 ∧ ∀ q_44, q_44 = setsH q_43 b_14 0 [(.int .i64 (1 : Int)), (.string (⟨#[104, 105, 103, 104]⟩ : ByteArray)), (.slice x95p_1 x95n_1 x95c_1), (.int .i64 x97_1), (.string x98f0_1), (.slice x98f1p_1 x98f1n_1 x98f1c_1)] →
 ∃ Jv_4 : List Value → Hp → Prop,
 (∃ b_15 o_6, routesp_ = some ⟨b_15, o_6, none⟩ ∧ 0 ≤ i_ ∧ i_ < (routesn_ : Int) ∧
 ∃ x105_1 : Bool, cellsAt q_44 b_15 ((o_6 + Int.toNat i_ * 5) + 4) [(.bool x105_1)] ∧
 ((x105_1 = true →
 Value.oneCell' (.int .i64 (3 : Int)) = true ∧ wrAt q_44 b_13 (0 + 0) 1 ∧ ∀ q_45, q_45 = setsH q_44 b_13 (0 + 0) [(.int .i64 (3 : Int))] →
 Value.oneCell' (.int .i64 (3 : Int)) = true ∧ wrAt q_45 b_14 (0 + 0) 1 ∧ ∀ q_46, q_46 = setsH q_45 b_14 (0 + 0) [(.int .i64 (3 : Int))] →
 List.length [(Value.string (⟨#[]⟩ : ByteArray)), (.slice none 0 0)] = 2 ∧ (∀ c ∈ [(Value.string (⟨#[]⟩ : ByteArray)), (.slice none 0 0)], c.oneCell' = true) ∧ wrAt q_46 b_13 ((0 + 2) + 2) 2 ∧ ∀ q_47, q_47 = setsH q_46 b_13 ((0 + 2) + 2) [(.string (⟨#[]⟩ : ByteArray)), (.slice none 0 0)] →
 List.length [(Value.string (⟨#[]⟩ : ByteArray)), (.slice none 0 0)] = 2 ∧ (∀ c ∈ [(Value.string (⟨#[]⟩ : ByteArray)), (.slice none 0 0)], c.oneCell' = true) ∧ wrAt q_47 b_14 ((0 + 2) + 2) 2 ∧ ∀ q_48, q_48 = setsH q_47 b_14 ((0 + 2) + 2) [(.string (⟨#[]⟩ : ByteArray)), (.slice none 0 0)] →
 Jv_4 [] q_48) ∧
 (x105_1 = false →
 Jv_4 [] q_44))) ∧
 (∀  q_49, Jv_4 [] q_49 →
 ∃ x116f0_1 : Int, ∃ x116f1_1 : ByteArray, ∃ (x116f2p_1 : Option Addr) (x116f2n_1 x116f2c_1 : Nat), ∃ x116f3_1 : Int, ∃ x116f4_1 : ByteArray, ∃ (x116f5p_1 : Option Addr) (x116f5n_1 x116f5c_1 : Nat), cellsAt q_49 b_13 0 [(.int .i64 x116f0_1), (.string x116f1_1), (.slice x116f2p_1 x116f2n_1 x116f2c_1), (.int .i64 x116f3_1), (.string x116f4_1), (.slice x116f5p_1 x116f5n_1 x116f5c_1)] ∧
 SemH Tryz.prog (Instr.buildSlice 97 1 #[(0, (.agg #[(.int .i64 x116f0_1), (.string x116f1_1), (.slice x116f2p_1 x116f2n_1 x116f2c_1), (.int .i64 x116f3_1), (.string x116f4_1), (.slice x116f5p_1 x116f5n_1 x116f5c_1)]))]) q_49 fun v_8 q_50 =>
 ∃ (x117p_1 : Option Addr) (x117n_1 x117c_1 : Nat), v_8 = (.slice x117p_1 x117n_1 x117c_1) ∧
 CallsH Tryz.prog 10 #[(.pointer x35r0_), (.slice x117p_1 x117n_1 x117c_1)] q_50 fun en_11 q_51 =>
 ∃ x118r0_1 : Int, ∃ x118r1_1 : Int, en_11 = .returned (.tuple #[(.int .i64 x118r0_1), (.int .i64 x118r1_1)]) ∧
 ∃ x123f0_1 : Int, ∃ x123f1_1 : ByteArray, ∃ (x123f2p_1 : Option Addr) (x123f2n_1 x123f2c_1 : Nat), ∃ x123f3_1 : Int, ∃ x123f4_1 : ByteArray, ∃ (x123f5p_1 : Option Addr) (x123f5n_1 x123f5c_1 : Nat), cellsAt q_51 b_14 0 [(.int .i64 x123f0_1), (.string x123f1_1), (.slice x123f2p_1 x123f2n_1 x123f2c_1), (.int .i64 x123f3_1), (.string x123f4_1), (.slice x123f5p_1 x123f5n_1 x123f5c_1)] ∧
 SemH Tryz.prog (Instr.buildSlice 97 1 #[(0, (.agg #[(.int .i64 x123f0_1), (.string x123f1_1), (.slice x123f2p_1 x123f2n_1 x123f2c_1), (.int .i64 x123f3_1), (.string x123f4_1), (.slice x123f5p_1 x123f5n_1 x123f5c_1)]))]) q_51 fun v_9 q_52 =>
 ∃ (x124p_1 : Option Addr) (x124n_1 x124c_1 : Nat), v_9 = (.slice x124p_1 x124n_1 x124c_1) ∧
 CallsH Tryz.prog 10 #[(.pointer x35r0_), (.slice x124p_1 x124n_1 x124c_1)] q_52 fun en_12 q_53 =>
 ∃ x125r0_1 : Int, ∃ x125r1_1 : Int, en_12 = .returned (.tuple #[(.int .i64 x125r0_1), (.int .i64 x125r1_1)]) ∧
 (((decide (x65r1_ ≠ (0 : Int))) = true →
 R (.returned (.bool false)) q_53) ∧
 ((decide (x65r1_ ≠ (0 : Int))) = false →
 (((decide (x118r1_1 ≠ x125r1_1)) = true →
 R (.returned (.bool false)) q_53) ∧
 ((decide (x118r1_1 ≠ x125r1_1)) = false →
 (((decide (x118r1_1 ≠ (0 : Int))) = true →
 (((decide (x118r1_1 ≠ (121 : Int))) = true →
 (((decide (x118r1_1 ≠ (122 : Int))) = true →
 R (.returned (.bool false)) q_53) ∧
 ((decide (x118r1_1 ≠ (122 : Int))) = false →
 ∃ x53_3, IntKind.i64.wrap (i_ + (1 : Int)) = x53_3 ∧
 (Iv_ [(.int .i64 x53_3)] q_53 ∧ m_ [(.int .i64 x53_3)] q_53 < m_ [(.int .i64 i_)] q_4)))) ∧
 ((decide (x118r1_1 ≠ (121 : Int))) = false →
 ∃ x53_4, IntKind.i64.wrap (i_ + (1 : Int)) = x53_4 ∧
 (Iv_ [(.int .i64 x53_4)] q_53 ∧ m_ [(.int .i64 x53_4)] q_53 < m_ [(.int .i64 i_)] q_4)))) ∧
 ((decide (x118r1_1 ≠ (0 : Int))) = false →
 ∃ x53_5, IntKind.i64.wrap (i_ + (1 : Int)) = x53_5 ∧
 (Iv_ [(.int .i64 x53_5)] q_53 ∧ m_ [(.int .i64 x53_5)] q_53 < m_ [(.int .i64 i_)] q_4))))))))) ∧
 (∃ Cv_2 : Hp → Prop, Cv_2 q_9 ∧
 ∃ b_16 o_7, routesp_ = some ⟨b_16, o_7, none⟩ ∧ 0 ≤ i_ ∧ i_ < (routesn_ : Int) ∧
 ∃ x72f0_2 : Int, ∃ x72f1_2 : Int, (∀ h', Cv_2 h' → cellsAt h' b_16 ((o_7 + Int.toNat i_ * 5) + 0) [(.int .u64 x72f0_2), (.int .u64 x72f1_2)]) ∧
 CallsH Tryz.prog 9 #[(.agg #[(.int .u64 x72f0_2), (.int .u64 x72f1_2)]), (.int .i64 x31_)] q_9 fun en_13 q_54 =>
 ∃ x74f0_2 : Int, ∃ x74f1_2 : Int, en_13 = .returned (.agg #[(.int .u64 x74f0_2), (.int .u64 x74f1_2)]) ∧
 Cv_2 q_54 ∧
 ∃ x75f0_2 : Int, ∃ x75f1_2 : Int, (∀ h', Cv_2 h' → cellsAt h' b_1 0 [(.int .u64 x75f0_2), (.int .u64 x75f1_2)]) ∧
 ∀ b_17 q_55, b_17 = q_54.size → q_55 = q_54.push (.cells (zeros Tryz.prog 40) 40) → (∃ i z, Tryz.prog.info? 40 = some i ∧ i.zero = some z) ∧
 Cv_2 q_55 ∧
 CallsH Tryz.prog 8 #[(.agg #[(.int .u64 x74f0_2), (.int .u64 x74f1_2)]), (.agg #[(.int .u64 x75f0_2), (.int .u64 x75f1_2)])] q_55 fun en_14 q_56 =>
 ∃ x76f0_2 : Int, ∃ x76f1_2 : Int, en_14 = .returned (.agg #[(.int .u64 x76f0_2), (.int .u64 x76f1_2)]) ∧
 Cv_2 q_56 ∧
 List.length [(Value.int .u64 x76f0_2), (.int .u64 x76f1_2)] = 2 ∧ (∀ c ∈ [(Value.int .u64 x76f0_2), (.int .u64 x76f1_2)], c.oneCell' = true) ∧ wrAt q_56 b_17 0 2 ∧ ∀ q_57, q_57 = setsH q_56 b_17 0 [(.int .u64 x76f0_2), (.int .u64 x76f1_2)] →
 Cv_2 q_57 ∧
 ∃ b_18 o_8, routesp_ = some ⟨b_18, o_8, none⟩ ∧ 0 ≤ i_ ∧ i_ < (routesn_ : Int) ∧
 ∃ x81_2 : Int, cellsAt q_57 b_18 ((o_8 + Int.toNat i_ * 5) + 3) [(.int .u64 x81_2)] ∧
 SemH Tryz.prog (Instr.buildSlice 23 1 #[(0, (.agg #[(.int .u64 (0 : Int)), (.int .u64 x81_2)]))]) q_57 fun v_10 q_58 =>
 ∃ (x83p_2 : Option Addr) (x83n_2 x83c_2 : Nat), v_10 = (.slice x83p_2 x83n_2 x83c_2) ∧
 ∀ b_19 q_59, b_19 = q_58.size → q_59 = q_58.push (.cells (zeros Tryz.prog 48) 48) → (∃ i z, Tryz.prog.info? 48 = some i ∧ i.zero = some z) ∧
 List.length [(Value.string (⟨#[111, 117, 116]⟩ : ByteArray)), (.slice x83p_2 x83n_2 x83c_2)] = 2 ∧ (∀ c ∈ [(Value.string (⟨#[111, 117, 116]⟩ : ByteArray)), (.slice x83p_2 x83n_2 x83c_2)], c.oneCell' = true) ∧ wrAt q_59 b_19 0 2 ∧ ∀ q_60, q_60 = setsH q_59 b_19 0 [(.string (⟨#[111, 117, 116]⟩ : ByteArray)), (.slice x83p_2 x83n_2 x83c_2)] →
 ∃ x85f0_2 : Int, ∃ x85f1_2 : Int, cellsAt q_60 b_17 0 [(.int .u64 x85f0_2), (.int .u64 x85f1_2)] ∧
 SemH Tryz.prog (Instr.buildSlice 51 1 #[(0, (.agg #[(.int .u64 x85f0_2), (.int .u64 x85f1_2), (.int .u64 (0 : Int)), (.int .u64 (0 : Int)), (.int .i64 x61_)]))]) q_60 fun v_11 q_61 =>
 ∃ (x88p_2 : Option Addr) (x88n_2 x88c_2 : Nat), v_11 = (.slice x88p_2 x88n_2 x88c_2) ∧
 ∃ x89f0_2 : ByteArray, ∃ (x89f1p_2 : Option Addr) (x89f1n_2 x89f1c_2 : Nat), cellsAt q_61 b_19 0 [(.string x89f0_2), (.slice x89f1p_2 x89f1n_2 x89f1c_2)] ∧
 ∀ b_20 q_62, b_20 = q_61.size → q_62 = q_61.push (.cells (zeros Tryz.prog 55) 55) → (∃ i z, Tryz.prog.info? 55 = some i ∧ i.zero = some z) ∧
 List.length [(Value.int .i64 (1 : Int)), (.string (⟨#[108, 111, 110, 103]⟩ : ByteArray)), (.slice x88p_2 x88n_2 x88c_2), (.int .i64 (0 : Int)), (.string x89f0_2), (.slice x89f1p_2 x89f1n_2 x89f1c_2)] = 6 ∧ (∀ c ∈ [(Value.int .i64 (1 : Int)), (.string (⟨#[108, 111, 110, 103]⟩ : ByteArray)), (.slice x88p_2 x88n_2 x88c_2), (.int .i64 (0 : Int)), (.string x89f0_2), (.slice x89f1p_2 x89f1n_2 x89f1c_2)], c.oneCell' = true) ∧ wrAt q_62 b_20 0 6 ∧ ∀ q_63, q_63 = setsH q_62 b_20 0 [(.int .i64 (1 : Int)), (.string (⟨#[108, 111, 110, 103]⟩ : ByteArray)), (.slice x88p_2 x88n_2 x88c_2), (.int .i64 (0 : Int)), (.string x89f0_2), (.slice x89f1p_2 x89f1n_2 x89f1c_2)] →
 ∃ x92f0_2 : Int, ∃ x92f1_2 : Int, cellsAt q_63 b_17 0 [(.int .u64 x92f0_2), (.int .u64 x92f1_2)] ∧
 ∃ x93f0_2 : Int, ∃ x93f1_2 : Int, cellsAt q_63 b_1 0 [(.int .u64 x93f0_2), (.int .u64 x93f1_2)] ∧
 SemH Tryz.prog (Instr.buildSlice 51 1 #[(0, (.agg #[(.int .u64 x92f0_2), (.int .u64 x92f1_2), (.int .u64 x93f0_2), (.int .u64 x93f1_2), (.int .i64 (0 : Int))]))]) q_63 fun v_12 q_64 =>
 ∃ (x95p_2 : Option Addr) (x95n_2 x95c_2 : Nat), v_12 = (.slice x95p_2 x95n_2 x95c_2) ∧
 ∃ x97_2, IntKind.i64.wrap (x61_ + (1 : Int)) = x97_2 ∧
 ∃ x98f0_2 : ByteArray, ∃ (x98f1p_2 : Option Addr) (x98f1n_2 x98f1c_2 : Nat), cellsAt q_64 b_19 0 [(.string x98f0_2), (.slice x98f1p_2 x98f1n_2 x98f1c_2)] ∧
 ∀ b_21 q_65, b_21 = q_64.size → q_65 = q_64.push (.cells (zeros Tryz.prog 55) 55) → (∃ i z, Tryz.prog.info? 55 = some i ∧ i.zero = some z) ∧
 List.length [(Value.int .i64 (1 : Int)), (.string (⟨#[104, 105, 103, 104]⟩ : ByteArray)), (.slice x95p_2 x95n_2 x95c_2), (.int .i64 x97_2), (.string x98f0_2), (.slice x98f1p_2 x98f1n_2 x98f1c_2)] = 6 ∧ (∀ c ∈ [(Value.int .i64 (1 : Int)), (.string (⟨#[104, 105, 103, 104]⟩ : ByteArray)), (.slice x95p_2 x95n_2 x95c_2), (.int .i64 x97_2), (.string x98f0_2), (.slice x98f1p_2 x98f1n_2 x98f1c_2)], c.oneCell' = true) ∧ wrAt q_65 b_21 0 6 ∧ ∀ q_66, q_66 = setsH q_65 b_21 0 [(.int .i64 (1 : Int)), (.string (⟨#[104, 105, 103, 104]⟩ : ByteArray)), (.slice x95p_2 x95n_2 x95c_2), (.int .i64 x97_2), (.string x98f0_2), (.slice x98f1p_2 x98f1n_2 x98f1c_2)] →
 ∃ Jv_5 : List Value → Hp → Prop,
 (∃ b_22 o_9, routesp_ = some ⟨b_22, o_9, none⟩ ∧ 0 ≤ i_ ∧ i_ < (routesn_ : Int) ∧
 ∃ x105_2 : Bool, cellsAt q_66 b_22 ((o_9 + Int.toNat i_ * 5) + 4) [(.bool x105_2)] ∧
 ((x105_2 = true →
 Value.oneCell' (.int .i64 (3 : Int)) = true ∧ wrAt q_66 b_20 (0 + 0) 1 ∧ ∀ q_67, q_67 = setsH q_66 b_20 (0 + 0) [(.int .i64 (3 : Int))] →
 Value.oneCell' (.int .i64 (3 : Int)) = true ∧ wrAt q_67 b_21 (0 + 0) 1 ∧ ∀ q_68, q_68 = setsH q_67 b_21 (0 + 0) [(.int .i64 (3 : Int))] →
 List.length [(Value.string (⟨#[]⟩ : ByteArray)), (.slice none 0 0)] = 2 ∧ (∀ c ∈ [(Value.string (⟨#[]⟩ : ByteArray)), (.slice none 0 0)], c.oneCell' = true) ∧ wrAt q_68 b_20 ((0 + 2) + 2) 2 ∧ ∀ q_69, q_69 = setsH q_68 b_20 ((0 + 2) + 2) [(.string (⟨#[]⟩ : ByteArray)), (.slice none 0 0)] →
 List.length [(Value.string (⟨#[]⟩ : ByteArray)), (.slice none 0 0)] = 2 ∧ (∀ c ∈ [(Value.string (⟨#[]⟩ : ByteArray)), (.slice none 0 0)], c.oneCell' = true) ∧ wrAt q_69 b_21 ((0 + 2) + 2) 2 ∧ ∀ q_70, q_70 = setsH q_69 b_21 ((0 + 2) + 2) [(.string (⟨#[]⟩ : ByteArray)), (.slice none 0 0)] →
 Jv_5 [] q_70) ∧
 (x105_2 = false →
 Jv_5 [] q_66))) ∧
 (∀  q_71, Jv_5 [] q_71 →
 ∃ x116f0_2 : Int, ∃ x116f1_2 : ByteArray, ∃ (x116f2p_2 : Option Addr) (x116f2n_2 x116f2c_2 : Nat), ∃ x116f3_2 : Int, ∃ x116f4_2 : ByteArray, ∃ (x116f5p_2 : Option Addr) (x116f5n_2 x116f5c_2 : Nat), cellsAt q_71 b_20 0 [(.int .i64 x116f0_2), (.string x116f1_2), (.slice x116f2p_2 x116f2n_2 x116f2c_2), (.int .i64 x116f3_2), (.string x116f4_2), (.slice x116f5p_2 x116f5n_2 x116f5c_2)] ∧
 SemH Tryz.prog (Instr.buildSlice 97 1 #[(0, (.agg #[(.int .i64 x116f0_2), (.string x116f1_2), (.slice x116f2p_2 x116f2n_2 x116f2c_2), (.int .i64 x116f3_2), (.string x116f4_2), (.slice x116f5p_2 x116f5n_2 x116f5c_2)]))]) q_71 fun v_13 q_72 =>
 ∃ (x117p_2 : Option Addr) (x117n_2 x117c_2 : Nat), v_13 = (.slice x117p_2 x117n_2 x117c_2) ∧
 CallsH Tryz.prog 10 #[(.pointer x35r0_), (.slice x117p_2 x117n_2 x117c_2)] q_72 fun en_15 q_73 =>
 ∃ x118r0_2 : Int, ∃ x118r1_2 : Int, en_15 = .returned (.tuple #[(.int .i64 x118r0_2), (.int .i64 x118r1_2)]) ∧
 ∃ x123f0_2 : Int, ∃ x123f1_2 : ByteArray, ∃ (x123f2p_2 : Option Addr) (x123f2n_2 x123f2c_2 : Nat), ∃ x123f3_2 : Int, ∃ x123f4_2 : ByteArray, ∃ (x123f5p_2 : Option Addr) (x123f5n_2 x123f5c_2 : Nat), cellsAt q_73 b_21 0 [(.int .i64 x123f0_2), (.string x123f1_2), (.slice x123f2p_2 x123f2n_2 x123f2c_2), (.int .i64 x123f3_2), (.string x123f4_2), (.slice x123f5p_2 x123f5n_2 x123f5c_2)] ∧
 SemH Tryz.prog (Instr.buildSlice 97 1 #[(0, (.agg #[(.int .i64 x123f0_2), (.string x123f1_2), (.slice x123f2p_2 x123f2n_2 x123f2c_2), (.int .i64 x123f3_2), (.string x123f4_2), (.slice x123f5p_2 x123f5n_2 x123f5c_2)]))]) q_73 fun v_14 q_74 =>
 ∃ (x124p_2 : Option Addr) (x124n_2 x124c_2 : Nat), v_14 = (.slice x124p_2 x124n_2 x124c_2) ∧
 CallsH Tryz.prog 10 #[(.pointer x35r0_), (.slice x124p_2 x124n_2 x124c_2)] q_74 fun en_16 q_75 =>
 ∃ x125r0_2 : Int, ∃ x125r1_2 : Int, en_16 = .returned (.tuple #[(.int .i64 x125r0_2), (.int .i64 x125r1_2)]) ∧
 (((decide (x65r1_ ≠ (0 : Int))) = true →
 R (.returned (.bool false)) q_75) ∧
 ((decide (x65r1_ ≠ (0 : Int))) = false →
 (((decide (x118r1_2 ≠ x125r1_2)) = true →
 R (.returned (.bool false)) q_75) ∧
 ((decide (x118r1_2 ≠ x125r1_2)) = false →
 (((decide (x118r1_2 ≠ (0 : Int))) = true →
 (((decide (x118r1_2 ≠ (121 : Int))) = true →
 (((decide (x118r1_2 ≠ (122 : Int))) = true →
 R (.returned (.bool false)) q_75) ∧
 ((decide (x118r1_2 ≠ (122 : Int))) = false →
 ∃ x53_6, IntKind.i64.wrap (i_ + (1 : Int)) = x53_6 ∧
 (Iv_ [(.int .i64 x53_6)] q_75 ∧ m_ [(.int .i64 x53_6)] q_75 < m_ [(.int .i64 i_)] q_4)))) ∧
 ((decide (x118r1_2 ≠ (121 : Int))) = false →
 ∃ x53_7, IntKind.i64.wrap (i_ + (1 : Int)) = x53_7 ∧
 (Iv_ [(.int .i64 x53_7)] q_75 ∧ m_ [(.int .i64 x53_7)] q_75 < m_ [(.int .i64 i_)] q_4)))) ∧
 ((decide (x118r1_2 ≠ (0 : Int))) = false →
 ∃ x53_8, IntKind.i64.wrap (i_ + (1 : Int)) = x53_8 ∧
 (Iv_ [(.int .i64 x53_8)] q_75 ∧ m_ [(.int .i64 x53_8)] q_75 < m_ [(.int .i64 i_)] q_4)))))))))))) ∧
 (∀  q_76, Jv_1 [] q_76 →
 ∃ (Iv_1 : List Value → Hp → Prop) (m_1 : List Value → Hp → Nat), Iv_1 [(.int .i64 (0 : Int))] q_76 ∧
 (∀ (i_1 : Int) q_77, Iv_1 [(.int .i64 i_1)] q_77 →
 ∃ Jv_6 : List Value → Hp → Prop,
 ((((decide (i_1 < ((askedn_ : Nat) : Int))) = true →
 (((decide (i_1 < (60 : Int))) = true →
 Jv_6 [] q_77) ∧
 ((decide (i_1 < (60 : Int))) = false →
 R (.returned (.bool true)) q_77))) ∧
 ((decide (i_1 < ((askedn_ : Nat) : Int))) = false →
 R (.returned (.bool true)) q_77))) ∧
 (∀  q_78, Jv_6 [] q_78 →
 ∃ b_23 o_10, askedp_ = some ⟨b_23, o_10, none⟩ ∧ 0 ≤ i_1 ∧ i_1 < (askedn_ : Int) ∧
 ∃ x160f0_ : Int, ∃ x160f1_ : Int, cellsAt q_78 b_23 (o_10 + Int.toNat i_1 * 2) [(.int .u64 x160f0_), (.int .u64 x160f1_)] ∧
 CallsH Tryz.prog 9 #[(.agg #[(.int .u64 x160f0_), (.int .u64 x160f1_)]), (.int .i64 x31_)] q_78 fun en_17 q_79 =>
 ∃ x162f0_ : Int, ∃ x162f1_ : Int, en_17 = .returned (.agg #[(.int .u64 x162f0_), (.int .u64 x162f1_)]) ∧
 ∀ b_24 q_80, b_24 = q_79.size → q_80 = q_79.push (.cells (zeros Tryz.prog 40) 40) → (∃ i z, Tryz.prog.info? 40 = some i ∧ i.zero = some z) ∧
 List.length [(Value.int .u64 x162f0_), (.int .u64 x162f1_)] = 2 ∧ (∀ c ∈ [(Value.int .u64 x162f0_), (.int .u64 x162f1_)], c.oneCell' = true) ∧ wrAt q_80 b_24 0 2 ∧ ∀ q_81, q_81 = setsH q_80 b_24 0 [(.int .u64 x162f0_), (.int .u64 x162f1_)] →
 ∃ x165f0_ : Int, ∃ x165f1_ : Int, cellsAt q_81 b_24 0 [(.int .u64 x165f0_), (.int .u64 x165f1_)] ∧
 SemH Tryz.prog (Instr.buildSlice 23 1 #[(0, (.agg #[(.int .u64 x165f0_), (.int .u64 x165f1_)]))]) q_81 fun v_15 q_82 =>
 ∃ (x166p_ : Option Addr) (x166n_ x166c_ : Nat), v_15 = (.slice x166p_ x166n_ x166c_) ∧
 CallsH Tryz.prog 11 #[(.pointer x35r0_), (.string (⟨#[108, 111, 110, 103]⟩ : ByteArray)), (.slice x166p_ x166n_ x166c_)] q_82 fun en_18 q_83 =>
 ∃ x167r0f0_ : ByteArray, ∃ x167r0f1_ : Bool, ∃ (x167r0f2p_ : Option Addr) (x167r0f2n_ x167r0f2c_ : Nat), ∃ x167r0f3_ : Int, ∃ x167r0f4_ : ByteArray, ∃ (x167r0f5p_ : Option Addr) (x167r0f5n_ x167r0f5c_ : Nat), ∃ x167r0f6_ : ByteArray, ∃ (x167r0f7p_ : Option Addr) (x167r0f7n_ x167r0f7c_ : Nat), ∃ x167r1_ : Int, en_18 = .returned (.tuple #[(.agg #[(.string x167r0f0_), (.bool x167r0f1_), (.slice x167r0f2p_ x167r0f2n_ x167r0f2c_), (.int .i64 x167r0f3_), (.string x167r0f4_), (.slice x167r0f5p_ x167r0f5n_ x167r0f5c_), (.string x167r0f6_), (.slice x167r0f7p_ x167r0f7n_ x167r0f7c_)]), (.int .i64 x167r1_)]) ∧
 ∀ b_25 q_84, b_25 = q_83.size → q_84 = q_83.push (.cells (zeros Tryz.prog 59) 59) → (∃ i z, Tryz.prog.info? 59 = some i ∧ i.zero = some z) ∧
 List.length [(Value.string x167r0f0_), (.bool x167r0f1_), (.slice x167r0f2p_ x167r0f2n_ x167r0f2c_), (.int .i64 x167r0f3_), (.string x167r0f4_), (.slice x167r0f5p_ x167r0f5n_ x167r0f5c_), (.string x167r0f6_), (.slice x167r0f7p_ x167r0f7n_ x167r0f7c_)] = 8 ∧ (∀ c ∈ [(Value.string x167r0f0_), (.bool x167r0f1_), (.slice x167r0f2p_ x167r0f2n_ x167r0f2c_), (.int .i64 x167r0f3_), (.string x167r0f4_), (.slice x167r0f5p_ x167r0f5n_ x167r0f5c_), (.string x167r0f6_), (.slice x167r0f7p_ x167r0f7n_ x167r0f7c_)], c.oneCell' = true) ∧ wrAt q_84 b_25 0 8 ∧ ∀ q_85, q_85 = setsH q_84 b_25 0 [(.string x167r0f0_), (.bool x167r0f1_), (.slice x167r0f2p_ x167r0f2n_ x167r0f2c_), (.int .i64 x167r0f3_), (.string x167r0f4_), (.slice x167r0f5p_ x167r0f5n_ x167r0f5c_), (.string x167r0f6_), (.slice x167r0f7p_ x167r0f7n_ x167r0f7c_)] →
 ∃ x172f0_ : Int, ∃ x172f1_ : Int, cellsAt q_85 b_24 0 [(.int .u64 x172f0_), (.int .u64 x172f1_)] ∧
 SemH Tryz.prog (Instr.buildSlice 23 1 #[(0, (.agg #[(.int .u64 x172f0_), (.int .u64 x172f1_)]))]) q_85 fun v_16 q_86 =>
 ∃ (x173p_ : Option Addr) (x173n_ x173c_ : Nat), v_16 = (.slice x173p_ x173n_ x173c_) ∧
 CallsH Tryz.prog 11 #[(.pointer x35r0_), (.string (⟨#[104, 105, 103, 104]⟩ : ByteArray)), (.slice x173p_ x173n_ x173c_)] q_86 fun en_19 q_87 =>
 ∃ x174r0f0_ : ByteArray, ∃ x174r0f1_ : Bool, ∃ (x174r0f2p_ : Option Addr) (x174r0f2n_ x174r0f2c_ : Nat), ∃ x174r0f3_ : Int, ∃ x174r0f4_ : ByteArray, ∃ (x174r0f5p_ : Option Addr) (x174r0f5n_ x174r0f5c_ : Nat), ∃ x174r0f6_ : ByteArray, ∃ (x174r0f7p_ : Option Addr) (x174r0f7n_ x174r0f7c_ : Nat), ∃ x174r1_ : Int, en_19 = .returned (.tuple #[(.agg #[(.string x174r0f0_), (.bool x174r0f1_), (.slice x174r0f2p_ x174r0f2n_ x174r0f2c_), (.int .i64 x174r0f3_), (.string x174r0f4_), (.slice x174r0f5p_ x174r0f5n_ x174r0f5c_), (.string x174r0f6_), (.slice x174r0f7p_ x174r0f7n_ x174r0f7c_)]), (.int .i64 x174r1_)]) ∧
 ∀ b_26 q_88, b_26 = q_87.size → q_88 = q_87.push (.cells (zeros Tryz.prog 59) 59) → (∃ i z, Tryz.prog.info? 59 = some i ∧ i.zero = some z) ∧
 List.length [(Value.string x174r0f0_), (.bool x174r0f1_), (.slice x174r0f2p_ x174r0f2n_ x174r0f2c_), (.int .i64 x174r0f3_), (.string x174r0f4_), (.slice x174r0f5p_ x174r0f5n_ x174r0f5c_), (.string x174r0f6_), (.slice x174r0f7p_ x174r0f7n_ x174r0f7c_)] = 8 ∧ (∀ c ∈ [(Value.string x174r0f0_), (.bool x174r0f1_), (.slice x174r0f2p_ x174r0f2n_ x174r0f2c_), (.int .i64 x174r0f3_), (.string x174r0f4_), (.slice x174r0f5p_ x174r0f5n_ x174r0f5c_), (.string x174r0f6_), (.slice x174r0f7p_ x174r0f7n_ x174r0f7c_)], c.oneCell' = true) ∧ wrAt q_88 b_26 0 8 ∧ ∀ q_89, q_89 = setsH q_88 b_26 0 [(.string x174r0f0_), (.bool x174r0f1_), (.slice x174r0f2p_ x174r0f2n_ x174r0f2c_), (.int .i64 x174r0f3_), (.string x174r0f4_), (.slice x174r0f5p_ x174r0f5n_ x174r0f5c_), (.string x174r0f6_), (.slice x174r0f7p_ x174r0f7n_ x174r0f7c_)] →
 ∃ x178f0_ : ByteArray, ∃ (x178f1p_ : Option Addr) (x178f1n_ x178f1c_ : Nat), cellsAt q_89 b_25 (0 + 6) [(.string x178f0_), (.slice x178f1p_ x178f1n_ x178f1c_)] ∧
 ∃ x180f0_ : ByteArray, ∃ (x180f1p_ : Option Addr) (x180f1n_ x180f1c_ : Nat), cellsAt q_89 b_26 (0 + 6) [(.string x180f0_), (.slice x180f1p_ x180f1n_ x180f1c_)] ∧
 CallsH Tryz.prog 12 #[(.agg #[(.string x178f0_), (.slice x178f1p_ x178f1n_ x178f1c_)]), (.agg #[(.string x180f0_), (.slice x180f1p_ x180f1n_ x180f1c_)])] q_89 fun en_20 q_90 =>
 ∃ x181_ : Bool, en_20 = .returned (.bool x181_) ∧
 ∃ Jv_7 : List Value → Hp → Prop,
 ((((decide (x167r1_ ≠ (0 : Int))) = true →
 R (.returned (.bool false)) q_90) ∧
 ((decide (x167r1_ ≠ (0 : Int))) = false →
 (((decide (x174r1_ ≠ (0 : Int))) = true →
 R (.returned (.bool false)) q_90) ∧
 ((decide (x174r1_ ≠ (0 : Int))) = false →
 ∃ x190_ : Bool, cellsAt q_90 b_25 (0 + 1) [(.bool x190_)] ∧
 ∃ x192_ : Bool, cellsAt q_90 b_26 (0 + 1) [(.bool x192_)] ∧
 ∃ x193_, EqV Tryz.prog 4 (.bool x190_) (.bool x192_) x193_ ∧
 (((!x193_) = true →
 R (.returned (.bool false)) q_90) ∧
 ((!x193_) = false →
 (((!x181_) = true →
 R (.returned (.bool false)) q_90) ∧
 ((!x181_) = false →
 Jv_7 [] q_90))))))))) ∧
 (∀  q_91, Jv_7 [] q_91 →
 ∃ x200_ : Bool, cellsAt q_91 b_25 (0 + 1) [(.bool x200_)] ∧
 ((x200_ = true →
 ∃ (x204p_ : Option Addr) (x204n_ x204c_ : Nat), cellsAt q_91 b_25 ((0 + 2) + 0) [(.slice x204p_ x204n_ x204c_)] ∧
 (((decide (((x204n_ : Nat) : Int) ≠ (1 : Int))) = true →
 R (.returned (.bool false)) q_91) ∧
 ((decide (((x204n_ : Nat) : Int) ≠ (1 : Int))) = false →
 ∃ (x210p_ : Option Addr) (x210n_ x210c_ : Nat), cellsAt q_91 b_26 ((0 + 2) + 0) [(.slice x210p_ x210n_ x210c_)] ∧
 (((decide (((x210n_ : Nat) : Int) ≠ (1 : Int))) = true →
 R (.returned (.bool false)) q_91) ∧
 ((decide (((x210n_ : Nat) : Int) ≠ (1 : Int))) = false →
 ∃ (x217p_ : Option Addr) (x217n_ x217c_ : Nat), cellsAt q_91 b_25 ((0 + 2) + 0) [(.slice x217p_ x217n_ x217c_)] ∧
 ∃ b_27 o_11, x217p_ = some ⟨b_27, o_11, none⟩ ∧ 0 ≤ (0 : Int) ∧ (0 : Int) < (x217n_ : Int) ∧
 ∃ x220f0_ : Int, ∃ x220f1_ : Int, cellsAt q_91 b_27 ((o_11 + Int.toNat (0 : Int) * 5) + 0) [(.int .u64 x220f0_), (.int .u64 x220f1_)] ∧
 ∃ (x223p_ : Option Addr) (x223n_ x223c_ : Nat), cellsAt q_91 b_26 ((0 + 2) + 0) [(.slice x223p_ x223n_ x223c_)] ∧
 ∃ b_28 o_12, x223p_ = some ⟨b_28, o_12, none⟩ ∧ 0 ≤ (0 : Int) ∧ (0 : Int) < (x223n_ : Int) ∧
 ∃ x226f0_ : Int, ∃ x226f1_ : Int, cellsAt q_91 b_28 ((o_12 + Int.toNat (0 : Int) * 5) + 0) [(.int .u64 x226f0_), (.int .u64 x226f1_)] ∧
 ∃ x227_, EqV Tryz.prog 40 (.agg #[(.int .u64 x220f0_), (.int .u64 x220f1_)]) (.agg #[(.int .u64 x226f0_), (.int .u64 x226f1_)]) x227_ ∧
 (((!x227_) = true →
 R (.returned (.bool false)) q_91) ∧
 ((!x227_) = false →
 ∃ x232_ : Int, cellsAt q_91 b_26 ((0 + 2) + 1) [(.int .i64 x232_)] ∧
 ∃ (x235p_ : Option Addr) (x235n_ x235c_ : Nat), cellsAt q_91 b_25 ((0 + 2) + 0) [(.slice x235p_ x235n_ x235c_)] ∧
 ∃ b_29 o_13, x235p_ = some ⟨b_29, o_13, none⟩ ∧ 0 ≤ (0 : Int) ∧ (0 : Int) < (x235n_ : Int) ∧
 ∃ x238_ : Int, cellsAt q_91 b_29 ((o_13 + Int.toNat (0 : Int) * 5) + 4) [(.int .i64 x238_)] ∧
 ∃ x239_, IntKind.i64.wrap (x238_ + (1 : Int)) = x239_ ∧
 (((decide (x232_ ≠ x239_)) = true →
 R (.returned (.bool false)) q_91) ∧
 ((decide (x232_ ≠ x239_)) = false →
 ∃ x156_, IntKind.i64.wrap (i_1 + (1 : Int)) = x156_ ∧
 (Iv_1 [(.int .i64 x156_)] q_91 ∧ m_1 [(.int .i64 x156_)] q_91 < m_1 [(.int .i64 i_1)] q_77)))))))))) ∧
 (x200_ = false →
 ∃ x156_1, IntKind.i64.wrap (i_1 + (1 : Int)) = x156_1 ∧
 (Iv_1 [(.int .i64 x156_1)] q_91 ∧ m_1 [(.int .i64 x156_1)] q_91 < m_1 [(.int .i64 i_1)] q_77))))))))) :
 CallsH Tryz.prog 3 #[(.int .i64 width_), (.slice routesp_ routesn_ routesc_), (.slice askedp_ askedn_ askedc_)] h R := calls_vc fine false Tryz.func3 (ann := A3) (args := [(.int .i64 width_), (.slice routesp_ routesn_ routesc_), (.slice askedp_ askedn_ askedc_)]) (by kernel_rfl) (Eq.mpr (by kernel_rfl) H)
def A4 : Ann := (.seq .nil (.seq (.seq .nil (.cond .nil .nil)) (.seq .nil .nil)))
theorem V4 (c_ : Int) (n_ : Int) (h : Hp) (R : Ending → Hp → Prop) (H :
 (((decide (c_ < (0 : Int))) = true →
 ∃ x8_, IntKind.i64.wrap (c_ + (1 : Int)) = x8_ ∧
 ∃ x9_, IntKind.i64.wrap (0 - x8_) = x9_ ∧
 n_ ≠ 0 ∧ ∃ x12_, Int.tmod x9_ n_ = x12_ ∧
 R (.returned (.int .i64 x12_)) h) ∧
 ((decide (c_ < (0 : Int))) = false →
 n_ ≠ 0 ∧ ∃ x12_1, Int.tmod c_ n_ = x12_1 ∧
 R (.returned (.int .i64 x12_1)) h))) :
 CallsH Tryz.prog 4 #[(.int .i64 c_), (.int .i64 n_)] h R := calls_vc fine false Tryz.func4 (ann := A4) (args := [(.int .i64 c_), (.int .i64 n_)]) (by kernel_rfl) (Eq.mpr (by kernel_rfl) H)
def A5 : Ann := (.seq .nil (.seq (.seq .nil (.seq .nil (.cond (.seq .dead .dead) .nil))) (.seq .nil (.seq (.seq .nil (.block (.loop [(27, (.int .i64))] (.seq .nil (.seq (.cond .nil .nil) (.seq (.block (.seq .nil (.seq (.drawLast [0]) (.seq .nil (.seq .nil .nil))))) .nil)))))) (.seq .nil .nil)))))
theorem V5 (sf0p_ : Option Addr) (sf0n_ sf0c_ : Nat) (sf1p_ : Option Addr) (sf1n_ sf1c_ : Nat) (sf2p_ : Option Addr) (sf2n_ sf2c_ : Nat) (sf3p_ : Option Addr) (sf3n_ sf3c_ : Nat) (sf4p_ : Option Addr) (sf4n_ sf4c_ : Nat) (sf5p_ : Option Addr) (sf5n_ sf5c_ : Nat) (h : Hp) (R : Ending → Hp → Prop) (H :
 ∀ b_ q_, b_ = h.size → q_ = h.push (.cells #[(.slice sf0p_ sf0n_ sf0c_), (.slice sf1p_ sf1n_ sf1c_), (.slice sf2p_ sf2n_ sf2c_), (.slice sf3p_ sf3n_ sf3c_), (.slice sf4p_ sf4n_ sf4c_), (.slice sf5p_ sf5n_ sf5c_)] 36) →
 ∃ (x11f0p_ : Option Addr) (x11f0n_ x11f0c_ : Nat) (x11f1p_ : Option Addr) (x11f1n_ x11f1c_ : Nat) (x11f2p_ : Option Addr) (x11f2n_ x11f2c_ : Nat) (x11f3p_ : Option Addr) (x11f3n_ x11f3c_ : Nat) (x11f4p_ : Option Addr) (x11f4n_ x11f4c_ : Nat) (x11f5p_ : Option Addr) (x11f5n_ x11f5c_ : Nat), cellsAt q_ b_ 0 [(.slice x11f0p_ x11f0n_ x11f0c_), (.slice x11f1p_ x11f1n_ x11f1c_), (.slice x11f2p_ x11f2n_ x11f2c_), (.slice x11f3p_ x11f3n_ x11f3c_), (.slice x11f4p_ x11f4n_ x11f4c_), (.slice x11f5p_ x11f5n_ x11f5c_)] ∧
 CallsH Tryz.prog 13 #[(.agg #[(.slice x11f0p_ x11f0n_ x11f0c_), (.slice x11f1p_ x11f1n_ x11f1c_), (.slice x11f2p_ x11f2n_ x11f2c_), (.slice x11f3p_ x11f3n_ x11f3c_), (.slice x11f4p_ x11f4n_ x11f4c_), (.slice x11f5p_ x11f5n_ x11f5c_)])] q_ fun en_ q_1 =>
 ∃ x12r0_ : Int, ∃ x12r1_ : ByteArray, en_ = .returned (.tuple #[(.int .i64 x12r0_), (.string x12r1_)]) ∧
 (((decide (x12r0_ ≠ (0 : Int))) = true →
 False) ∧
 ((decide (x12r0_ ≠ (0 : Int))) = false →
 ∃ (x17f0p_ : Option Addr) (x17f0n_ x17f0c_ : Nat) (x17f1p_ : Option Addr) (x17f1n_ x17f1c_ : Nat) (x17f2p_ : Option Addr) (x17f2n_ x17f2c_ : Nat) (x17f3p_ : Option Addr) (x17f3n_ x17f3c_ : Nat) (x17f4p_ : Option Addr) (x17f4n_ x17f4c_ : Nat) (x17f5p_ : Option Addr) (x17f5n_ x17f5c_ : Nat), cellsAt q_1 b_ 0 [(.slice x17f0p_ x17f0n_ x17f0c_), (.slice x17f1p_ x17f1n_ x17f1c_), (.slice x17f2p_ x17f2n_ x17f2c_), (.slice x17f3p_ x17f3n_ x17f3c_), (.slice x17f4p_ x17f4n_ x17f4c_), (.slice x17f5p_ x17f5n_ x17f5c_)] ∧
 CallsH Tryz.prog 14 #[(.agg #[(.slice x17f0p_ x17f0n_ x17f0c_), (.slice x17f1p_ x17f1n_ x17f1c_), (.slice x17f2p_ x17f2n_ x17f2c_), (.slice x17f3p_ x17f3n_ x17f3c_), (.slice x17f4p_ x17f4n_ x17f4c_), (.slice x17f5p_ x17f5n_ x17f5c_)])] q_1 fun en_1 q_2 =>
 ∃ (x18f0p_ : Option Addr) (x18f0n_ x18f0c_ : Nat) (x18f1p_ : Option Addr) (x18f1n_ x18f1c_ : Nat) (x18f2p_ : Option Addr) (x18f2n_ x18f2c_ : Nat) (x18f3p_ : Option Addr) (x18f3n_ x18f3c_ : Nat) (x18f4p_ : Option Addr) (x18f4n_ x18f4c_ : Nat) (x18f5p_ : Option Addr) (x18f5n_ x18f5c_ : Nat), en_1 = .returned (.agg #[(.slice x18f0p_ x18f0n_ x18f0c_), (.slice x18f1p_ x18f1n_ x18f1c_), (.slice x18f2p_ x18f2n_ x18f2c_), (.slice x18f3p_ x18f3n_ x18f3c_), (.slice x18f4p_ x18f4n_ x18f4c_), (.slice x18f5p_ x18f5n_ x18f5c_)]) ∧
 ∀ b_1 q_3, b_1 = q_2.size → q_3 = q_2.push (.cells #[(.slice x18f0p_ x18f0n_ x18f0c_), (.slice x18f1p_ x18f1n_ x18f1c_), (.slice x18f2p_ x18f2n_ x18f2c_), (.slice x18f3p_ x18f3n_ x18f3c_), (.slice x18f4p_ x18f4n_ x18f4c_), (.slice x18f5p_ x18f5n_ x18f5c_), (.slice none 0 0)] 69) →
 ∃ (x25p_ : Option Addr) (x25n_ x25c_ : Nat), cellsAt q_3 b_1 ((0 + 0) + 4) [(.slice x25p_ x25n_ x25c_)] ∧
 ∃ (Iv_ : List Value → Hp → Prop) (m_ : List Value → Hp → Nat), Iv_ [(.int .i64 (0 : Int))] q_3 ∧
 (∀ (x27_ : Int) q_4, Iv_ [(.int .i64 x27_)] q_4 →
 (((decide (x27_ < ((x25n_ : Nat) : Int))) = true →
 ∃ b_2 o_, x25p_ = some ⟨b_2, o_, none⟩ ∧ 0 ≤ x27_ ∧ x27_ < (x25n_ : Int) ∧
 ∃ x30f0_ : ByteArray, ∃ (x30f1p_ : Option Addr) (x30f1n_ x30f1c_ : Nat) (x30f2p_ : Option Addr) (x30f2n_ x30f2c_ : Nat), ∃ x30f3_ : Int, ∃ x30f4_ : ByteArray, ∃ (x30f5p_ : Option Addr) (x30f5n_ x30f5c_ : Nat), ∃ x30f6_ : Bool, cellsAt q_4 b_2 (o_ + Int.toNat x27_ * 7) [(.string x30f0_), (.slice x30f1p_ x30f1n_ x30f1c_), (.slice x30f2p_ x30f2n_ x30f2c_), (.int .i64 x30f3_), (.string x30f4_), (.slice x30f5p_ x30f5n_ x30f5c_), (.bool x30f6_)] ∧
 ∀ b_3 q_5, b_3 = q_4.size → q_5 = q_4.push (.cells (zeros Tryz.prog 73) 73) → (∃ i z, Tryz.prog.info? 73 = some i ∧ i.zero = some z) ∧
 List.length [(Value.string x30f0_), (.slice x30f1p_ x30f1n_ x30f1c_), (.slice x30f2p_ x30f2n_ x30f2c_), (.int .i64 x30f3_), (.string x30f4_), (.slice x30f5p_ x30f5n_ x30f5c_), (.bool x30f6_)] = 7 ∧ (∀ c ∈ [(Value.string x30f0_), (.slice x30f1p_ x30f1n_ x30f1c_), (.slice x30f2p_ x30f2n_ x30f2c_), (.int .i64 x30f3_), (.string x30f4_), (.slice x30f5p_ x30f5n_ x30f5c_), (.bool x30f6_)], c.oneCell' = true) ∧ wrAt q_5 b_3 0 7 ∧ ∀ q_6, q_6 = setsH q_5 b_3 0 [(.string x30f0_), (.slice x30f1p_ x30f1n_ x30f1c_), (.slice x30f2p_ x30f2n_ x30f2c_), (.int .i64 x30f3_), (.string x30f4_), (.slice x30f5p_ x30f5n_ x30f5c_), (.bool x30f6_)] →
 ∃ Cv_ : Hp → Prop, Cv_ q_6 ∧
 ∃ x31f0_ : ByteArray, ∃ (x31f1p_ : Option Addr) (x31f1n_ x31f1c_ : Nat) (x31f2p_ : Option Addr) (x31f2n_ x31f2c_ : Nat), ∃ x31f3_ : Int, ∃ x31f4_ : ByteArray, ∃ (x31f5p_ : Option Addr) (x31f5n_ x31f5c_ : Nat), ∃ x31f6_ : Bool, (∀ h', Cv_ h' → cellsAt h' b_3 0 [(.string x31f0_), (.slice x31f1p_ x31f1n_ x31f1c_), (.slice x31f2p_ x31f2n_ x31f2c_), (.int .i64 x31f3_), (.string x31f4_), (.slice x31f5p_ x31f5n_ x31f5c_), (.bool x31f6_)]) ∧
 ∃ x33f0_ : ByteArray, ∃ (x33f1p_ : Option Addr) (x33f1n_ x33f1c_ : Nat), cellsAt q_6 b_3 (0 + 4) [(.string x33f0_), (.slice x33f1p_ x33f1n_ x33f1c_)] ∧
 CallsH Tryz.prog 15 #[(.agg #[(.string x33f0_), (.slice x33f1p_ x33f1n_ x33f1c_)])] q_6 fun en_2 q_7 =>
 ∃ x34f0_ : ByteArray, ∃ (x34f1p_ : Option Addr) (x34f1n_ x34f1c_ : Nat), en_2 = .returned (.agg #[(.string x34f0_), (.slice x34f1p_ x34f1n_ x34f1c_)]) ∧
 Cv_ q_7 ∧
 ∀ b_4 q_8, b_4 = q_7.size → q_8 = q_7.push (.cells #[(.string x31f0_), (.slice x31f1p_ x31f1n_ x31f1c_), (.slice x31f2p_ x31f2n_ x31f2c_), (.int .i64 x31f3_), (.string x31f4_), (.slice x31f5p_ x31f5n_ x31f5c_), (.bool x31f6_), (.slice none 0 0), (.string x34f0_), (.slice x34f1p_ x34f1n_ x34f1c_), Value.nilIface] 80) →
 Cv_ q_8 ∧
 ∃ (x42f0p_ : Option Addr) (x42f0n_ x42f0c_ : Nat) (x42f1p_ : Option Addr) (x42f1n_ x42f1c_ : Nat) (x42f2p_ : Option Addr) (x42f2n_ x42f2c_ : Nat) (x42f3p_ : Option Addr) (x42f3n_ x42f3c_ : Nat) (x42f4p_ : Option Addr) (x42f4n_ x42f4c_ : Nat) (x42f5p_ : Option Addr) (x42f5n_ x42f5c_ : Nat), cellsAt q_8 b_1 (0 + 0) [(.slice x42f0p_ x42f0n_ x42f0c_), (.slice x42f1p_ x42f1n_ x42f1c_), (.slice x42f2p_ x42f2n_ x42f2c_), (.slice x42f3p_ x42f3n_ x42f3c_), (.slice x42f4p_ x42f4n_ x42f4c_), (.slice x42f5p_ x42f5n_ x42f5c_)] ∧
 ∃ x44_ : ByteArray, cellsAt q_8 b_3 (0 + 0) [(.string x44_)] ∧
 CallsH Tryz.prog 16 #[(.agg #[(.slice x42f0p_ x42f0n_ x42f0c_), (.slice x42f1p_ x42f1n_ x42f1c_), (.slice x42f2p_ x42f2n_ x42f2c_), (.slice x42f3p_ x42f3n_ x42f3c_), (.slice x42f4p_ x42f4n_ x42f4c_), (.slice x42f5p_ x42f5n_ x42f5c_)]), (.string x44_)] q_8 fun en_3 q_9 =>
 ∃ (x45r0p_ : Option Addr) (x45r0n_ x45r0c_ : Nat), ∃ x45r1_ : Int, en_3 = .returned (.tuple #[(.slice x45r0p_ x45r0n_ x45r0c_), (.int .i64 x45r1_)]) ∧
 Value.oneCell' (.slice x45r0p_ x45r0n_ x45r0c_) = true ∧ wrAt q_9 b_4 (0 + 7) 1 ∧ ∀ q_10, q_10 = setsH q_9 b_4 (0 + 7) [(.slice x45r0p_ x45r0n_ x45r0c_)] →
 ∃ (x55f0p_ : Option Addr) (x55f0n_ x55f0c_ : Nat) (x55f1p_ : Option Addr) (x55f1n_ x55f1c_ : Nat) (x55f2p_ : Option Addr) (x55f2n_ x55f2c_ : Nat) (x55f3p_ : Option Addr) (x55f3n_ x55f3c_ : Nat) (x55f4p_ : Option Addr) (x55f4n_ x55f4c_ : Nat) (x55f5p_ : Option Addr) (x55f5n_ x55f5c_ : Nat), cellsAt q_10 b_1 (0 + 0) [(.slice x55f0p_ x55f0n_ x55f0c_), (.slice x55f1p_ x55f1n_ x55f1c_), (.slice x55f2p_ x55f2n_ x55f2c_), (.slice x55f3p_ x55f3n_ x55f3c_), (.slice x55f4p_ x55f4n_ x55f4c_), (.slice x55f5p_ x55f5n_ x55f5c_)] ∧
 ∃ x57_ : ByteArray, cellsAt q_10 b_3 (0 + 0) [(.string x57_)] ∧
 ∃ x59_ : Int, cellsAt q_10 b_3 (0 + 3) [(.int .i64 x59_)] ∧
 CallsH Tryz.prog 17 #[(.agg #[(.slice x55f0p_ x55f0n_ x55f0c_), (.slice x55f1p_ x55f1n_ x55f1c_), (.slice x55f2p_ x55f2n_ x55f2c_), (.slice x55f3p_ x55f3n_ x55f3c_), (.slice x55f4p_ x55f4n_ x55f4c_), (.slice x55f5p_ x55f5n_ x55f5c_)]), (.string x57_), (.int .i64 x59_)] q_10 fun en_4 q_11 =>
 ∃ x60r0_ : Option Addr, ∃ x60r1_ : Int, en_4 = .returned (.tuple #[(.pointer x60r0_), (.int .i64 x60r1_)]) ∧
 Value.oneCell' (.iface 83 (.pointer x60r0_)) = true ∧ wrAt q_11 b_4 (0 + 10) 1 ∧ ∀ q_12, q_12 = setsH q_11 b_4 (0 + 10) [(.iface 83 (.pointer x60r0_))] →
 ∃ (x70p_ : Option Addr) (x70n_ x70c_ : Nat), cellsAt q_12 b_1 (0 + 6) [(.slice x70p_ x70n_ x70c_)] ∧
 SemH Tryz.prog (Instr.buildSlice 67 1 #[(0, (.pointer (some ⟨b_4, 0, none⟩)))]) q_12 fun v_ q_13 =>
 ∃ (x72p_ : Option Addr) (x72n_ x72c_ : Nat), v_ = (.slice x72p_ x72n_ x72c_) ∧
 SemH Tryz.prog (Builtin.append_ #[67, 67] 67 #[(.slice x70p_ x70n_ x70c_), (.slice x72p_ x72n_ x72c_)]) q_13 fun v_1 q_14 =>
 ∃ (x73p_ : Option Addr) (x73n_ x73c_ : Nat), v_1 = (.slice x73p_ x73n_ x73c_) ∧
 Value.oneCell' (.slice x73p_ x73n_ x73c_) = true ∧ wrAt q_14 b_1 (0 + 6) 1 ∧ ∀ q_15, q_15 = setsH q_14 b_1 (0 + 6) [(.slice x73p_ x73n_ x73c_)] →
 ∃ x76_, IntKind.i64.wrap (x27_ + (1 : Int)) = x76_ ∧
 (Iv_ [(.int .i64 x76_)] q_15 ∧ m_ [(.int .i64 x76_)] q_15 < m_ [(.int .i64 x27_)] q_4)) ∧
 ((decide (x27_ < ((x25n_ : Nat) : Int))) = false →
 R (.returned (.tuple #[(.pointer (some ⟨b_1, 0, none⟩)), (.int .i64 (0 : Int))])) q_4)))))) :
 CallsH Tryz.prog 5 #[(.agg #[(.slice sf0p_ sf0n_ sf0c_), (.slice sf1p_ sf1n_ sf1c_), (.slice sf2p_ sf2n_ sf2c_), (.slice sf3p_ sf3n_ sf3c_), (.slice sf4p_ sf4n_ sf4c_), (.slice sf5p_ sf5n_ sf5c_)])] h R := calls_vc fine false Tryz.func5 (ann := A5) (args := [(.agg #[(.slice sf0p_ sf0n_ sf0c_), (.slice sf1p_ sf1n_ sf1c_), (.slice sf2p_ sf2n_ sf2c_), (.slice sf3p_ sf3n_ sf3c_), (.slice sf4p_ sf4n_ sf4c_), (.slice sf5p_ sf5n_ sf5c_)])]) (by kernel_rfl) (Eq.mpr (by kernel_rfl) H)
def A6 : Ann := (.seq .nil (.seq .nil (.seq .nil (.seq .nil (.seq .nil (.seq .nil (.seq .nil (.seq .nil (.seq .nil .nil)))))))))
theorem V6 (width_ : Int) (h : Hp) (R : Ending → Hp → Prop) (H :
 ∀ b_ q_, b_ = h.size → q_ = h.push (.cells (zeros Tryz.prog 36) 36) → (∃ i z, Tryz.prog.info? 36 = some i ∧ i.zero = some z) ∧
 ∀ b_1 q_1, b_1 = q_.size → q_1 = q_.push (.cells (zeros Tryz.prog 87) 87) → (∃ i z, Tryz.prog.info? 87 = some i ∧ i.zero = some z) ∧
 List.length [(Value.string (⟨#[109, 101, 116, 97]⟩ : ByteArray)), (.string (⟨#[116, 111]⟩ : ByteArray))] = 2 ∧ (∀ c ∈ [(Value.string (⟨#[109, 101, 116, 97]⟩ : ByteArray)), (.string (⟨#[116, 111]⟩ : ByteArray))], c.oneCell' = true) ∧ wrAt q_1 b_1 0 2 ∧ ∀ q_2, q_2 = setsH q_1 b_1 0 [(.string (⟨#[109, 101, 116, 97]⟩ : ByteArray)), (.string (⟨#[116, 111]⟩ : ByteArray))] →
 SemH Tryz.prog (Instr.buildSlice 30 1 #[(0, (.agg #[(.string (⟨#[112, 111, 114, 116]⟩ : ByteArray)), (.int .i64 (64 : Int))]))]) q_2 fun v_ q_3 =>
 ∃ (x12p_ : Option Addr) (x12n_ x12c_ : Nat), v_ = (.slice x12p_ x12n_ x12c_) ∧
 ∀ b_2 q_4, b_2 = q_3.size → q_4 = q_3.push (.cells (zeros Tryz.prog 92) 92) → (∃ i z, Tryz.prog.info? 92 = some i ∧ i.zero = some z) ∧
 List.length [(Value.string (⟨#[111, 117, 116]⟩ : ByteArray)), (.slice x12p_ x12n_ x12c_), (.slice none 0 0)] = 3 ∧ (∀ c ∈ [(Value.string (⟨#[111, 117, 116]⟩ : ByteArray)), (.slice x12p_ x12n_ x12c_), (.slice none 0 0)], c.oneCell' = true) ∧ wrAt q_4 b_2 0 3 ∧ ∀ q_5, q_5 = setsH q_4 b_2 0 [(.string (⟨#[111, 117, 116]⟩ : ByteArray)), (.slice x12p_ x12n_ x12c_), (.slice none 0 0)] →
 ∀ b_3 q_6, b_3 = q_5.size → q_6 = q_5.push (.cells (zeros Tryz.prog 92) 92) → (∃ i z, Tryz.prog.info? 92 = some i ∧ i.zero = some z) ∧
 List.length [(Value.string (⟨#[110, 111, 110, 101]⟩ : ByteArray)), (.slice none 0 0), (.slice none 0 0)] = 3 ∧ (∀ c ∈ [(Value.string (⟨#[110, 111, 110, 101]⟩ : ByteArray)), (.slice none 0 0), (.slice none 0 0)], c.oneCell' = true) ∧ wrAt q_6 b_3 0 3 ∧ ∀ q_7, q_7 = setsH q_6 b_3 0 [(.string (⟨#[110, 111, 110, 101]⟩ : ByteArray)), (.slice none 0 0), (.slice none 0 0)] →
 SemH Tryz.prog (Instr.buildSlice 71 2 #[(0, (.string (⟨#[111, 117, 116]⟩ : ByteArray))), (1, (.string (⟨#[110, 111, 110, 101]⟩ : ByteArray)))]) q_7 fun v_1 q_8 =>
 ∃ (x15p_ : Option Addr) (x15n_ x15c_ : Nat), v_1 = (.slice x15p_ x15n_ x15c_) ∧
 ∀ b_4 q_9, b_4 = q_8.size → q_9 = q_8.push (.cells (zeros Tryz.prog 48) 48) → (∃ i z, Tryz.prog.info? 48 = some i ∧ i.zero = some z) ∧
 List.length [(Value.string (⟨#[110, 111, 110, 101]⟩ : ByteArray)), (.slice none 0 0)] = 2 ∧ (∀ c ∈ [(Value.string (⟨#[110, 111, 110, 101]⟩ : ByteArray)), (.slice none 0 0)], c.oneCell' = true) ∧ wrAt q_9 b_4 0 2 ∧ ∀ q_10, q_10 = setsH q_9 b_4 0 [(.string (⟨#[110, 111, 110, 101]⟩ : ByteArray)), (.slice none 0 0)] →
 ∃ x17f0_ : ByteArray, ∃ x17f1_ : ByteArray, cellsAt q_10 b_1 0 [(.string x17f0_), (.string x17f1_)] ∧
 SemH Tryz.prog (Instr.buildSlice 70 1 #[(0, (.agg #[(.string x17f0_), (.string x17f1_), (.int .i64 (2 : Int))]))]) q_10 fun v_2 q_11 =>
 ∃ (x19p_ : Option Addr) (x19n_ x19c_ : Nat), v_2 = (.slice x19p_ x19n_ x19c_) ∧
 ∃ x21f0_ : ByteArray, ∃ (x21f1p_ : Option Addr) (x21f1n_ x21f1c_ : Nat), cellsAt q_11 b_4 0 [(.string x21f0_), (.slice x21f1p_ x21f1n_ x21f1c_)] ∧
 ∀ b_5 q_12, b_5 = q_11.size → q_12 = q_11.push (.cells (zeros Tryz.prog 73) 73) → (∃ i z, Tryz.prog.info? 73 = some i ∧ i.zero = some z) ∧
 List.length [(Value.string (⟨#[108, 111, 110, 103]⟩ : ByteArray)), (.slice x19p_ x19n_ x19c_), (.slice x15p_ x15n_ x15c_), (.int .i64 (200 : Int)), (.string x21f0_), (.slice x21f1p_ x21f1n_ x21f1c_), (.bool false)] = 7 ∧ (∀ c ∈ [(Value.string (⟨#[108, 111, 110, 103]⟩ : ByteArray)), (.slice x19p_ x19n_ x19c_), (.slice x15p_ x15n_ x15c_), (.int .i64 (200 : Int)), (.string x21f0_), (.slice x21f1p_ x21f1n_ x21f1c_), (.bool false)], c.oneCell' = true) ∧ wrAt q_12 b_5 0 7 ∧ ∀ q_13, q_13 = setsH q_12 b_5 0 [(.string (⟨#[108, 111, 110, 103]⟩ : ByteArray)), (.slice x19p_ x19n_ x19c_), (.slice x15p_ x15n_ x15c_), (.int .i64 (200 : Int)), (.string x21f0_), (.slice x21f1p_ x21f1n_ x21f1c_), (.bool false)] →
 ∃ x23f0_ : ByteArray, ∃ x23f1_ : ByteArray, cellsAt q_13 b_1 0 [(.string x23f0_), (.string x23f1_)] ∧
 SemH Tryz.prog (Instr.buildSlice 70 1 #[(0, (.agg #[(.string x23f0_), (.string x23f1_), (.int .i64 (3 : Int))]))]) q_13 fun v_3 q_14 =>
 ∃ (x25p_ : Option Addr) (x25n_ x25c_ : Nat), v_3 = (.slice x25p_ x25n_ x25c_) ∧
 ∃ x27f0_ : ByteArray, ∃ (x27f1p_ : Option Addr) (x27f1n_ x27f1c_ : Nat), cellsAt q_14 b_4 0 [(.string x27f0_), (.slice x27f1p_ x27f1n_ x27f1c_)] ∧
 ∀ b_6 q_15, b_6 = q_14.size → q_15 = q_14.push (.cells (zeros Tryz.prog 73) 73) → (∃ i z, Tryz.prog.info? 73 = some i ∧ i.zero = some z) ∧
 List.length [(Value.string (⟨#[104, 105, 103, 104]⟩ : ByteArray)), (.slice x25p_ x25n_ x25c_), (.slice x15p_ x15n_ x15c_), (.int .i64 (200 : Int)), (.string x27f0_), (.slice x27f1p_ x27f1n_ x27f1c_), (.bool false)] = 7 ∧ (∀ c ∈ [(Value.string (⟨#[104, 105, 103, 104]⟩ : ByteArray)), (.slice x25p_ x25n_ x25c_), (.slice x15p_ x15n_ x15c_), (.int .i64 (200 : Int)), (.string x27f0_), (.slice x27f1p_ x27f1n_ x27f1c_), (.bool false)], c.oneCell' = true) ∧ wrAt q_15 b_6 0 7 ∧ ∀ q_16, q_16 = setsH q_15 b_6 0 [(.string (⟨#[104, 105, 103, 104]⟩ : ByteArray)), (.slice x25p_ x25n_ x25c_), (.slice x15p_ x15n_ x15c_), (.int .i64 (200 : Int)), (.string x27f0_), (.slice x27f1p_ x27f1n_ x27f1c_), (.bool false)] →
 SemH Tryz.prog (Instr.buildSlice 30 1 #[(0, (.agg #[(.string (⟨#[116, 111]⟩ : ByteArray)), (.int .i64 width_)]))]) q_16 fun v_4 q_17 =>
 ∃ (x31p_ : Option Addr) (x31n_ x31c_ : Nat), v_4 = (.slice x31p_ x31n_ x31c_) ∧
 ∃ x32f0_ : ByteArray, ∃ (x32f1p_ : Option Addr) (x32f1n_ x32f1c_ : Nat) (x32f2p_ : Option Addr) (x32f2n_ x32f2c_ : Nat), cellsAt q_17 b_2 0 [(.string x32f0_), (.slice x32f1p_ x32f1n_ x32f1c_), (.slice x32f2p_ x32f2n_ x32f2c_)] ∧
 ∃ x33f0_ : ByteArray, ∃ (x33f1p_ : Option Addr) (x33f1n_ x33f1c_ : Nat) (x33f2p_ : Option Addr) (x33f2n_ x33f2c_ : Nat), cellsAt q_17 b_3 0 [(.string x33f0_), (.slice x33f1p_ x33f1n_ x33f1c_), (.slice x33f2p_ x33f2n_ x33f2c_)] ∧
 SemH Tryz.prog (Instr.buildSlice 32 2 #[(0, (.agg #[(.string x32f0_), (.slice x32f1p_ x32f1n_ x32f1c_), (.slice x32f2p_ x32f2n_ x32f2c_)])), (1, (.agg #[(.string x33f0_), (.slice x33f1p_ x33f1n_ x33f1c_), (.slice x33f2p_ x33f2n_ x33f2c_)]))]) q_17 fun v_5 q_18 =>
 ∃ (x34p_ : Option Addr) (x34n_ x34c_ : Nat), v_5 = (.slice x34p_ x34n_ x34c_) ∧
 ∃ x35f0_ : ByteArray, ∃ (x35f1p_ : Option Addr) (x35f1n_ x35f1c_ : Nat) (x35f2p_ : Option Addr) (x35f2n_ x35f2c_ : Nat), ∃ x35f3_ : Int, ∃ x35f4_ : ByteArray, ∃ (x35f5p_ : Option Addr) (x35f5n_ x35f5c_ : Nat), ∃ x35f6_ : Bool, cellsAt q_18 b_5 0 [(.string x35f0_), (.slice x35f1p_ x35f1n_ x35f1c_), (.slice x35f2p_ x35f2n_ x35f2c_), (.int .i64 x35f3_), (.string x35f4_), (.slice x35f5p_ x35f5n_ x35f5c_), (.bool x35f6_)] ∧
 ∃ x36f0_ : ByteArray, ∃ (x36f1p_ : Option Addr) (x36f1n_ x36f1c_ : Nat) (x36f2p_ : Option Addr) (x36f2n_ x36f2c_ : Nat), ∃ x36f3_ : Int, ∃ x36f4_ : ByteArray, ∃ (x36f5p_ : Option Addr) (x36f5n_ x36f5c_ : Nat), ∃ x36f6_ : Bool, cellsAt q_18 b_6 0 [(.string x36f0_), (.slice x36f1p_ x36f1n_ x36f1c_), (.slice x36f2p_ x36f2n_ x36f2c_), (.int .i64 x36f3_), (.string x36f4_), (.slice x36f5p_ x36f5n_ x36f5c_), (.bool x36f6_)] ∧
 SemH Tryz.prog (Instr.buildSlice 33 2 #[(0, (.agg #[(.string x35f0_), (.slice x35f1p_ x35f1n_ x35f1c_), (.slice x35f2p_ x35f2n_ x35f2c_), (.int .i64 x35f3_), (.string x35f4_), (.slice x35f5p_ x35f5n_ x35f5c_), (.bool x35f6_)])), (1, (.agg #[(.string x36f0_), (.slice x36f1p_ x36f1n_ x36f1c_), (.slice x36f2p_ x36f2n_ x36f2c_), (.int .i64 x36f3_), (.string x36f4_), (.slice x36f5p_ x36f5n_ x36f5c_), (.bool x36f6_)]))]) q_18 fun v_6 q_19 =>
 ∃ (x37p_ : Option Addr) (x37n_ x37c_ : Nat), v_6 = (.slice x37p_ x37n_ x37c_) ∧
 List.length [(Value.slice none 0 0), (.slice x31p_ x31n_ x31c_), (.slice none 0 0), (.slice x34p_ x34n_ x34c_), (.slice x37p_ x37n_ x37c_), (.slice none 0 0)] = 6 ∧ (∀ c ∈ [(Value.slice none 0 0), (.slice x31p_ x31n_ x31c_), (.slice none 0 0), (.slice x34p_ x34n_ x34c_), (.slice x37p_ x37n_ x37c_), (.slice none 0 0)], c.oneCell' = true) ∧ wrAt q_19 b_ 0 6 ∧ ∀ q_20, q_20 = setsH q_19 b_ 0 [(.slice none 0 0), (.slice x31p_ x31n_ x31c_), (.slice none 0 0), (.slice x34p_ x34n_ x34c_), (.slice x37p_ x37n_ x37c_), (.slice none 0 0)] →
 ∃ (resf0p_ : Option Addr) (resf0n_ resf0c_ : Nat) (resf1p_ : Option Addr) (resf1n_ resf1c_ : Nat) (resf2p_ : Option Addr) (resf2n_ resf2c_ : Nat) (resf3p_ : Option Addr) (resf3n_ resf3c_ : Nat) (resf4p_ : Option Addr) (resf4n_ resf4c_ : Nat) (resf5p_ : Option Addr) (resf5n_ resf5c_ : Nat), cellsAt q_20 b_ 0 [(.slice resf0p_ resf0n_ resf0c_), (.slice resf1p_ resf1n_ resf1c_), (.slice resf2p_ resf2n_ resf2c_), (.slice resf3p_ resf3n_ resf3c_), (.slice resf4p_ resf4n_ resf4c_), (.slice resf5p_ resf5n_ resf5c_)] ∧
 R (.returned (.agg #[(.slice resf0p_ resf0n_ resf0c_), (.slice resf1p_ resf1n_ resf1c_), (.slice resf2p_ resf2n_ resf2c_), (.slice resf3p_ resf3n_ resf3c_), (.slice resf4p_ resf4n_ resf4c_), (.slice resf5p_ resf5n_ resf5c_)])) q_20) :
 CallsH Tryz.prog 6 #[(.int .i64 width_)] h R := calls_vc fine false Tryz.func6 (ann := A6) (args := [(.int .i64 width_)]) (by kernel_rfl) (Eq.mpr (by kernel_rfl) H)
def A7 : Ann := (.seq .nil (.cut (.block (.seq .nil (.cond (.seq .nil .nil) (.seq (.join 11) (.cond (.seq .nil .nil) .nil))))) [] (.seq .nil .nil)))
theorem V7 (width_ : Int) (n_ : Int) (h : Hp) (R : Ending → Hp → Prop) (H :
 ∀ b_ q_, b_ = h.size → q_ = h.push (.cells (zeros Tryz.prog 40) 40) → (∃ i z, Tryz.prog.info? 40 = some i ∧ i.zero = some z) ∧
 ∃ Jv_ : List Value → Hp → Prop,
 (CallsH Tryz.prog 18 #[(.int .i64 width_)] q_ fun en_ q_1 =>
 ∃ x8_ : Bool, en_ = .returned (.bool x8_) ∧
 (((!x8_) = true →
 List.length [(Value.int .u64 (0 : Int)), (.int .u64 (0 : Int))] = 2 ∧ (∀ c ∈ [(Value.int .u64 (0 : Int)), (.int .u64 (0 : Int))], c.oneCell' = true) ∧ wrAt q_1 b_ 0 2 ∧ ∀ q_2, q_2 = setsH q_1 b_ 0 [(.int .u64 (0 : Int)), (.int .u64 (0 : Int))] →
 ∃ resf0_ : Int, ∃ resf1_ : Int, cellsAt q_2 b_ 0 [(.int .u64 resf0_), (.int .u64 resf1_)] ∧
 R (.returned (.tuple #[(.agg #[(.int .u64 resf0_), (.int .u64 resf1_)]), (.int .i64 (10 : Int))])) q_2) ∧
 ((!x8_) = false →
 ∃ B_ : Bool, ((((decide (n_ < (0 : Int))) = true →
 q_1 = q_1 ∧ B_ = true) ∧
 ((decide (n_ < (0 : Int))) = false →
 q_1 = q_1 ∧ B_ = (decide (width_ < n_))))) ∧
 ((B_ = true →
 List.length [(Value.int .u64 (0 : Int)), (.int .u64 (0 : Int))] = 2 ∧ (∀ c ∈ [(Value.int .u64 (0 : Int)), (.int .u64 (0 : Int))], c.oneCell' = true) ∧ wrAt q_1 b_ 0 2 ∧ ∀ q_3, q_3 = setsH q_1 b_ 0 [(.int .u64 (0 : Int)), (.int .u64 (0 : Int))] →
 ∃ resf0_1 : Int, ∃ resf1_1 : Int, cellsAt q_3 b_ 0 [(.int .u64 resf0_1), (.int .u64 resf1_1)] ∧
 R (.returned (.tuple #[(.agg #[(.int .u64 resf0_1), (.int .u64 resf1_1)]), (.int .i64 (1 : Int))])) q_3) ∧
 (B_ = false →
 Jv_ [] q_1))))) ∧
 (∀  q_4, Jv_ [] q_4 →
 CallsH Tryz.prog 20 #[(.int .i64 n_)] q_4 fun en_1 q_5 =>
 ∃ x21f0_ : Int, ∃ x21f1_ : Int, en_1 = .returned (.agg #[(.int .u64 x21f0_), (.int .u64 x21f1_)]) ∧
 ∃ x24_, IntKind.i64.wrap (width_ - n_) = x24_ ∧
 CallsH Tryz.prog 19 #[(.agg #[(.int .u64 x21f0_), (.int .u64 x21f1_)]), (.int .i64 x24_)] q_5 fun en_2 q_6 =>
 ∃ x25f0_ : Int, ∃ x25f1_ : Int, en_2 = .returned (.agg #[(.int .u64 x25f0_), (.int .u64 x25f1_)]) ∧
 List.length [(Value.int .u64 x25f0_), (.int .u64 x25f1_)] = 2 ∧ (∀ c ∈ [(Value.int .u64 x25f0_), (.int .u64 x25f1_)], c.oneCell' = true) ∧ wrAt q_6 b_ 0 2 ∧ ∀ q_7, q_7 = setsH q_6 b_ 0 [(.int .u64 x25f0_), (.int .u64 x25f1_)] →
 ∃ resf0_2 : Int, ∃ resf1_2 : Int, cellsAt q_7 b_ 0 [(.int .u64 resf0_2), (.int .u64 resf1_2)] ∧
 R (.returned (.tuple #[(.agg #[(.int .u64 resf0_2), (.int .u64 resf1_2)]), (.int .i64 (0 : Int))])) q_7)) :
 CallsH Tryz.prog 7 #[(.int .i64 width_), (.int .i64 n_)] h R := calls_vc fine false Tryz.func7 (ann := A7) (args := [(.int .i64 width_), (.int .i64 n_)]) (by kernel_rfl) (Eq.mpr (by kernel_rfl) H)
def A8 : Ann := (.seq .nil (.seq .nil .nil))
theorem V8 (af0_ : Int) (af1_ : Int) (bf0_ : Int) (bf1_ : Int) (h : Hp) (R : Ending → Hp → Prop) (H :
 ∀ b_ q_, b_ = h.size → q_ = h.push (.cells #[(.int .u64 af0_), (.int .u64 af1_)] 40) →
 ∀ b_1 q_1, b_1 = q_.size → q_1 = q_.push (.cells #[(.int .u64 bf0_), (.int .u64 bf1_)] 40) →
 ∀ b_2 q_2, b_2 = q_1.size → q_2 = q_1.push (.cells (zeros Tryz.prog 40) 40) → (∃ i z, Tryz.prog.info? 40 = some i ∧ i.zero = some z) ∧
 ∃ x6_ : Int, cellsAt q_2 b_ (0 + 0) [(.int .u64 x6_)] ∧
 ∃ x8_ : Int, cellsAt q_2 b_1 (0 + 0) [(.int .u64 x8_)] ∧
 ∃ x9_, andI .u64 x6_ x8_ = x9_ ∧
 ∃ x11_ : Int, cellsAt q_2 b_ (0 + 1) [(.int .u64 x11_)] ∧
 ∃ x13_ : Int, cellsAt q_2 b_1 (0 + 1) [(.int .u64 x13_)] ∧
 ∃ x14_, andI .u64 x11_ x13_ = x14_ ∧
 List.length [(Value.int .u64 x9_), (.int .u64 x14_)] = 2 ∧ (∀ c ∈ [(Value.int .u64 x9_), (.int .u64 x14_)], c.oneCell' = true) ∧ wrAt q_2 b_2 0 2 ∧ ∀ q_3, q_3 = setsH q_2 b_2 0 [(.int .u64 x9_), (.int .u64 x14_)] →
 ∃ resf0_ : Int, ∃ resf1_ : Int, cellsAt q_3 b_2 0 [(.int .u64 resf0_), (.int .u64 resf1_)] ∧
 R (.returned (.agg #[(.int .u64 resf0_), (.int .u64 resf1_)])) q_3) :
 CallsH Tryz.prog 8 #[(.agg #[(.int .u64 af0_), (.int .u64 af1_)]), (.agg #[(.int .u64 bf0_), (.int .u64 bf1_)])] h R := calls_vc fine false Tryz.func8 (ann := A8) (args := [(.agg #[(.int .u64 af0_), (.int .u64 af1_)]), (.agg #[(.int .u64 bf0_), (.int .u64 bf1_)])]) (by kernel_rfl) (Eq.mpr (by kernel_rfl) H)
def A9 : Ann := (.seq .nil (.seq (.seq .nil (.cond (.seq .nil .nil) .nil)) (.seq (.drawLast [0]) .nil)))
theorem V9 (af0_ : Int) (af1_ : Int) (width_ : Int) (h : Hp) (R : Ending → Hp → Prop) (H :
 ∀ b_ q_, b_ = h.size → q_ = h.push (.cells #[(.int .u64 af0_), (.int .u64 af1_)] 40) →
 ∀ b_1 q_1, b_1 = q_.size → q_1 = q_.push (.cells (zeros Tryz.prog 40) 40) → (∃ i z, Tryz.prog.info? 40 = some i ∧ i.zero = some z) ∧
 CallsH Tryz.prog 18 #[(.int .i64 width_)] q_1 fun en_ q_2 =>
 ∃ x6_ : Bool, en_ = .returned (.bool x6_) ∧
 (((!x6_) = true →
 List.length [(Value.int .u64 (0 : Int)), (.int .u64 (0 : Int))] = 2 ∧ (∀ c ∈ [(Value.int .u64 (0 : Int)), (.int .u64 (0 : Int))], c.oneCell' = true) ∧ wrAt q_2 b_1 0 2 ∧ ∀ q_3, q_3 = setsH q_2 b_1 0 [(.int .u64 (0 : Int)), (.int .u64 (0 : Int))] →
 ∃ resf0_ : Int, ∃ resf1_ : Int, cellsAt q_3 b_1 0 [(.int .u64 resf0_), (.int .u64 resf1_)] ∧
 R (.returned (.agg #[(.int .u64 resf0_), (.int .u64 resf1_)])) q_3) ∧
 ((!x6_) = false →
 ∃ Cv_ : Hp → Prop, Cv_ q_2 ∧
 ∃ x9f0_ : Int, ∃ x9f1_ : Int, (∀ h', Cv_ h' → cellsAt h' b_ 0 [(.int .u64 x9f0_), (.int .u64 x9f1_)]) ∧
 CallsH Tryz.prog 20 #[(.int .i64 width_)] q_2 fun en_1 q_4 =>
 ∃ x11f0_ : Int, ∃ x11f1_ : Int, en_1 = .returned (.agg #[(.int .u64 x11f0_), (.int .u64 x11f1_)]) ∧
 Cv_ q_4 ∧
 CallsH Tryz.prog 8 #[(.agg #[(.int .u64 x9f0_), (.int .u64 x9f1_)]), (.agg #[(.int .u64 x11f0_), (.int .u64 x11f1_)])] q_4 fun en_2 q_5 =>
 ∃ x12f0_ : Int, ∃ x12f1_ : Int, en_2 = .returned (.agg #[(.int .u64 x12f0_), (.int .u64 x12f1_)]) ∧
 Cv_ q_5 ∧
 List.length [(Value.int .u64 x12f0_), (.int .u64 x12f1_)] = 2 ∧ (∀ c ∈ [(Value.int .u64 x12f0_), (.int .u64 x12f1_)], c.oneCell' = true) ∧ wrAt q_5 b_1 0 2 ∧ ∀ q_6, q_6 = setsH q_5 b_1 0 [(.int .u64 x12f0_), (.int .u64 x12f1_)] →
 ∃ resf0_1 : Int, ∃ resf1_1 : Int, cellsAt q_6 b_1 0 [(.int .u64 resf0_1), (.int .u64 resf1_1)] ∧
 R (.returned (.agg #[(.int .u64 resf0_1), (.int .u64 resf1_1)])) q_6))) :
 CallsH Tryz.prog 9 #[(.agg #[(.int .u64 af0_), (.int .u64 af1_)]), (.int .i64 width_)] h R := calls_vc fine false Tryz.func9 (ann := A9) (args := [(.agg #[(.int .u64 af0_), (.int .u64 af1_)]), (.int .i64 width_)]) (by kernel_rfl) (Eq.mpr (by kernel_rfl) H)
def A10 : Ann := (.seq .nil (.seq .nil .nil))
theorem V10 (t_ : Option Addr) (opsp_ : Option Addr) (opsn_ opsc_ : Nat) (h : Hp) (R : Ending → Hp → Prop) (H :
 CallsH Tryz.prog 21 #[(.pointer t_), (.slice opsp_ opsn_ opsc_), (.bool false)] h fun en_ q_ =>
 ∃ x8r0_ : Int, ∃ x8r1_ : Int, en_ = .returned (.tuple #[(.int .i64 x8r0_), (.int .i64 x8r1_)]) ∧
 R (.returned (.tuple #[(.int .i64 x8r0_), (.int .i64 x8r1_)])) q_) :
 CallsH Tryz.prog 10 #[(.pointer t_), (.slice opsp_ opsn_ opsc_)] h R := calls_vc fine false Tryz.func10 (ann := A10) (args := [(.pointer t_), (.slice opsp_ opsn_ opsc_)]) (by kernel_rfl) (Eq.mpr (by kernel_rfl) H)
def A11 : Ann := (.seq .nil (.seq (.seq .nil (.cond (.seq .dead .dead) .nil)) (.seq .nil (.seq (.seq .nil (.cond (.seq .dead .dead) .nil)) (.seq (.seq .nil (.cond (.seq .dead .dead) .nil)) (.seq (.seq .nil (.block (.loop [(35, (.int .i64))] (.seq .nil (.seq (.cond .nil .nil) (.seq (.block (.seq .nil (.seq (.join 78) (.cond (.seq .dead .dead) .nil)))) .nil)))))) (.seq .nil (.seq .nil (.seq .nil (.seq (.seq .nil (.cond .nil .nil)) (.seq .nil .nil)))))))))))
theorem V11 (t_ : Option Addr) (table_ : ByteArray) (keyp_ : Option Addr) (keyn_ keyc_ : Nat) (h : Hp) (R : Ending → Hp → Prop) (H :
 ∀ b_ q_, b_ = h.size → q_ = h.push (.cells (zeros Tryz.prog 59) 59) → (∃ i z, Tryz.prog.info? 59 = some i ∧ i.zero = some z) ∧
 ∃ x13_, EqV Tryz.prog 25 (.pointer t_) (.pointer none) x13_ ∧
 ((x13_ = true →
 False) ∧
 (x13_ = false →
 CallsH Tryz.prog 22 #[(.pointer t_), (.string table_)] q_ fun en_ q_1 =>
 ∃ x17_ : Option Addr, en_ = .returned (.pointer x17_) ∧
 ∃ x19_, EqV Tryz.prog 74 (.pointer x17_) (.pointer none) x19_ ∧
 ((x19_ = true →
 False) ∧
 (x19_ = false →
 ∃ b_1 o_, x17_ = some ⟨b_1, o_, none⟩ ∧
 ∃ (x26p_ : Option Addr) (x26n_ x26c_ : Nat), cellsAt q_1 b_1 (o_ + 7) [(.slice x26p_ x26n_ x26c_)] ∧
 (((decide (((keyn_ : Nat) : Int) ≠ ((x26n_ : Nat) : Int))) = true →
 False) ∧
 ((decide (((keyn_ : Nat) : Int) ≠ ((x26n_ : Nat) : Int))) = false →
 ∃ b_2 o_1, x17_ = some ⟨b_2, o_1, none⟩ ∧
 ∃ (x33p_ : Option Addr) (x33n_ x33c_ : Nat), cellsAt q_1 b_2 (o_1 + 7) [(.slice x33p_ x33n_ x33c_)] ∧
 ∃ (Iv_ : List Value → Hp → Prop) (m_ : List Value → Hp → Nat), Iv_ [(.int .i64 (0 : Int))] q_1 ∧
 (∀ (x35_ : Int) q_2, Iv_ [(.int .i64 x35_)] q_2 →
 (((decide (x35_ < ((x33n_ : Nat) : Int))) = true →
 ∃ b_3 o_2, x33p_ = some ⟨b_3, o_2, none⟩ ∧ 0 ≤ x35_ ∧ x35_ < (x33n_ : Int) ∧
 ∃ x39_ : Int, cellsAt q_2 b_3 (o_2 + Int.toNat x35_ * 1) [(.int .i64 x39_)] ∧
 ∃ B_ : Bool, ((((decide (x39_ < (64 : Int))) = true →
 ∃ b_4 o_3, keyp_ = some ⟨b_4, o_3, none⟩ ∧ 0 ≤ x35_ ∧ x35_ < (keyn_ : Int) ∧
 ∃ x47_ : Int, cellsAt q_2 b_4 ((o_3 + Int.toNat x35_ * 2) + 0) [(.int .u64 x47_)] ∧
 (((decide (x47_ ≠ (0 : Int))) = true →
 q_2 = q_2 ∧ B_ = true) ∧
 ((decide (x47_ ≠ (0 : Int))) = false →
 ∃ b_5 o_4, keyp_ = some ⟨b_5, o_4, none⟩ ∧ 0 ≤ x35_ ∧ x35_ < (keyn_ : Int) ∧
 ∃ x54_ : Int, cellsAt q_2 b_5 ((o_4 + Int.toNat x35_ * 2) + 1) [(.int .u64 x54_)] ∧
 0 ≤ x39_ ∧ ∃ x56_, shrI .u64 x54_ x39_ = x56_ ∧
 (((decide (x56_ ≠ (0 : Int))) = true →
 q_2 = q_2 ∧ B_ = true) ∧
 ((decide (x56_ ≠ (0 : Int))) = false →
 (((decide ((64 : Int) ≤ x39_)) = true →
 (((decide (x39_ < (128 : Int))) = true →
 ∃ b_6 o_5, keyp_ = some ⟨b_6, o_5, none⟩ ∧ 0 ≤ x35_ ∧ x35_ < (keyn_ : Int) ∧
 ∃ x72_ : Int, cellsAt q_2 b_6 ((o_5 + Int.toNat x35_ * 2) + 0) [(.int .u64 x72_)] ∧
 ∃ x74_, IntKind.i64.wrap (x39_ - (64 : Int)) = x74_ ∧
 0 ≤ x74_ ∧ ∃ x75_, shrI .u64 x72_ x74_ = x75_ ∧
 q_2 = q_2 ∧ B_ = (decide (x75_ ≠ (0 : Int)))) ∧
 ((decide (x39_ < (128 : Int))) = false →
 q_2 = q_2 ∧ B_ = false))) ∧
 ((decide ((64 : Int) ≤ x39_)) = false →
 q_2 = q_2 ∧ B_ = false))))))) ∧
 ((decide (x39_ < (64 : Int))) = false →
 (((decide ((64 : Int) ≤ x39_)) = true →
 (((decide (x39_ < (128 : Int))) = true →
 ∃ b_7 o_6, keyp_ = some ⟨b_7, o_6, none⟩ ∧ 0 ≤ x35_ ∧ x35_ < (keyn_ : Int) ∧
 ∃ x72_1 : Int, cellsAt q_2 b_7 ((o_6 + Int.toNat x35_ * 2) + 0) [(.int .u64 x72_1)] ∧
 ∃ x74_1, IntKind.i64.wrap (x39_ - (64 : Int)) = x74_1 ∧
 0 ≤ x74_1 ∧ ∃ x75_1, shrI .u64 x72_1 x74_1 = x75_1 ∧
 q_2 = q_2 ∧ B_ = (decide (x75_1 ≠ (0 : Int)))) ∧
 ((decide (x39_ < (128 : Int))) = false →
 q_2 = q_2 ∧ B_ = false))) ∧
 ((decide ((64 : Int) ≤ x39_)) = false →
 q_2 = q_2 ∧ B_ = false))))) ∧
 ((B_ = true →
 False) ∧
 (B_ = false →
 ∃ x80_, IntKind.i64.wrap (x35_ + (1 : Int)) = x80_ ∧
 (Iv_ [(.int .i64 x80_)] q_2 ∧ m_ [(.int .i64 x80_)] q_2 < m_ [(.int .i64 x35_)] q_2)))) ∧
 ((decide (x35_ < ((x33n_ : Nat) : Int))) = false →
 ∀ b_8 q_3, b_8 = q_2.size → q_3 = q_2.push (.cells (zeros Tryz.prog 59) 59) → (∃ i z, Tryz.prog.info? 59 = some i ∧ i.zero = some z) ∧
 List.length [(Value.string table_), (.bool false), (.slice none 0 0), (.int .i64 (0 : Int)), (.string (⟨#[]⟩ : ByteArray)), (.slice none 0 0), (.string (⟨#[]⟩ : ByteArray)), (.slice none 0 0)] = 8 ∧ (∀ c ∈ [(Value.string table_), (.bool false), (.slice none 0 0), (.int .i64 (0 : Int)), (.string (⟨#[]⟩ : ByteArray)), (.slice none 0 0), (.string (⟨#[]⟩ : ByteArray)), (.slice none 0 0)], c.oneCell' = true) ∧ wrAt q_3 b_8 0 8 ∧ ∀ q_4, q_4 = setsH q_3 b_8 0 [(.string table_), (.bool false), (.slice none 0 0), (.int .i64 (0 : Int)), (.string (⟨#[]⟩ : ByteArray)), (.slice none 0 0), (.string (⟨#[]⟩ : ByteArray)), (.slice none 0 0)] →
 ∃ b_9 o_7, x17_ = some ⟨b_9, o_7, none⟩ ∧
 ∃ x87_ : Value, cellsAt q_4 b_9 (o_7 + 10) [x87_] ∧
 ∃ ty_ rcv_ fn_, x87_ = Value.iface ty_ rcv_ ∧ methF Tryz.prog ty_ "Find" = some fn_ ∧ bodied Tryz.prog fn_ = true ∧
 CallsH Tryz.prog fn_ #[rcv_, (.slice keyp_ keyn_ keyc_)] q_4 fun en_1 q_5 =>
 ∃ (x89r0f0p_ : Option Addr) (x89r0f0n_ x89r0f0c_ : Nat), ∃ x89r0f1_ : Int, ∃ x89r0f2_ : ByteArray, ∃ (x89r0f3p_ : Option Addr) (x89r0f3n_ x89r0f3c_ : Nat), ∃ x89r1_ : Bool, en_1 = .returned (.tuple #[(.agg #[(.slice x89r0f0p_ x89r0f0n_ x89r0f0c_), (.int .i64 x89r0f1_), (.string x89r0f2_), (.slice x89r0f3p_ x89r0f3n_ x89r0f3c_)]), (.bool x89r1_)]) ∧
 List.length [(Value.slice x89r0f0p_ x89r0f0n_ x89r0f0c_), (.int .i64 x89r0f1_), (.string x89r0f2_), (.slice x89r0f3p_ x89r0f3n_ x89r0f3c_)] = 4 ∧ (∀ c ∈ [(Value.slice x89r0f0p_ x89r0f0n_ x89r0f0c_), (.int .i64 x89r0f1_), (.string x89r0f2_), (.slice x89r0f3p_ x89r0f3n_ x89r0f3c_)], c.oneCell' = true) ∧ wrAt q_5 b_8 (0 + 2) 4 ∧ ∀ q_6, q_6 = setsH q_5 b_8 (0 + 2) [(.slice x89r0f0p_ x89r0f0n_ x89r0f0c_), (.int .i64 x89r0f1_), (.string x89r0f2_), (.slice x89r0f3p_ x89r0f3n_ x89r0f3c_)] →
 Value.oneCell' (.bool x89r1_) = true ∧ wrAt q_6 b_8 (0 + 1) 1 ∧ ∀ q_7, q_7 = setsH q_6 b_8 (0 + 1) [(.bool x89r1_)] →
 ∃ b_10 o_8, x17_ = some ⟨b_10, o_8, none⟩ ∧
 ∃ x97f0_ : ByteArray, ∃ (x97f1p_ : Option Addr) (x97f1n_ x97f1c_ : Nat), cellsAt q_7 b_10 (o_8 + 8) [(.string x97f0_), (.slice x97f1p_ x97f1n_ x97f1c_)] ∧
 CallsH Tryz.prog 15 #[(.agg #[(.string x97f0_), (.slice x97f1p_ x97f1n_ x97f1c_)])] q_7 fun en_2 q_8 =>
 ∃ x98f0_ : ByteArray, ∃ (x98f1p_ : Option Addr) (x98f1n_ x98f1c_ : Nat), en_2 = .returned (.agg #[(.string x98f0_), (.slice x98f1p_ x98f1n_ x98f1c_)]) ∧
 List.length [(Value.string x98f0_), (.slice x98f1p_ x98f1n_ x98f1c_)] = 2 ∧ (∀ c ∈ [(Value.string x98f0_), (.slice x98f1p_ x98f1n_ x98f1c_)], c.oneCell' = true) ∧ wrAt q_8 b_8 (0 + 6) 2 ∧ ∀ q_9, q_9 = setsH q_8 b_8 (0 + 6) [(.string x98f0_), (.slice x98f1p_ x98f1n_ x98f1c_)] →
 ∃ x101_ : Bool, cellsAt q_9 b_8 (0 + 1) [(.bool x101_)] ∧
 ((x101_ = true →
 ∃ x104f0_ : ByteArray, ∃ (x104f1p_ : Option Addr) (x104f1n_ x104f1c_ : Nat), cellsAt q_9 b_8 ((0 + 2) + 2) [(.string x104f0_), (.slice x104f1p_ x104f1n_ x104f1c_)] ∧
 CallsH Tryz.prog 15 #[(.agg #[(.string x104f0_), (.slice x104f1p_ x104f1n_ x104f1c_)])] q_9 fun en_3 q_10 =>
 ∃ x105f0_ : ByteArray, ∃ (x105f1p_ : Option Addr) (x105f1n_ x105f1c_ : Nat), en_3 = .returned (.agg #[(.string x105f0_), (.slice x105f1p_ x105f1n_ x105f1c_)]) ∧
 List.length [(Value.string x105f0_), (.slice x105f1p_ x105f1n_ x105f1c_)] = 2 ∧ (∀ c ∈ [(Value.string x105f0_), (.slice x105f1p_ x105f1n_ x105f1c_)], c.oneCell' = true) ∧ wrAt q_10 b_8 (0 + 6) 2 ∧ ∀ q_11, q_11 = setsH q_10 b_8 (0 + 6) [(.string x105f0_), (.slice x105f1p_ x105f1n_ x105f1c_)] →
 ∃ x107f0_ : ByteArray, ∃ x107f1_ : Bool, ∃ (x107f2p_ : Option Addr) (x107f2n_ x107f2c_ : Nat), ∃ x107f3_ : Int, ∃ x107f4_ : ByteArray, ∃ (x107f5p_ : Option Addr) (x107f5n_ x107f5c_ : Nat), ∃ x107f6_ : ByteArray, ∃ (x107f7p_ : Option Addr) (x107f7n_ x107f7c_ : Nat), cellsAt q_11 b_8 0 [(.string x107f0_), (.bool x107f1_), (.slice x107f2p_ x107f2n_ x107f2c_), (.int .i64 x107f3_), (.string x107f4_), (.slice x107f5p_ x107f5n_ x107f5c_), (.string x107f6_), (.slice x107f7p_ x107f7n_ x107f7c_)] ∧
 List.length [(Value.string x107f0_), (.bool x107f1_), (.slice x107f2p_ x107f2n_ x107f2c_), (.int .i64 x107f3_), (.string x107f4_), (.slice x107f5p_ x107f5n_ x107f5c_), (.string x107f6_), (.slice x107f7p_ x107f7n_ x107f7c_)] = 8 ∧ (∀ c ∈ [(Value.string x107f0_), (.bool x107f1_), (.slice x107f2p_ x107f2n_ x107f2c_), (.int .i64 x107f3_), (.string x107f4_), (.slice x107f5p_ x107f5n_ x107f5c_), (.string x107f6_), (.slice x107f7p_ x107f7n_ x107f7c_)], c.oneCell' = true) ∧ wrAt q_11 b_ 0 8 ∧ ∀ q_12, q_12 = setsH q_11 b_ 0 [(.string x107f0_), (.bool x107f1_), (.slice x107f2p_ x107f2n_ x107f2c_), (.int .i64 x107f3_), (.string x107f4_), (.slice x107f5p_ x107f5n_ x107f5c_), (.string x107f6_), (.slice x107f7p_ x107f7n_ x107f7c_)] →
 ∃ resf0_ : ByteArray, ∃ resf1_ : Bool, ∃ (resf2p_ : Option Addr) (resf2n_ resf2c_ : Nat), ∃ resf3_ : Int, ∃ resf4_ : ByteArray, ∃ (resf5p_ : Option Addr) (resf5n_ resf5c_ : Nat), ∃ resf6_ : ByteArray, ∃ (resf7p_ : Option Addr) (resf7n_ resf7c_ : Nat), cellsAt q_12 b_ 0 [(.string resf0_), (.bool resf1_), (.slice resf2p_ resf2n_ resf2c_), (.int .i64 resf3_), (.string resf4_), (.slice resf5p_ resf5n_ resf5c_), (.string resf6_), (.slice resf7p_ resf7n_ resf7c_)] ∧
 R (.returned (.tuple #[(.agg #[(.string resf0_), (.bool resf1_), (.slice resf2p_ resf2n_ resf2c_), (.int .i64 resf3_), (.string resf4_), (.slice resf5p_ resf5n_ resf5c_), (.string resf6_), (.slice resf7p_ resf7n_ resf7c_)]), (.int .i64 (0 : Int))])) q_12) ∧
 (x101_ = false →
 ∃ x107f0_1 : ByteArray, ∃ x107f1_1 : Bool, ∃ (x107f2p_1 : Option Addr) (x107f2n_1 x107f2c_1 : Nat), ∃ x107f3_1 : Int, ∃ x107f4_1 : ByteArray, ∃ (x107f5p_1 : Option Addr) (x107f5n_1 x107f5c_1 : Nat), ∃ x107f6_1 : ByteArray, ∃ (x107f7p_1 : Option Addr) (x107f7n_1 x107f7c_1 : Nat), cellsAt q_9 b_8 0 [(.string x107f0_1), (.bool x107f1_1), (.slice x107f2p_1 x107f2n_1 x107f2c_1), (.int .i64 x107f3_1), (.string x107f4_1), (.slice x107f5p_1 x107f5n_1 x107f5c_1), (.string x107f6_1), (.slice x107f7p_1 x107f7n_1 x107f7c_1)] ∧
 List.length [(Value.string x107f0_1), (.bool x107f1_1), (.slice x107f2p_1 x107f2n_1 x107f2c_1), (.int .i64 x107f3_1), (.string x107f4_1), (.slice x107f5p_1 x107f5n_1 x107f5c_1), (.string x107f6_1), (.slice x107f7p_1 x107f7n_1 x107f7c_1)] = 8 ∧ (∀ c ∈ [(Value.string x107f0_1), (.bool x107f1_1), (.slice x107f2p_1 x107f2n_1 x107f2c_1), (.int .i64 x107f3_1), (.string x107f4_1), (.slice x107f5p_1 x107f5n_1 x107f5c_1), (.string x107f6_1), (.slice x107f7p_1 x107f7n_1 x107f7c_1)], c.oneCell' = true) ∧ wrAt q_9 b_ 0 8 ∧ ∀ q_13, q_13 = setsH q_9 b_ 0 [(.string x107f0_1), (.bool x107f1_1), (.slice x107f2p_1 x107f2n_1 x107f2c_1), (.int .i64 x107f3_1), (.string x107f4_1), (.slice x107f5p_1 x107f5n_1 x107f5c_1), (.string x107f6_1), (.slice x107f7p_1 x107f7n_1 x107f7c_1)] →
 ∃ resf0_1 : ByteArray, ∃ resf1_1 : Bool, ∃ (resf2p_1 : Option Addr) (resf2n_1 resf2c_1 : Nat), ∃ resf3_1 : Int, ∃ resf4_1 : ByteArray, ∃ (resf5p_1 : Option Addr) (resf5n_1 resf5c_1 : Nat), ∃ resf6_1 : ByteArray, ∃ (resf7p_1 : Option Addr) (resf7n_1 resf7c_1 : Nat), cellsAt q_13 b_ 0 [(.string resf0_1), (.bool resf1_1), (.slice resf2p_1 resf2n_1 resf2c_1), (.int .i64 resf3_1), (.string resf4_1), (.slice resf5p_1 resf5n_1 resf5c_1), (.string resf6_1), (.slice resf7p_1 resf7n_1 resf7c_1)] ∧
 R (.returned (.tuple #[(.agg #[(.string resf0_1), (.bool resf1_1), (.slice resf2p_1 resf2n_1 resf2c_1), (.int .i64 resf3_1), (.string resf4_1), (.slice resf5p_1 resf5n_1 resf5c_1), (.string resf6_1), (.slice resf7p_1 resf7n_1 resf7c_1)]), (.int .i64 (0 : Int))])) q_13)))))))))))) :
 CallsH Tryz.prog 11 #[(.pointer t_), (.string table_), (.slice keyp_ keyn_ keyc_)] h R := calls_vc fine false Tryz.func11 (ann := A11) (args := [(.pointer t_), (.string table_), (.slice keyp_ keyn_ keyc_)]) (by kernel_rfl) (Eq.mpr (by kernel_rfl) H)
def A12 : Ann := (.seq .nil (.seq .nil (.seq (.join 4) .nil)))
theorem V12 (af0_ : ByteArray) (af1p_ : Option Addr) (af1n_ af1c_ : Nat) (bf0_ : ByteArray) (bf1p_ : Option Addr) (bf1n_ bf1c_ : Nat) (h : Hp) (R : Ending → Hp → Prop) (H :
 ∀ b_ q_, b_ = h.size → q_ = h.push (.cells #[(.string af0_), (.slice af1p_ af1n_ af1c_)] 48) →
 ∀ b_1 q_1, b_1 = q_.size → q_1 = q_.push (.cells #[(.string bf0_), (.slice bf1p_ bf1n_ bf1c_)] 48) →
 ∃ (x7p_ : Option Addr) (x7n_ x7c_ : Nat), cellsAt q_1 b_ (0 + 1) [(.slice x7p_ x7n_ x7c_)] ∧
 ∃ (x9p_ : Option Addr) (x9n_ x9c_ : Nat), cellsAt q_1 b_1 (0 + 1) [(.slice x9p_ x9n_ x9c_)] ∧
 CallsH Tryz.prog 23 #[(.slice x7p_ x7n_ x7c_), (.slice x9p_ x9n_ x9c_)] q_1 fun en_ q_2 =>
 ∃ x10_ : Bool, en_ = .returned (.bool x10_) ∧
 ∃ B_ : Bool, (((x10_ = true →
 ∃ x14_ : ByteArray, cellsAt q_2 b_ (0 + 0) [(.string x14_)] ∧
 ∃ x16_ : ByteArray, cellsAt q_2 b_1 (0 + 0) [(.string x16_)] ∧
 q_2 = q_2 ∧ B_ = (decide (x14_ = x16_))) ∧
 (x10_ = false →
 q_2 = q_2 ∧ B_ = false))) ∧
 R (.returned (.bool B_)) q_2) :
 CallsH Tryz.prog 12 #[(.agg #[(.string af0_), (.slice af1p_ af1n_ af1c_)]), (.agg #[(.string bf0_), (.slice bf1p_ bf1n_ bf1c_)])] h R := calls_vc fine false Tryz.func12 (ann := A12) (args := [(.agg #[(.string af0_), (.slice af1p_ af1n_ af1c_)]), (.agg #[(.string bf0_), (.slice bf1p_ bf1n_ bf1c_)])]) (by kernel_rfl) (Eq.mpr (by kernel_rfl) H)
def A13h : Ann := .nil
def A13 : Ann := (.seq .nil (.seq .nil (.seq .nil (.seq .nil (.seq .nil (.seq .nil (.seq .nil (.seq .nil (.seq .nil (.cut (.seq .nil (.seq .nil (.cond .dead .nil))) [] (.seq .nil (.seq .nil (.seq .nil .nil)))))))))))))
theorem V13 (sf0p_ : Option Addr) (sf0n_ sf0c_ : Nat) (sf1p_ : Option Addr) (sf1n_ sf1c_ : Nat) (sf2p_ : Option Addr) (sf2n_ sf2c_ : Nat) (sf3p_ : Option Addr) (sf3n_ sf3c_ : Nat) (sf4p_ : Option Addr) (sf4n_ sf4c_ : Nat) (sf5p_ : Option Addr) (sf5n_ sf5c_ : Nat) (h : Hp) (R : Ending → Hp → Prop) (H :
 ∀ b_ q_, b_ = h.size → q_ = h.push (.cells #[(.slice sf0p_ sf0n_ sf0c_), (.slice sf1p_ sf1n_ sf1c_), (.slice sf2p_ sf2n_ sf2c_), (.slice sf3p_ sf3n_ sf3c_), (.slice sf4p_ sf4n_ sf4c_), (.slice sf5p_ sf5n_ sf5c_)] 36) →
 ∀ b_1 q_1, b_1 = q_.size → q_1 = q_.push (.cells (zeros Tryz.prog 26) 26) → (∃ i z, Tryz.prog.info? 26 = some i ∧ i.zero = some z) ∧
 ∀ b_2 q_2, b_2 = q_1.size → q_2 = q_1.push (.cells (zeros Tryz.prog 9) 9) → (∃ i z, Tryz.prog.info? 9 = some i ∧ i.zero = some z) ∧
 ∃ (x8f0p_ : Option Addr) (x8f0n_ x8f0c_ : Nat) (x8f1p_ : Option Addr) (x8f1n_ x8f1c_ : Nat) (x8f2p_ : Option Addr) (x8f2n_ x8f2c_ : Nat) (x8f3p_ : Option Addr) (x8f3n_ x8f3c_ : Nat) (x8f4p_ : Option Addr) (x8f4n_ x8f4c_ : Nat) (x8f5p_ : Option Addr) (x8f5n_ x8f5c_ : Nat), cellsAt q_2 b_ 0 [(.slice x8f0p_ x8f0n_ x8f0c_), (.slice x8f1p_ x8f1n_ x8f1c_), (.slice x8f2p_ x8f2n_ x8f2c_), (.slice x8f3p_ x8f3n_ x8f3c_), (.slice x8f4p_ x8f4n_ x8f4c_), (.slice x8f5p_ x8f5n_ x8f5c_)] ∧
 ∀ b_3 q_3, b_3 = q_2.size → q_3 = q_2.push (.cells (zeros Tryz.prog 107) 107) → (∃ i z, Tryz.prog.info? 107 = some i ∧ i.zero = some z) ∧
 List.length [(Value.slice x8f0p_ x8f0n_ x8f0c_), (.slice x8f1p_ x8f1n_ x8f1c_), (.slice x8f2p_ x8f2n_ x8f2c_), (.slice x8f3p_ x8f3n_ x8f3c_), (.slice x8f4p_ x8f4n_ x8f4c_), (.slice x8f5p_ x8f5n_ x8f5c_), (.string (⟨#[]⟩ : ByteArray))] = 7 ∧ (∀ c ∈ [(Value.slice x8f0p_ x8f0n_ x8f0c_), (.slice x8f1p_ x8f1n_ x8f1c_), (.slice x8f2p_ x8f2n_ x8f2c_), (.slice x8f3p_ x8f3n_ x8f3c_), (.slice x8f4p_ x8f4n_ x8f4c_), (.slice x8f5p_ x8f5n_ x8f5c_), (.string (⟨#[]⟩ : ByteArray))], c.oneCell' = true) ∧ wrAt q_3 b_3 0 7 ∧ ∀ q_4, q_4 = setsH q_3 b_3 0 [(.slice x8f0p_ x8f0n_ x8f0c_), (.slice x8f1p_ x8f1n_ x8f1c_), (.slice x8f2p_ x8f2n_ x8f2c_), (.slice x8f3p_ x8f3n_ x8f3c_), (.slice x8f4p_ x8f4n_ x8f4c_), (.slice x8f5p_ x8f5n_ x8f5c_), (.string (⟨#[]⟩ : ByteArray))] →
 CallsH Tryz.prog 25 #[(.pointer (some ⟨b_3, 0, none⟩))] q_4 fun en_ q_5 =>
 en_ = .returned (.tuple #[]) ∧
 Value.oneCell' (.string (⟨#[109, 101, 116, 97]⟩ : ByteArray)) = true ∧ wrAt q_5 b_3 (0 + 6) 1 ∧ ∀ q_6, q_6 = setsH q_5 b_3 (0 + 6) [(.string (⟨#[109, 101, 116, 97]⟩ : ByteArray))] →
 ∃ (x13p_ : Option Addr) (x13n_ x13c_ : Nat), cellsAt q_6 b_ (0 + 1) [(.slice x13p_ x13n_ x13c_)] ∧
 CallsH Tryz.prog 26 #[(.pointer (some ⟨b_3, 0, none⟩)), (.bool (decide (((x13n_ : Nat) : Int) ≤ (32 : Int)))), (.int .i64 (74 : Int))] q_6 fun en_1 q_7 =>
 en_1 = .returned (.tuple #[]) ∧
 ∃ (x18p_ : Option Addr) (x18n_ x18c_ : Nat), cellsAt q_7 b_ (0 + 1) [(.slice x18p_ x18n_ x18c_)] ∧
 CallsH Tryz.prog 27 #[(.pointer (some ⟨b_3, 0, none⟩)), (.slice x18p_ x18n_ x18c_)] q_7 fun en_2 q_8 =>
 en_2 = .returned (.tuple #[]) ∧
 CallsH Tryz.prog 28 #[(.pointer (some ⟨b_3, 0, none⟩))] q_8 fun en_3 q_9 =>
 en_3 = .returned (.tuple #[]) ∧
 CallsH Tryz.prog 29 #[(.pointer (some ⟨b_3, 0, none⟩))] q_9 fun en_4 q_10 =>
 en_4 = .returned (.tuple #[]) ∧
 CallsH Tryz.prog 30 #[(.pointer (some ⟨b_3, 0, none⟩))] q_10 fun en_5 q_11 =>
 en_5 = .returned (.tuple #[]) ∧
 Value.oneCell' (.string (⟨#[99, 111, 110, 116, 114, 111, 108]⟩ : ByteArray)) = true ∧ wrAt q_11 b_3 (0 + 6) 1 ∧ ∀ q_12, q_12 = setsH q_11 b_3 (0 + 6) [(.string (⟨#[99, 111, 110, 116, 114, 111, 108]⟩ : ByteArray))] →
 ∃ Jv_ : List Value → Hp → Prop,
 (∃ (x24f0p_ : Option Addr) (x24f0n_ x24f0c_ : Nat) (x24f1p_ : Option Addr) (x24f1n_ x24f1c_ : Nat) (x24f2p_ : Option Addr) (x24f2n_ x24f2c_ : Nat) (x24f3p_ : Option Addr) (x24f3n_ x24f3c_ : Nat) (x24f4p_ : Option Addr) (x24f4n_ x24f4c_ : Nat) (x24f5p_ : Option Addr) (x24f5n_ x24f5c_ : Nat), cellsAt q_12 b_ 0 [(.slice x24f0p_ x24f0n_ x24f0c_), (.slice x24f1p_ x24f1n_ x24f1c_), (.slice x24f2p_ x24f2n_ x24f2c_), (.slice x24f3p_ x24f3n_ x24f3c_), (.slice x24f4p_ x24f4n_ x24f4c_), (.slice x24f5p_ x24f5n_ x24f5c_)] ∧
 CallsH Tryz.prog 31 #[(.agg #[(.slice x24f0p_ x24f0n_ x24f0c_), (.slice x24f1p_ x24f1n_ x24f1c_), (.slice x24f2p_ x24f2n_ x24f2c_), (.slice x24f3p_ x24f3n_ x24f3c_), (.slice x24f4p_ x24f4n_ x24f4c_), (.slice x24f5p_ x24f5n_ x24f5c_)])] q_12 fun en_6 q_13 =>
 ∃ x25_ : Int, en_6 = .returned (.int .i64 x25_) ∧
 (((decide (x25_ ≠ (0 : Int))) = true →
 False) ∧
 ((decide (x25_ ≠ (0 : Int))) = false →
 Jv_ [] q_13))) ∧
 (∀  q_14, Jv_ [] q_14 →
 ∀ r_ q_15, r_ = q_14.size → q_15 = q_14.push (.map #[] 0) →
 ∀ b_4 q_16, b_4 = q_15.size → q_16 = q_15.push (.cells (zeros Tryz.prog 111) 111) → (∃ i z, Tryz.prog.info? 111 = some i ∧ i.zero = some z) ∧
 Value.oneCell' (.map (some r_)) = true ∧ wrAt q_16 b_4 0 1 ∧ ∀ q_17, q_17 = setsH q_16 b_4 0 [(.map (some r_))] →
 ∃ (x32p_ : Option Addr) (x32n_ x32c_ : Nat), cellsAt q_17 b_ (0 + 5) [(.slice x32p_ x32n_ x32c_)] ∧
 CallsH Tryz.prog 32 #[(.slice x32p_ x32n_ x32c_), (.int .i64 (1 : Int)), (.func (.func 33) #[] #[(.pointer (some ⟨b_3, 0, none⟩)), (.pointer (some ⟨b_4, 0, none⟩))])] q_17 fun en_7 q_18 =>
 ∃ x34_ : Bool, en_7 = .returned (.bool x34_) ∧
 Value.oneCell' (.int .i64 (0 : Int)) = true ∧ wrAt q_18 b_1 0 1 ∧ ∀ q_19, q_19 = setsH q_18 b_1 0 [(.int .i64 (0 : Int))] →
 Value.oneCell' (.string (⟨#[]⟩ : ByteArray)) = true ∧ wrAt q_19 b_2 0 1 ∧ ∀ q_20, q_20 = setsH q_19 b_2 0 [(.string (⟨#[]⟩ : ByteArray))] →
 DefH Tryz.prog 24 #[(.pointer (some ⟨b_1, 0, none⟩)), (.pointer (some ⟨b_2, 0, none⟩))] .returning q_20 fun md_ q_21 =>
 settle md_ = .returning ∧
 ∃ res_ : Int, cellsAt q_21 b_1 0 [(.int .i64 res_)] ∧
 ∃ res_1 : ByteArray, cellsAt q_21 b_2 0 [(.string res_1)] ∧
 R (.returned (.tuple #[(.int .i64 res_), (.string res_1)])) q_21)) :
 CallsH Tryz.prog 13 #[(.agg #[(.slice sf0p_ sf0n_ sf0c_), (.slice sf1p_ sf1n_ sf1c_), (.slice sf2p_ sf2n_ sf2c_), (.slice sf3p_ sf3n_ sf3c_), (.slice sf4p_ sf4n_ sf4c_), (.slice sf5p_ sf5n_ sf5c_)])] h R := calls_vcD fine false Tryz.func13 (a0 := A13h) (a2 := A13) (args := [(.agg #[(.slice sf0p_ sf0n_ sf0c_), (.slice sf1p_ sf1n_ sf1c_), (.slice sf2p_ sf2n_ sf2c_), (.slice sf3p_ sf3n_ sf3c_), (.slice sf4p_ sf4n_ sf4c_), (.slice sf5p_ sf5n_ sf5c_)])]) (by kernel_rfl) (Eq.mpr (by kernel_rfl) H)
def A14 : Ann := (.seq .nil (.seq .nil (.seq (.seq .nil (.block (.loop [(14, (.int .i64))] (.seq .nil (.seq (.cond .nil .nil) (.seq (.block (.seq .dead .dead)) .dead)))))) (.seq .nil (.seq .nil (.seq (.seq .nil (.block (.loop [(41, (.int .i64))] (.seq .nil (.seq (.cond .nil .nil) (.seq (.block (.seq .dead .dead)) .dead)))))) (.seq .nil (.seq (.seq .nil (.block (.loop [(64, (.int .i64))] (.seq .nil (.seq (.cond .nil .nil) (.seq (.block (.seq .nil (.drawLast [1]))) .nil)))))) (.seq .nil (.seq (.seq .nil (.block (.loop [(85, (.int .i64))] (.seq .nil (.seq (.cond .nil .nil) (.seq (.block (.seq .nil (.drawLast [1]))) .nil)))))) (.seq .nil (.seq .nil .nil))))))))))))
theorem V14 (sf0p_ : Option Addr) (sf0n_ sf0c_ : Nat) (sf1p_ : Option Addr) (sf1n_ sf1c_ : Nat) (sf2p_ : Option Addr) (sf2n_ sf2c_ : Nat) (sf3p_ : Option Addr) (sf3n_ sf3c_ : Nat) (sf4p_ : Option Addr) (sf4n_ sf4c_ : Nat) (sf5p_ : Option Addr) (sf5n_ sf5c_ : Nat) (h : Hp) (R : Ending → Hp → Prop) (H :
 ∀ b_ q_, b_ = h.size → q_ = h.push (.cells #[(.slice sf0p_ sf0n_ sf0c_), (.slice sf1p_ sf1n_ sf1c_), (.slice sf2p_ sf2n_ sf2c_), (.slice sf3p_ sf3n_ sf3c_), (.slice sf4p_ sf4n_ sf4c_), (.slice sf5p_ sf5n_ sf5c_)] 36) →
 ∀ b_1 q_1, b_1 = q_.size → q_1 = q_.push (.cells (zeros Tryz.prog 36) 36) → (∃ i z, Tryz.prog.info? 36 = some i ∧ i.zero = some z) ∧
 ∃ (x8p_ : Option Addr) (x8n_ x8c_ : Nat), cellsAt q_1 b_ (0 + 0) [(.slice x8p_ x8n_ x8c_)] ∧
 CallsH Tryz.prog 35 #[(.slice x8p_ x8n_ x8c_)] q_1 fun en_ q_2 =>
 ∃ (x9p_ : Option Addr) (x9n_ x9c_ : Nat), en_ = .returned (.slice x9p_ x9n_ x9c_) ∧
 Value.oneCell' (.slice x9p_ x9n_ x9c_) = true ∧ wrAt q_2 b_ (0 + 0) 1 ∧ ∀ q_3, q_3 = setsH q_2 b_ (0 + 0) [(.slice x9p_ x9n_ x9c_)] →
 ∃ (x12p_ : Option Addr) (x12n_ x12c_ : Nat), cellsAt q_3 b_ (0 + 0) [(.slice x12p_ x12n_ x12c_)] ∧
 ∃ (Iv_ : List Value → Hp → Prop) (m_ : List Value → Hp → Nat), Iv_ [(.int .i64 (0 : Int))] q_3 ∧
 (∀ (x14_ : Int) q_4, Iv_ [(.int .i64 x14_)] q_4 →
 (((decide (x14_ < ((x12n_ : Nat) : Int))) = true →
 False) ∧
 ((decide (x14_ < ((x12n_ : Nat) : Int))) = false →
 ∃ (x31p_ : Option Addr) (x31n_ x31c_ : Nat), cellsAt q_4 b_ (0 + 1) [(.slice x31p_ x31n_ x31c_)] ∧
 CallsH Tryz.prog 36 #[(.slice x31p_ x31n_ x31c_)] q_4 fun en_1 q_5 =>
 ∃ (x32p_ : Option Addr) (x32n_ x32c_ : Nat), en_1 = .returned (.slice x32p_ x32n_ x32c_) ∧
 Value.oneCell' (.slice x32p_ x32n_ x32c_) = true ∧ wrAt q_5 b_ (0 + 1) 1 ∧ ∀ q_6, q_6 = setsH q_5 b_ (0 + 1) [(.slice x32p_ x32n_ x32c_)] →
 ∃ (x35p_ : Option Addr) (x35n_ x35c_ : Nat), cellsAt q_6 b_ (0 + 2) [(.slice x35p_ x35n_ x35c_)] ∧
 CallsH Tryz.prog 37 #[(.slice x35p_ x35n_ x35c_)] q_6 fun en_2 q_7 =>
 ∃ (x36p_ : Option Addr) (x36n_ x36c_ : Nat), en_2 = .returned (.slice x36p_ x36n_ x36c_) ∧
 Value.oneCell' (.slice x36p_ x36n_ x36c_) = true ∧ wrAt q_7 b_ (0 + 2) 1 ∧ ∀ q_8, q_8 = setsH q_7 b_ (0 + 2) [(.slice x36p_ x36n_ x36c_)] →
 ∃ (x39p_ : Option Addr) (x39n_ x39c_ : Nat), cellsAt q_8 b_ (0 + 2) [(.slice x39p_ x39n_ x39c_)] ∧
 ∃ (Iv_1 : List Value → Hp → Prop) (m_1 : List Value → Hp → Nat), Iv_1 [(.int .i64 (0 : Int))] q_8 ∧
 (∀ (x41_ : Int) q_9, Iv_1 [(.int .i64 x41_)] q_9 →
 (((decide (x41_ < ((x39n_ : Nat) : Int))) = true →
 False) ∧
 ((decide (x41_ < ((x39n_ : Nat) : Int))) = false →
 ∃ (x58p_ : Option Addr) (x58n_ x58c_ : Nat), cellsAt q_9 b_ (0 + 3) [(.slice x58p_ x58n_ x58c_)] ∧
 CallsH Tryz.prog 39 #[(.slice x58p_ x58n_ x58c_)] q_9 fun en_3 q_10 =>
 ∃ (x59p_ : Option Addr) (x59n_ x59c_ : Nat), en_3 = .returned (.slice x59p_ x59n_ x59c_) ∧
 Value.oneCell' (.slice x59p_ x59n_ x59c_) = true ∧ wrAt q_10 b_ (0 + 3) 1 ∧ ∀ q_11, q_11 = setsH q_10 b_ (0 + 3) [(.slice x59p_ x59n_ x59c_)] →
 ∃ (x62p_ : Option Addr) (x62n_ x62c_ : Nat), cellsAt q_11 b_ (0 + 3) [(.slice x62p_ x62n_ x62c_)] ∧
 ∃ (Iv_2 : List Value → Hp → Prop) (m_2 : List Value → Hp → Nat), Iv_2 [(.int .i64 (0 : Int))] q_11 ∧
 (∀ (x64_ : Int) q_12, Iv_2 [(.int .i64 x64_)] q_12 →
 (((decide (x64_ < ((x62n_ : Nat) : Int))) = true →
 ∃ Cv_ : Hp → Prop, Cv_ q_12 ∧
 ∃ (x68p_ : Option Addr) (x68n_ x68c_ : Nat), (∀ h', Cv_ h' → cellsAt h' b_ (0 + 3) [(.slice x68p_ x68n_ x68c_)]) ∧
 ∃ (x71p_ : Option Addr) (x71n_ x71c_ : Nat), cellsAt q_12 b_ (0 + 3) [(.slice x71p_ x71n_ x71c_)] ∧
 ∃ b_2 o_, x71p_ = some ⟨b_2, o_, none⟩ ∧ 0 ≤ x64_ ∧ x64_ < (x71n_ : Int) ∧
 ∃ x74f0_ : ByteArray, ∃ (x74f1p_ : Option Addr) (x74f1n_ x74f1c_ : Nat) (x74f2p_ : Option Addr) (x74f2n_ x74f2c_ : Nat), cellsAt q_12 b_2 (o_ + Int.toNat x64_ * 3) [(.string x74f0_), (.slice x74f1p_ x74f1n_ x74f1c_), (.slice x74f2p_ x74f2n_ x74f2c_)] ∧
 CallsH Tryz.prog 40 #[(.agg #[(.string x74f0_), (.slice x74f1p_ x74f1n_ x74f1c_), (.slice x74f2p_ x74f2n_ x74f2c_)])] q_12 fun en_4 q_13 =>
 ∃ x75f0_ : ByteArray, ∃ (x75f1p_ : Option Addr) (x75f1n_ x75f1c_ : Nat) (x75f2p_ : Option Addr) (x75f2n_ x75f2c_ : Nat), en_4 = .returned (.agg #[(.string x75f0_), (.slice x75f1p_ x75f1n_ x75f1c_), (.slice x75f2p_ x75f2n_ x75f2c_)]) ∧
 Cv_ q_13 ∧
 ∃ b_3 o_1, x68p_ = some ⟨b_3, o_1, none⟩ ∧ 0 ≤ x64_ ∧ x64_ < (x68n_ : Int) ∧
 List.length [(Value.string x75f0_), (.slice x75f1p_ x75f1n_ x75f1c_), (.slice x75f2p_ x75f2n_ x75f2c_)] = 3 ∧ (∀ c ∈ [(Value.string x75f0_), (.slice x75f1p_ x75f1n_ x75f1c_), (.slice x75f2p_ x75f2n_ x75f2c_)], c.oneCell' = true) ∧ wrAt q_13 b_3 (o_1 + Int.toNat x64_ * 3) 3 ∧ ∀ q_14, q_14 = setsH q_13 b_3 (o_1 + Int.toNat x64_ * 3) [(.string x75f0_), (.slice x75f1p_ x75f1n_ x75f1c_), (.slice x75f2p_ x75f2n_ x75f2c_)] →
 ∃ x77_, IntKind.i64.wrap (x64_ + (1 : Int)) = x77_ ∧
 (Iv_2 [(.int .i64 x77_)] q_14 ∧ m_2 [(.int .i64 x77_)] q_14 < m_2 [(.int .i64 x64_)] q_12)) ∧
 ((decide (x64_ < ((x62n_ : Nat) : Int))) = false →
 ∃ (x79p_ : Option Addr) (x79n_ x79c_ : Nat), cellsAt q_12 b_ (0 + 4) [(.slice x79p_ x79n_ x79c_)] ∧
 CallsH Tryz.prog 41 #[(.slice x79p_ x79n_ x79c_)] q_12 fun en_5 q_15 =>
 ∃ (x80p_ : Option Addr) (x80n_ x80c_ : Nat), en_5 = .returned (.slice x80p_ x80n_ x80c_) ∧
 Value.oneCell' (.slice x80p_ x80n_ x80c_) = true ∧ wrAt q_15 b_ (0 + 4) 1 ∧ ∀ q_16, q_16 = setsH q_15 b_ (0 + 4) [(.slice x80p_ x80n_ x80c_)] →
 ∃ (x83p_ : Option Addr) (x83n_ x83c_ : Nat), cellsAt q_16 b_ (0 + 4) [(.slice x83p_ x83n_ x83c_)] ∧
 ∃ (Iv_3 : List Value → Hp → Prop) (m_3 : List Value → Hp → Nat), Iv_3 [(.int .i64 (0 : Int))] q_16 ∧
 (∀ (x85_ : Int) q_17, Iv_3 [(.int .i64 x85_)] q_17 →
 (((decide (x85_ < ((x83n_ : Nat) : Int))) = true →
 ∃ Cv_1 : Hp → Prop, Cv_1 q_17 ∧
 ∃ (x89p_ : Option Addr) (x89n_ x89c_ : Nat), (∀ h', Cv_1 h' → cellsAt h' b_ (0 + 4) [(.slice x89p_ x89n_ x89c_)]) ∧
 ∃ (x92p_ : Option Addr) (x92n_ x92c_ : Nat), cellsAt q_17 b_ (0 + 4) [(.slice x92p_ x92n_ x92c_)] ∧
 ∃ b_4 o_2, x92p_ = some ⟨b_4, o_2, none⟩ ∧ 0 ≤ x85_ ∧ x85_ < (x92n_ : Int) ∧
 ∃ x95f0_ : ByteArray, ∃ (x95f1p_ : Option Addr) (x95f1n_ x95f1c_ : Nat) (x95f2p_ : Option Addr) (x95f2n_ x95f2c_ : Nat), ∃ x95f3_ : Int, ∃ x95f4_ : ByteArray, ∃ (x95f5p_ : Option Addr) (x95f5n_ x95f5c_ : Nat), ∃ x95f6_ : Bool, cellsAt q_17 b_4 (o_2 + Int.toNat x85_ * 7) [(.string x95f0_), (.slice x95f1p_ x95f1n_ x95f1c_), (.slice x95f2p_ x95f2n_ x95f2c_), (.int .i64 x95f3_), (.string x95f4_), (.slice x95f5p_ x95f5n_ x95f5c_), (.bool x95f6_)] ∧
 CallsH Tryz.prog 42 #[(.agg #[(.string x95f0_), (.slice x95f1p_ x95f1n_ x95f1c_), (.slice x95f2p_ x95f2n_ x95f2c_), (.int .i64 x95f3_), (.string x95f4_), (.slice x95f5p_ x95f5n_ x95f5c_), (.bool x95f6_)])] q_17 fun en_6 q_18 =>
 ∃ x96f0_ : ByteArray, ∃ (x96f1p_ : Option Addr) (x96f1n_ x96f1c_ : Nat) (x96f2p_ : Option Addr) (x96f2n_ x96f2c_ : Nat), ∃ x96f3_ : Int, ∃ x96f4_ : ByteArray, ∃ (x96f5p_ : Option Addr) (x96f5n_ x96f5c_ : Nat), ∃ x96f6_ : Bool, en_6 = .returned (.agg #[(.string x96f0_), (.slice x96f1p_ x96f1n_ x96f1c_), (.slice x96f2p_ x96f2n_ x96f2c_), (.int .i64 x96f3_), (.string x96f4_), (.slice x96f5p_ x96f5n_ x96f5c_), (.bool x96f6_)]) ∧
 Cv_1 q_18 ∧
 ∃ b_5 o_3, x89p_ = some ⟨b_5, o_3, none⟩ ∧ 0 ≤ x85_ ∧ x85_ < (x89n_ : Int) ∧
 List.length [(Value.string x96f0_), (.slice x96f1p_ x96f1n_ x96f1c_), (.slice x96f2p_ x96f2n_ x96f2c_), (.int .i64 x96f3_), (.string x96f4_), (.slice x96f5p_ x96f5n_ x96f5c_), (.bool x96f6_)] = 7 ∧ (∀ c ∈ [(Value.string x96f0_), (.slice x96f1p_ x96f1n_ x96f1c_), (.slice x96f2p_ x96f2n_ x96f2c_), (.int .i64 x96f3_), (.string x96f4_), (.slice x96f5p_ x96f5n_ x96f5c_), (.bool x96f6_)], c.oneCell' = true) ∧ wrAt q_18 b_5 (o_3 + Int.toNat x85_ * 7) 7 ∧ ∀ q_19, q_19 = setsH q_18 b_5 (o_3 + Int.toNat x85_ * 7) [(.string x96f0_), (.slice x96f1p_ x96f1n_ x96f1c_), (.slice x96f2p_ x96f2n_ x96f2c_), (.int .i64 x96f3_), (.string x96f4_), (.slice x96f5p_ x96f5n_ x96f5c_), (.bool x96f6_)] →
 ∃ x98_, IntKind.i64.wrap (x85_ + (1 : Int)) = x98_ ∧
 (Iv_3 [(.int .i64 x98_)] q_19 ∧ m_3 [(.int .i64 x98_)] q_19 < m_3 [(.int .i64 x85_)] q_17)) ∧
 ((decide (x85_ < ((x83n_ : Nat) : Int))) = false →
 ∃ (x100p_ : Option Addr) (x100n_ x100c_ : Nat), cellsAt q_17 b_ (0 + 5) [(.slice x100p_ x100n_ x100c_)] ∧
 CallsH Tryz.prog 43 #[(.slice x100p_ x100n_ x100c_)] q_17 fun en_7 q_20 =>
 ∃ (x101p_ : Option Addr) (x101n_ x101c_ : Nat), en_7 = .returned (.slice x101p_ x101n_ x101c_) ∧
 Value.oneCell' (.slice x101p_ x101n_ x101c_) = true ∧ wrAt q_20 b_ (0 + 5) 1 ∧ ∀ q_21, q_21 = setsH q_20 b_ (0 + 5) [(.slice x101p_ x101n_ x101c_)] →
 ∃ (x103f0p_ : Option Addr) (x103f0n_ x103f0c_ : Nat) (x103f1p_ : Option Addr) (x103f1n_ x103f1c_ : Nat) (x103f2p_ : Option Addr) (x103f2n_ x103f2c_ : Nat) (x103f3p_ : Option Addr) (x103f3n_ x103f3c_ : Nat) (x103f4p_ : Option Addr) (x103f4n_ x103f4c_ : Nat) (x103f5p_ : Option Addr) (x103f5n_ x103f5c_ : Nat), cellsAt q_21 b_ 0 [(.slice x103f0p_ x103f0n_ x103f0c_), (.slice x103f1p_ x103f1n_ x103f1c_), (.slice x103f2p_ x103f2n_ x103f2c_), (.slice x103f3p_ x103f3n_ x103f3c_), (.slice x103f4p_ x103f4n_ x103f4c_), (.slice x103f5p_ x103f5n_ x103f5c_)] ∧
 List.length [(Value.slice x103f0p_ x103f0n_ x103f0c_), (.slice x103f1p_ x103f1n_ x103f1c_), (.slice x103f2p_ x103f2n_ x103f2c_), (.slice x103f3p_ x103f3n_ x103f3c_), (.slice x103f4p_ x103f4n_ x103f4c_), (.slice x103f5p_ x103f5n_ x103f5c_)] = 6 ∧ (∀ c ∈ [(Value.slice x103f0p_ x103f0n_ x103f0c_), (.slice x103f1p_ x103f1n_ x103f1c_), (.slice x103f2p_ x103f2n_ x103f2c_), (.slice x103f3p_ x103f3n_ x103f3c_), (.slice x103f4p_ x103f4n_ x103f4c_), (.slice x103f5p_ x103f5n_ x103f5c_)], c.oneCell' = true) ∧ wrAt q_21 b_1 0 6 ∧ ∀ q_22, q_22 = setsH q_21 b_1 0 [(.slice x103f0p_ x103f0n_ x103f0c_), (.slice x103f1p_ x103f1n_ x103f1c_), (.slice x103f2p_ x103f2n_ x103f2c_), (.slice x103f3p_ x103f3n_ x103f3c_), (.slice x103f4p_ x103f4n_ x103f4c_), (.slice x103f5p_ x103f5n_ x103f5c_)] →
 ∃ (resf0p_ : Option Addr) (resf0n_ resf0c_ : Nat) (resf1p_ : Option Addr) (resf1n_ resf1c_ : Nat) (resf2p_ : Option Addr) (resf2n_ resf2c_ : Nat) (resf3p_ : Option Addr) (resf3n_ resf3c_ : Nat) (resf4p_ : Option Addr) (resf4n_ resf4c_ : Nat) (resf5p_ : Option Addr) (resf5n_ resf5c_ : Nat), cellsAt q_22 b_1 0 [(.slice resf0p_ resf0n_ resf0c_), (.slice resf1p_ resf1n_ resf1c_), (.slice resf2p_ resf2n_ resf2c_), (.slice resf3p_ resf3n_ resf3c_), (.slice resf4p_ resf4n_ resf4c_), (.slice resf5p_ resf5n_ resf5c_)] ∧
 R (.returned (.agg #[(.slice resf0p_ resf0n_ resf0c_), (.slice resf1p_ resf1n_ resf1c_), (.slice resf2p_ resf2n_ resf2c_), (.slice resf3p_ resf3n_ resf3c_), (.slice resf4p_ resf4n_ resf4c_), (.slice resf5p_ resf5n_ resf5c_)])) q_22))))))))))))) :
 CallsH Tryz.prog 14 #[(.agg #[(.slice sf0p_ sf0n_ sf0c_), (.slice sf1p_ sf1n_ sf1c_), (.slice sf2p_ sf2n_ sf2c_), (.slice sf3p_ sf3n_ sf3c_), (.slice sf4p_ sf4n_ sf4c_), (.slice sf5p_ sf5n_ sf5c_)])] h R := calls_vc fine false Tryz.func14 (ann := A14) (args := [(.agg #[(.slice sf0p_ sf0n_ sf0c_), (.slice sf1p_ sf1n_ sf1c_), (.slice sf2p_ sf2n_ sf2c_), (.slice sf3p_ sf3n_ sf3c_), (.slice sf4p_ sf4n_ sf4c_), (.slice sf5p_ sf5n_ sf5c_)])]) (by kernel_rfl) (Eq.mpr (by kernel_rfl) H)
def A15 : Ann := (.seq .nil (.seq (.drawLast [1]) .nil))
theorem V15 (cf0_ : ByteArray) (cf1p_ : Option Addr) (cf1n_ cf1c_ : Nat) (h : Hp) (R : Ending → Hp → Prop) (H :
 ∀ b_ q_, b_ = h.size → q_ = h.push (.cells #[(.string cf0_), (.slice cf1p_ cf1n_ cf1c_)] 48) →
 ∀ b_1 q_1, b_1 = q_.size → q_1 = q_.push (.cells (zeros Tryz.prog 48) 48) → (∃ i z, Tryz.prog.info? 48 = some i ∧ i.zero = some z) ∧
 ∃ Cv_ : Hp → Prop, Cv_ q_1 ∧
 ∃ x4_ : ByteArray, (∀ h', Cv_ h' → cellsAt h' b_ (0 + 0) [(.string x4_)]) ∧
 ∃ (x6p_ : Option Addr) (x6n_ x6c_ : Nat), cellsAt q_1 b_ (0 + 1) [(.slice x6p_ x6n_ x6c_)] ∧
 CallsH Tryz.prog 44 #[(.slice x6p_ x6n_ x6c_)] q_1 fun en_ q_2 =>
 ∃ (x7p_ : Option Addr) (x7n_ x7c_ : Nat), en_ = .returned (.slice x7p_ x7n_ x7c_) ∧
 Cv_ q_2 ∧
 List.length [(Value.string x4_), (.slice x7p_ x7n_ x7c_)] = 2 ∧ (∀ c ∈ [(Value.string x4_), (.slice x7p_ x7n_ x7c_)], c.oneCell' = true) ∧ wrAt q_2 b_1 0 2 ∧ ∀ q_3, q_3 = setsH q_2 b_1 0 [(.string x4_), (.slice x7p_ x7n_ x7c_)] →
 ∃ resf0_ : ByteArray, ∃ (resf1p_ : Option Addr) (resf1n_ resf1c_ : Nat), cellsAt q_3 b_1 0 [(.string resf0_), (.slice resf1p_ resf1n_ resf1c_)] ∧
 R (.returned (.agg #[(.string resf0_), (.slice resf1p_ resf1n_ resf1c_)])) q_3) :
 CallsH Tryz.prog 15 #[(.agg #[(.string cf0_), (.slice cf1p_ cf1n_ cf1c_)])] h R := calls_vc fine false Tryz.func15 (ann := A15) (args := [(.agg #[(.string cf0_), (.slice cf1p_ cf1n_ cf1c_)])]) (by kernel_rfl) (Eq.mpr (by kernel_rfl) H)
def A16 : Ann := (.seq .nil (.seq .nil (.seq (.seq .nil (.cond (.seq .nil .nil) .nil)) (.seq .nil (.seq (.seq .nil (.block (.loop [(7, .slice), (22, (.int .i64))] (.seq .nil (.seq (.cond .nil .nil) (.seq (.block (.seq .nil .nil)) .nil)))))) (.seq .nil .nil))))))
theorem V16 (sf0p_ : Option Addr) (sf0n_ sf0c_ : Nat) (sf1p_ : Option Addr) (sf1n_ sf1c_ : Nat) (sf2p_ : Option Addr) (sf2n_ sf2c_ : Nat) (sf3p_ : Option Addr) (sf3n_ sf3c_ : Nat) (sf4p_ : Option Addr) (sf4n_ sf4c_ : Nat) (sf5p_ : Option Addr) (sf5n_ sf5c_ : Nat) (table_ : ByteArray) (h : Hp) (R : Ending → Hp → Prop) (H :
 ∀ b_ q_, b_ = h.size → q_ = h.push (.cells #[(.slice sf0p_ sf0n_ sf0c_), (.slice sf1p_ sf1n_ sf1c_), (.slice sf2p_ sf2n_ sf2c_), (.slice sf3p_ sf3n_ sf3c_), (.slice sf4p_ sf4n_ sf4c_), (.slice sf5p_ sf5n_ sf5c_)] 36) →
 ∃ (x10f0p_ : Option Addr) (x10f0n_ x10f0c_ : Nat) (x10f1p_ : Option Addr) (x10f1n_ x10f1c_ : Nat) (x10f2p_ : Option Addr) (x10f2n_ x10f2c_ : Nat) (x10f3p_ : Option Addr) (x10f3n_ x10f3c_ : Nat) (x10f4p_ : Option Addr) (x10f4n_ x10f4c_ : Nat) (x10f5p_ : Option Addr) (x10f5n_ x10f5c_ : Nat), cellsAt q_ b_ 0 [(.slice x10f0p_ x10f0n_ x10f0c_), (.slice x10f1p_ x10f1n_ x10f1c_), (.slice x10f2p_ x10f2n_ x10f2c_), (.slice x10f3p_ x10f3n_ x10f3c_), (.slice x10f4p_ x10f4n_ x10f4c_), (.slice x10f5p_ x10f5n_ x10f5c_)] ∧
 CallsH Tryz.prog 45 #[(.agg #[(.slice x10f0p_ x10f0n_ x10f0c_), (.slice x10f1p_ x10f1n_ x10f1c_), (.slice x10f2p_ x10f2n_ x10f2c_), (.slice x10f3p_ x10f3n_ x10f3c_), (.slice x10f4p_ x10f4n_ x10f4c_), (.slice x10f5p_ x10f5n_ x10f5c_)]), (.string table_)] q_ fun en_ q_1 =>
 ∃ x12_ : Int, en_ = .returned (.int .i64 x12_) ∧
 (((decide (x12_ < (0 : Int))) = true →
 R (.returned (.tuple #[(.slice none 0 0), (.int .i64 (110 : Int))])) q_1) ∧
 ((decide (x12_ < (0 : Int))) = false →
 ∃ (x16p_ : Option Addr) (x16n_ x16c_ : Nat), cellsAt q_1 b_ (0 + 4) [(.slice x16p_ x16n_ x16c_)] ∧
 ∃ b_1 o_, x16p_ = some ⟨b_1, o_, none⟩ ∧ 0 ≤ x12_ ∧ x12_ < (x16n_ : Int) ∧
 ∃ (x20p_ : Option Addr) (x20n_ x20c_ : Nat), cellsAt q_1 b_1 ((o_ + Int.toNat x12_ * 7) + 1) [(.slice x20p_ x20n_ x20c_)] ∧
 ∃ (Iv_ : List Value → Hp → Prop) (m_ : List Value → Hp → Nat), Iv_ [(.slice none 0 0), (.int .i64 (0 : Int))] q_1 ∧
 (∀ (lp_ : Option Addr) (ln_ lc_ : Nat) (x22_ : Int) q_2, Iv_ [(.slice lp_ ln_ lc_), (.int .i64 x22_)] q_2 →
 (((decide (x22_ < ((x20n_ : Nat) : Int))) = true →
 ∃ b_2 o_1, x20p_ = some ⟨b_2, o_1, none⟩ ∧ 0 ≤ x22_ ∧ x22_ < (x20n_ : Int) ∧
 ∃ x25f0_ : ByteArray, ∃ x25f1_ : ByteArray, ∃ x25f2_ : Int, cellsAt q_2 b_2 (o_1 + Int.toNat x22_ * 3) [(.string x25f0_), (.string x25f1_), (.int .i64 x25f2_)] ∧
 ∀ b_3 q_3, b_3 = q_2.size → q_3 = q_2.push (.cells (zeros Tryz.prog 94) 94) → (∃ i z, Tryz.prog.info? 94 = some i ∧ i.zero = some z) ∧
 List.length [(Value.string x25f0_), (.string x25f1_), (.int .i64 x25f2_)] = 3 ∧ (∀ c ∈ [(Value.string x25f0_), (.string x25f1_), (.int .i64 x25f2_)], c.oneCell' = true) ∧ wrAt q_3 b_3 0 3 ∧ ∀ q_4, q_4 = setsH q_3 b_3 0 [(.string x25f0_), (.string x25f1_), (.int .i64 x25f2_)] →
 ∃ (x27f0p_ : Option Addr) (x27f0n_ x27f0c_ : Nat) (x27f1p_ : Option Addr) (x27f1n_ x27f1c_ : Nat) (x27f2p_ : Option Addr) (x27f2n_ x27f2c_ : Nat) (x27f3p_ : Option Addr) (x27f3n_ x27f3c_ : Nat) (x27f4p_ : Option Addr) (x27f4n_ x27f4c_ : Nat) (x27f5p_ : Option Addr) (x27f5n_ x27f5c_ : Nat), cellsAt q_4 b_ 0 [(.slice x27f0p_ x27f0n_ x27f0c_), (.slice x27f1p_ x27f1n_ x27f1c_), (.slice x27f2p_ x27f2n_ x27f2c_), (.slice x27f3p_ x27f3n_ x27f3c_), (.slice x27f4p_ x27f4n_ x27f4c_), (.slice x27f5p_ x27f5n_ x27f5c_)] ∧
 ∃ x29f0_ : ByteArray, ∃ x29f1_ : ByteArray, cellsAt q_4 b_3 (0 + 0) [(.string x29f0_), (.string x29f1_)] ∧
 CallsH Tryz.prog 46 #[(.agg #[(.slice x27f0p_ x27f0n_ x27f0c_), (.slice x27f1p_ x27f1n_ x27f1c_), (.slice x27f2p_ x27f2n_ x27f2c_), (.slice x27f3p_ x27f3n_ x27f3c_), (.slice x27f4p_ x27f4n_ x27f4c_), (.slice x27f5p_ x27f5n_ x27f5c_)]), (.agg #[(.string x29f0_), (.string x29f1_)])] q_4 fun en_1 q_5 =>
 ∃ x30_ : Int, en_1 = .returned (.int .i64 x30_) ∧
 SemH Tryz.prog (Instr.buildSlice 76 1 #[(0, (.int .i64 x30_))]) q_5 fun v_ q_6 =>
 ∃ (x31p_ : Option Addr) (x31n_ x31c_ : Nat), v_ = (.slice x31p_ x31n_ x31c_) ∧
 SemH Tryz.prog (Builtin.append_ #[76, 76] 76 #[(.slice lp_ ln_ lc_), (.slice x31p_ x31n_ x31c_)]) q_6 fun v_1 q_7 =>
 ∃ (x32p_ : Option Addr) (x32n_ x32c_ : Nat), v_1 = (.slice x32p_ x32n_ x32c_) ∧
 ∃ x33_, IntKind.i64.wrap (x22_ + (1 : Int)) = x33_ ∧
 (Iv_ [(.slice x32p_ x32n_ x32c_), (.int .i64 x33_)] q_7 ∧ m_ [(.slice x32p_ x32n_ x32c_), (.int .i64 x33_)] q_7 < m_ [(.slice lp_ ln_ lc_), (.int .i64 x22_)] q_2)) ∧
 ((decide (x22_ < ((x20n_ : Nat) : Int))) = false →
 R (.returned (.tuple #[(.slice lp_ ln_ lc_), (.int .i64 (0 : Int))])) q_2)))))) :
 CallsH Tryz.prog 16 #[(.agg #[(.slice sf0p_ sf0n_ sf0c_), (.slice sf1p_ sf1n_ sf1c_), (.slice sf2p_ sf2n_ sf2c_), (.slice sf3p_ sf3n_ sf3c_), (.slice sf4p_ sf4n_ sf4c_), (.slice sf5p_ sf5n_ sf5c_)]), (.string table_)] h R := calls_vc fine false Tryz.func16 (ann := A16) (args := [(.agg #[(.slice sf0p_ sf0n_ sf0c_), (.slice sf1p_ sf1n_ sf1c_), (.slice sf2p_ sf2n_ sf2c_), (.slice sf3p_ sf3n_ sf3c_), (.slice sf4p_ sf4n_ sf4c_), (.slice sf5p_ sf5n_ sf5c_)]), (.string table_)]) (by kernel_rfl) (Eq.mpr (by kernel_rfl) H)
def A17 : Ann := (.seq .nil (.cut (.seq (.join 21) (.cond (.seq .dead .dead) .nil)) [] (.seq (.seq .nil (.seq .nil (.cond (.seq .dead .dead) .nil))) (.seq .nil (.seq (.seq .nil (.cond (.seq .dead .dead) .nil)) (.seq .nil (.seq .nil (.seq (.seq .nil (.block (.loop [(56, (.int .i64))] (.seq .nil (.seq (.cond .nil .nil) (.seq (.block (.seq .nil (.drawLast [4]))) .nil)))))) (.seq .nil .nil)))))))))
theorem V17 (sf0p_ : Option Addr) (sf0n_ sf0c_ : Nat) (sf1p_ : Option Addr) (sf1n_ sf1c_ : Nat) (sf2p_ : Option Addr) (sf2n_ sf2c_ : Nat) (sf3p_ : Option Addr) (sf3n_ sf3c_ : Nat) (sf4p_ : Option Addr) (sf4n_ sf4c_ : Nat) (sf5p_ : Option Addr) (sf5n_ sf5c_ : Nat) (table_ : ByteArray) (most_ : Int) (h : Hp) (R : Ending → Hp → Prop) (H :
 ∀ b_ q_, b_ = h.size → q_ = h.push (.cells #[(.slice sf0p_ sf0n_ sf0c_), (.slice sf1p_ sf1n_ sf1c_), (.slice sf2p_ sf2n_ sf2c_), (.slice sf3p_ sf3n_ sf3c_), (.slice sf4p_ sf4n_ sf4c_), (.slice sf5p_ sf5n_ sf5c_)] 36) →
 ∃ Jv_ : List Value → Hp → Prop,
 (∃ B_ : Bool, ((((decide (most_ < (1 : Int))) = true →
 q_ = q_ ∧ B_ = true) ∧
 ((decide (most_ < (1 : Int))) = false →
 q_ = q_ ∧ B_ = (decide ((4096 : Int) < most_))))) ∧
 ((B_ = true →
 False) ∧
 (B_ = false →
 Jv_ [] q_))) ∧
 (∀  q_1, Jv_ [] q_1 →
 ∃ (x23f0p_ : Option Addr) (x23f0n_ x23f0c_ : Nat) (x23f1p_ : Option Addr) (x23f1n_ x23f1c_ : Nat) (x23f2p_ : Option Addr) (x23f2n_ x23f2c_ : Nat) (x23f3p_ : Option Addr) (x23f3n_ x23f3c_ : Nat) (x23f4p_ : Option Addr) (x23f4n_ x23f4c_ : Nat) (x23f5p_ : Option Addr) (x23f5n_ x23f5c_ : Nat), cellsAt q_1 b_ 0 [(.slice x23f0p_ x23f0n_ x23f0c_), (.slice x23f1p_ x23f1n_ x23f1c_), (.slice x23f2p_ x23f2n_ x23f2c_), (.slice x23f3p_ x23f3n_ x23f3c_), (.slice x23f4p_ x23f4n_ x23f4c_), (.slice x23f5p_ x23f5n_ x23f5c_)] ∧
 CallsH Tryz.prog 13 #[(.agg #[(.slice x23f0p_ x23f0n_ x23f0c_), (.slice x23f1p_ x23f1n_ x23f1c_), (.slice x23f2p_ x23f2n_ x23f2c_), (.slice x23f3p_ x23f3n_ x23f3c_), (.slice x23f4p_ x23f4n_ x23f4c_), (.slice x23f5p_ x23f5n_ x23f5c_)])] q_1 fun en_ q_2 =>
 ∃ x24r0_ : Int, ∃ x24r1_ : ByteArray, en_ = .returned (.tuple #[(.int .i64 x24r0_), (.string x24r1_)]) ∧
 (((decide (x24r0_ ≠ (0 : Int))) = true →
 False) ∧
 ((decide (x24r0_ ≠ (0 : Int))) = false →
 ∃ (x30f0p_ : Option Addr) (x30f0n_ x30f0c_ : Nat) (x30f1p_ : Option Addr) (x30f1n_ x30f1c_ : Nat) (x30f2p_ : Option Addr) (x30f2n_ x30f2c_ : Nat) (x30f3p_ : Option Addr) (x30f3n_ x30f3c_ : Nat) (x30f4p_ : Option Addr) (x30f4n_ x30f4c_ : Nat) (x30f5p_ : Option Addr) (x30f5n_ x30f5c_ : Nat), cellsAt q_2 b_ 0 [(.slice x30f0p_ x30f0n_ x30f0c_), (.slice x30f1p_ x30f1n_ x30f1c_), (.slice x30f2p_ x30f2n_ x30f2c_), (.slice x30f3p_ x30f3n_ x30f3c_), (.slice x30f4p_ x30f4n_ x30f4c_), (.slice x30f5p_ x30f5n_ x30f5c_)] ∧
 CallsH Tryz.prog 47 #[(.agg #[(.slice x30f0p_ x30f0n_ x30f0c_), (.slice x30f1p_ x30f1n_ x30f1c_), (.slice x30f2p_ x30f2n_ x30f2c_), (.slice x30f3p_ x30f3n_ x30f3c_), (.slice x30f4p_ x30f4n_ x30f4c_), (.slice x30f5p_ x30f5n_ x30f5c_)]), (.string table_)] q_2 fun en_1 q_3 =>
 ∃ x32r0f0_ : ByteArray, ∃ (x32r0f1p_ : Option Addr) (x32r0f1n_ x32r0f1c_ : Nat) (x32r0f2p_ : Option Addr) (x32r0f2n_ x32r0f2c_ : Nat), ∃ x32r0f3_ : Int, ∃ x32r0f4_ : ByteArray, ∃ (x32r0f5p_ : Option Addr) (x32r0f5n_ x32r0f5c_ : Nat), ∃ x32r0f6_ : Bool, ∃ x32r1_ : Int, ∃ x32r2_ : Bool, en_1 = .returned (.tuple #[(.agg #[(.string x32r0f0_), (.slice x32r0f1p_ x32r0f1n_ x32r0f1c_), (.slice x32r0f2p_ x32r0f2n_ x32r0f2c_), (.int .i64 x32r0f3_), (.string x32r0f4_), (.slice x32r0f5p_ x32r0f5n_ x32r0f5c_), (.bool x32r0f6_)]), (.int .i64 x32r1_), (.bool x32r2_)]) ∧
 ∀ b_1 q_4, b_1 = q_3.size → q_4 = q_3.push (.cells (zeros Tryz.prog 73) 73) → (∃ i z, Tryz.prog.info? 73 = some i ∧ i.zero = some z) ∧
 List.length [(Value.string x32r0f0_), (.slice x32r0f1p_ x32r0f1n_ x32r0f1c_), (.slice x32r0f2p_ x32r0f2n_ x32r0f2c_), (.int .i64 x32r0f3_), (.string x32r0f4_), (.slice x32r0f5p_ x32r0f5n_ x32r0f5c_), (.bool x32r0f6_)] = 7 ∧ (∀ c ∈ [(Value.string x32r0f0_), (.slice x32r0f1p_ x32r0f1n_ x32r0f1c_), (.slice x32r0f2p_ x32r0f2n_ x32r0f2c_), (.int .i64 x32r0f3_), (.string x32r0f4_), (.slice x32r0f5p_ x32r0f5n_ x32r0f5c_), (.bool x32r0f6_)], c.oneCell' = true) ∧ wrAt q_4 b_1 0 7 ∧ ∀ q_5, q_5 = setsH q_4 b_1 0 [(.string x32r0f0_), (.slice x32r0f1p_ x32r0f1n_ x32r0f1c_), (.slice x32r0f2p_ x32r0f2n_ x32r0f2c_), (.int .i64 x32r0f3_), (.string x32r0f4_), (.slice x32r0f5p_ x32r0f5n_ x32r0f5c_), (.bool x32r0f6_)] →
 (((!x32r2_) = true →
 False) ∧
 ((!x32r2_) = false →
 ∃ (x38f0p_ : Option Addr) (x38f0n_ x38f0c_ : Nat) (x38f1p_ : Option Addr) (x38f1n_ x38f1c_ : Nat) (x38f2p_ : Option Addr) (x38f2n_ x38f2c_ : Nat) (x38f3p_ : Option Addr) (x38f3n_ x38f3c_ : Nat) (x38f4p_ : Option Addr) (x38f4n_ x38f4c_ : Nat) (x38f5p_ : Option Addr) (x38f5n_ x38f5c_ : Nat), cellsAt q_5 b_ 0 [(.slice x38f0p_ x38f0n_ x38f0c_), (.slice x38f1p_ x38f1n_ x38f1c_), (.slice x38f2p_ x38f2n_ x38f2c_), (.slice x38f3p_ x38f3n_ x38f3c_), (.slice x38f4p_ x38f4n_ x38f4c_), (.slice x38f5p_ x38f5n_ x38f5c_)] ∧
 CallsH Tryz.prog 14 #[(.agg #[(.slice x38f0p_ x38f0n_ x38f0c_), (.slice x38f1p_ x38f1n_ x38f1c_), (.slice x38f2p_ x38f2n_ x38f2c_), (.slice x38f3p_ x38f3n_ x38f3c_), (.slice x38f4p_ x38f4n_ x38f4c_), (.slice x38f5p_ x38f5n_ x38f5c_)])] q_5 fun en_2 q_6 =>
 ∃ (x39f0p_ : Option Addr) (x39f0n_ x39f0c_ : Nat) (x39f1p_ : Option Addr) (x39f1n_ x39f1c_ : Nat) (x39f2p_ : Option Addr) (x39f2n_ x39f2c_ : Nat) (x39f3p_ : Option Addr) (x39f3n_ x39f3c_ : Nat) (x39f4p_ : Option Addr) (x39f4n_ x39f4c_ : Nat) (x39f5p_ : Option Addr) (x39f5n_ x39f5c_ : Nat), en_2 = .returned (.agg #[(.slice x39f0p_ x39f0n_ x39f0c_), (.slice x39f1p_ x39f1n_ x39f1c_), (.slice x39f2p_ x39f2n_ x39f2c_), (.slice x39f3p_ x39f3n_ x39f3c_), (.slice x39f4p_ x39f4n_ x39f4c_), (.slice x39f5p_ x39f5n_ x39f5c_)]) ∧
 ∀ b_2 q_7, b_2 = q_6.size → q_7 = q_6.push (.cells #[(.slice x39f0p_ x39f0n_ x39f0c_), (.slice x39f1p_ x39f1n_ x39f1c_), (.slice x39f2p_ x39f2n_ x39f2c_), (.slice x39f3p_ x39f3n_ x39f3c_), (.slice x39f4p_ x39f4n_ x39f4c_), (.slice x39f5p_ x39f5n_ x39f5c_), (.string table_), (.slice none 0 0), (.slice none 0 0), (.int .i64 most_), (.int .i64 (0 : Int)), (.slice none 0 0)] 144) →
 ∃ (x46f0p_ : Option Addr) (x46f0n_ x46f0c_ : Nat) (x46f1p_ : Option Addr) (x46f1n_ x46f1c_ : Nat) (x46f2p_ : Option Addr) (x46f2n_ x46f2c_ : Nat) (x46f3p_ : Option Addr) (x46f3n_ x46f3c_ : Nat) (x46f4p_ : Option Addr) (x46f4n_ x46f4c_ : Nat) (x46f5p_ : Option Addr) (x46f5n_ x46f5c_ : Nat), cellsAt q_7 b_ 0 [(.slice x46f0p_ x46f0n_ x46f0c_), (.slice x46f1p_ x46f1n_ x46f1c_), (.slice x46f2p_ x46f2n_ x46f2c_), (.slice x46f3p_ x46f3n_ x46f3c_), (.slice x46f4p_ x46f4n_ x46f4c_), (.slice x46f5p_ x46f5n_ x46f5c_)] ∧
 CallsH Tryz.prog 16 #[(.agg #[(.slice x46f0p_ x46f0n_ x46f0c_), (.slice x46f1p_ x46f1n_ x46f1c_), (.slice x46f2p_ x46f2n_ x46f2c_), (.slice x46f3p_ x46f3n_ x46f3c_), (.slice x46f4p_ x46f4n_ x46f4c_), (.slice x46f5p_ x46f5n_ x46f5c_)]), (.string table_)] q_7 fun en_3 q_8 =>
 ∃ (x48r0p_ : Option Addr) (x48r0n_ x48r0c_ : Nat), ∃ x48r1_ : Int, en_3 = .returned (.tuple #[(.slice x48r0p_ x48r0n_ x48r0c_), (.int .i64 x48r1_)]) ∧
 Value.oneCell' (.slice x48r0p_ x48r0n_ x48r0c_) = true ∧ wrAt q_8 b_2 (0 + 8) 1 ∧ ∀ q_9, q_9 = setsH q_8 b_2 (0 + 8) [(.slice x48r0p_ x48r0n_ x48r0c_)] →
 ∃ (x54p_ : Option Addr) (x54n_ x54c_ : Nat), cellsAt q_9 b_1 (0 + 1) [(.slice x54p_ x54n_ x54c_)] ∧
 ∃ (Iv_ : List Value → Hp → Prop) (m_ : List Value → Hp → Nat), Iv_ [(.int .i64 (0 : Int))] q_9 ∧
 (∀ (x56_ : Int) q_10, Iv_ [(.int .i64 x56_)] q_10 →
 (((decide (x56_ < ((x54n_ : Nat) : Int))) = true →
 ∃ b_3 o_, x54p_ = some ⟨b_3, o_, none⟩ ∧ 0 ≤ x56_ ∧ x56_ < (x54n_ : Int) ∧
 ∃ x59f0_ : ByteArray, ∃ x59f1_ : ByteArray, ∃ x59f2_ : Int, cellsAt q_10 b_3 (o_ + Int.toNat x56_ * 3) [(.string x59f0_), (.string x59f1_), (.int .i64 x59f2_)] ∧
 ∀ b_4 q_11, b_4 = q_10.size → q_11 = q_10.push (.cells (zeros Tryz.prog 94) 94) → (∃ i z, Tryz.prog.info? 94 = some i ∧ i.zero = some z) ∧
 List.length [(Value.string x59f0_), (.string x59f1_), (.int .i64 x59f2_)] = 3 ∧ (∀ c ∈ [(Value.string x59f0_), (.string x59f1_), (.int .i64 x59f2_)], c.oneCell' = true) ∧ wrAt q_11 b_4 0 3 ∧ ∀ q_12, q_12 = setsH q_11 b_4 0 [(.string x59f0_), (.string x59f1_), (.int .i64 x59f2_)] →
 ∃ Cv_ : Hp → Prop, Cv_ q_12 ∧
 ∃ (x64p_ : Option Addr) (x64n_ x64c_ : Nat), (∀ h', Cv_ h' → cellsAt h' b_2 (0 + 7) [(.slice x64p_ x64n_ x64c_)]) ∧
 ∃ x66_ : Int, cellsAt q_12 b_4 (0 + 2) [(.int .i64 x66_)] ∧
 SemH Tryz.prog (Instr.buildSlice 76 1 #[(0, (.int .i64 x66_))]) q_12 fun v_ q_13 =>
 ∃ (x67p_ : Option Addr) (x67n_ x67c_ : Nat), v_ = (.slice x67p_ x67n_ x67c_) ∧
 Cv_ q_13 ∧
 SemH Tryz.prog (Builtin.append_ #[76, 76] 76 #[(.slice x64p_ x64n_ x64c_), (.slice x67p_ x67n_ x67c_)]) q_13 fun v_1 q_14 =>
 ∃ (x68p_ : Option Addr) (x68n_ x68c_ : Nat), v_1 = (.slice x68p_ x68n_ x68c_) ∧
 Cv_ q_14 ∧
 Value.oneCell' (.slice x68p_ x68n_ x68c_) = true ∧ wrAt q_14 b_2 (0 + 7) 1 ∧ ∀ q_15, q_15 = setsH q_14 b_2 (0 + 7) [(.slice x68p_ x68n_ x68c_)] →
 ∃ x71_, IntKind.i64.wrap (x56_ + (1 : Int)) = x71_ ∧
 (Iv_ [(.int .i64 x71_)] q_15 ∧ m_ [(.int .i64 x71_)] q_15 < m_ [(.int .i64 x56_)] q_10)) ∧
 ((decide (x56_ < ((x54n_ : Nat) : Int))) = false →
 R (.returned (.tuple #[(.pointer (some ⟨b_2, 0, none⟩)), (.int .i64 (0 : Int))])) q_10))))))))) :
 CallsH Tryz.prog 17 #[(.agg #[(.slice sf0p_ sf0n_ sf0c_), (.slice sf1p_ sf1n_ sf1c_), (.slice sf2p_ sf2n_ sf2c_), (.slice sf3p_ sf3n_ sf3c_), (.slice sf4p_ sf4n_ sf4c_), (.slice sf5p_ sf5n_ sf5c_)]), (.string table_), (.int .i64 most_)] h R := calls_vc fine false Tryz.func17 (ann := A17) (args := [(.agg #[(.slice sf0p_ sf0n_ sf0c_), (.slice sf1p_ sf1n_ sf1c_), (.slice sf2p_ sf2n_ sf2c_), (.slice sf3p_ sf3n_ sf3c_), (.slice sf4p_ sf4n_ sf4c_), (.slice sf5p_ sf5n_ sf5c_)]), (.string table_), (.int .i64 most_)]) (by kernel_rfl) (Eq.mpr (by kernel_rfl) H)
def A18 : Ann := (.seq .nil (.seq (.join 2) .nil))
theorem V18 (width_ : Int) (h : Hp) (R : Ending → Hp → Prop) (H :
 ∃ B_ : Bool, ((((decide ((1 : Int) ≤ width_)) = true →
 h = h ∧ B_ = (decide (width_ ≤ (128 : Int)))) ∧
 ((decide ((1 : Int) ≤ width_)) = false →
 h = h ∧ B_ = false))) ∧
 R (.returned (.bool B_)) h) :
 CallsH Tryz.prog 18 #[(.int .i64 width_)] h R := calls_vc fine false Tryz.func18 (ann := A18) (args := [(.int .i64 width_)]) (by kernel_rfl) (Eq.mpr (by kernel_rfl) H)
def A19 : Ann := (.seq .nil (.seq (.seq .nil (.cond (.seq .nil .nil) .nil)) (.seq .nil .nil)))
theorem V19 (af0_ : Int) (af1_ : Int) (n_ : Int) (h : Hp) (R : Ending → Hp → Prop) (H :
 ∀ b_ q_, b_ = h.size → q_ = h.push (.cells #[(.int .u64 af0_), (.int .u64 af1_)] 40) →
 ∀ b_1 q_1, b_1 = q_.size → q_1 = q_.push (.cells (zeros Tryz.prog 40) 40) → (∃ i z, Tryz.prog.info? 40 = some i ∧ i.zero = some z) ∧
 (((decide ((64 : Int) ≤ n_)) = true →
 ∃ x8_ : Int, cellsAt q_1 b_ (0 + 1) [(.int .u64 x8_)] ∧
 ∃ x10_, IntKind.i64.wrap (n_ - (64 : Int)) = x10_ ∧
 0 ≤ x10_ ∧ ∃ x11_, shlI .u64 x8_ x10_ = x11_ ∧
 List.length [(Value.int .u64 x11_), (.int .u64 (0 : Int))] = 2 ∧ (∀ c ∈ [(Value.int .u64 x11_), (.int .u64 (0 : Int))], c.oneCell' = true) ∧ wrAt q_1 b_1 0 2 ∧ ∀ q_2, q_2 = setsH q_1 b_1 0 [(.int .u64 x11_), (.int .u64 (0 : Int))] →
 ∃ resf0_ : Int, ∃ resf1_ : Int, cellsAt q_2 b_1 0 [(.int .u64 resf0_), (.int .u64 resf1_)] ∧
 R (.returned (.agg #[(.int .u64 resf0_), (.int .u64 resf1_)])) q_2) ∧
 ((decide ((64 : Int) ≤ n_)) = false →
 ∃ x14_ : Int, cellsAt q_1 b_ (0 + 0) [(.int .u64 x14_)] ∧
 0 ≤ n_ ∧ ∃ x16_, shlI .u64 x14_ n_ = x16_ ∧
 ∃ x18_ : Int, cellsAt q_1 b_ (0 + 1) [(.int .u64 x18_)] ∧
 ∃ x20_, IntKind.i64.wrap ((64 : Int) - n_) = x20_ ∧
 0 ≤ x20_ ∧ ∃ x21_, shrI .u64 x18_ x20_ = x21_ ∧
 ∃ x22_, orI .u64 x16_ x21_ = x22_ ∧
 ∃ x24_ : Int, cellsAt q_1 b_ (0 + 1) [(.int .u64 x24_)] ∧
 0 ≤ n_ ∧ ∃ x26_, shlI .u64 x24_ n_ = x26_ ∧
 List.length [(Value.int .u64 x22_), (.int .u64 x26_)] = 2 ∧ (∀ c ∈ [(Value.int .u64 x22_), (.int .u64 x26_)], c.oneCell' = true) ∧ wrAt q_1 b_1 0 2 ∧ ∀ q_3, q_3 = setsH q_1 b_1 0 [(.int .u64 x22_), (.int .u64 x26_)] →
 ∃ resf0_1 : Int, ∃ resf1_1 : Int, cellsAt q_3 b_1 0 [(.int .u64 resf0_1), (.int .u64 resf1_1)] ∧
 R (.returned (.agg #[(.int .u64 resf0_1), (.int .u64 resf1_1)])) q_3))) :
 CallsH Tryz.prog 19 #[(.agg #[(.int .u64 af0_), (.int .u64 af1_)]), (.int .i64 n_)] h R := calls_vc fine false Tryz.func19 (ann := A19) (args := [(.agg #[(.int .u64 af0_), (.int .u64 af1_)]), (.int .i64 n_)]) (by kernel_rfl) (Eq.mpr (by kernel_rfl) H)
def A20 : Ann := (.seq .nil (.seq .nil .nil))
theorem V20 (n_ : Int) (h : Hp) (R : Ending → Hp → Prop) (H :
 ∀ b_ q_, b_ = h.size → q_ = h.push (.cells (zeros Tryz.prog 40) 40) → (∃ i z, Tryz.prog.info? 40 = some i ∧ i.zero = some z) ∧
 ∃ x5_, IntKind.i64.wrap ((128 : Int) - n_) = x5_ ∧
 CallsH Tryz.prog 48 #[(.agg #[(.int .u64 (18446744073709551615 : Int)), (.int .u64 (18446744073709551615 : Int))]), (.int .i64 x5_)] q_ fun en_ q_1 =>
 ∃ x6f0_ : Int, ∃ x6f1_ : Int, en_ = .returned (.agg #[(.int .u64 x6f0_), (.int .u64 x6f1_)]) ∧
 List.length [(Value.int .u64 x6f0_), (.int .u64 x6f1_)] = 2 ∧ (∀ c ∈ [(Value.int .u64 x6f0_), (.int .u64 x6f1_)], c.oneCell' = true) ∧ wrAt q_1 b_ 0 2 ∧ ∀ q_2, q_2 = setsH q_1 b_ 0 [(.int .u64 x6f0_), (.int .u64 x6f1_)] →
 ∃ resf0_ : Int, ∃ resf1_ : Int, cellsAt q_2 b_ 0 [(.int .u64 resf0_), (.int .u64 resf1_)] ∧
 R (.returned (.agg #[(.int .u64 resf0_), (.int .u64 resf1_)])) q_2) :
 CallsH Tryz.prog 20 #[(.int .i64 n_)] h R := calls_vc fine false Tryz.func20 (ann := A20) (args := [(.int .i64 n_)]) (by kernel_rfl) (Eq.mpr (by kernel_rfl) H)
def A21 : Ann := (.seq .nil (.seq (.seq .nil (.cond (.seq .dead .dead) .nil)) (.cut (.seq (.join 23) (.cond (.seq .dead .dead) .nil)) [] (.seq .nil (.seq .nil (.seq (.seq .nil (.block (.loop [(27, (.int .i64))] (.seq .nil (.seq (.cond .nil .nil) (.seq (.block (.seq .nil (.seq (.seq .nil (.seq .nil (.cond (.seq .nil .nil) .nil))) (.seq (.drawLast [4]) (.seq (.seq .nil (.cond (.seq .nil .nil) .nil)) .nil))))) .nil)))))) (.seq .nil .nil)))))))
theorem V21 (t_ : Option Addr) (opsp_ : Option Addr) (opsn_ opsc_ : Nat) (alone_ : Bool) (h : Hp) (R : Ending → Hp → Prop) (H :
 ∀ b_ q_, b_ = h.size → q_ = h.push (.cells #[(.bool alone_)] 4) →
 ∀ b_1 q_1, b_1 = q_.size → q_1 = q_.push (.cells (zeros Tryz.prog 26) 26) → (∃ i z, Tryz.prog.info? 26 = some i ∧ i.zero = some z) ∧
 ∃ x15_, EqV Tryz.prog 25 (.pointer t_) (.pointer none) x15_ ∧
 ((x15_ = true →
 False) ∧
 (x15_ = false →
 ∃ Jv_ : List Value → Hp → Prop,
 (∃ B_ : Bool, ((((decide (((opsn_ : Nat) : Int) = (0 : Int))) = true →
 q_1 = q_1 ∧ B_ = true) ∧
 ((decide (((opsn_ : Nat) : Int) = (0 : Int))) = false →
 q_1 = q_1 ∧ B_ = (decide ((64 : Int) < ((opsn_ : Nat) : Int)))))) ∧
 ((B_ = true →
 False) ∧
 (B_ = false →
 Jv_ [] q_1))) ∧
 (∀  q_2, Jv_ [] q_2 →
 ∀ b_2 q_3, b_2 = q_2.size → q_3 = q_2.push (.cells (zeros Tryz.prog 145) 145) → (∃ i z, Tryz.prog.info? 145 = some i ∧ i.zero = some z) ∧
 ∃ (Iv_ : List Value → Hp → Prop) (m_ : List Value → Hp → Nat), Iv_ [(.int .i64 (0 : Int))] q_3 ∧
 (∀ (x27_ : Int) q_4, Iv_ [(.int .i64 x27_)] q_4 →
 (((decide (x27_ < ((opsn_ : Nat) : Int))) = true →
 ∃ b_3 o_, opsp_ = some ⟨b_3, o_, none⟩ ∧ 0 ≤ x27_ ∧ x27_ < (opsn_ : Int) ∧
 ∃ x31f0_ : Int, ∃ x31f1_ : ByteArray, ∃ (x31f2p_ : Option Addr) (x31f2n_ x31f2c_ : Nat), ∃ x31f3_ : Int, ∃ x31f4_ : ByteArray, ∃ (x31f5p_ : Option Addr) (x31f5n_ x31f5c_ : Nat), cellsAt q_4 b_3 (o_ + Int.toNat x27_ * 6) [(.int .i64 x31f0_), (.string x31f1_), (.slice x31f2p_ x31f2n_ x31f2c_), (.int .i64 x31f3_), (.string x31f4_), (.slice x31f5p_ x31f5n_ x31f5c_)] ∧
 ∀ b_4 q_5, b_4 = q_4.size → q_5 = q_4.push (.cells (zeros Tryz.prog 55) 55) → (∃ i z, Tryz.prog.info? 55 = some i ∧ i.zero = some z) ∧
 List.length [(Value.int .i64 x31f0_), (.string x31f1_), (.slice x31f2p_ x31f2n_ x31f2c_), (.int .i64 x31f3_), (.string x31f4_), (.slice x31f5p_ x31f5n_ x31f5c_)] = 6 ∧ (∀ c ∈ [(Value.int .i64 x31f0_), (.string x31f1_), (.slice x31f2p_ x31f2n_ x31f2c_), (.int .i64 x31f3_), (.string x31f4_), (.slice x31f5p_ x31f5n_ x31f5c_)], c.oneCell' = true) ∧ wrAt q_5 b_4 0 6 ∧ ∀ q_6, q_6 = setsH q_5 b_4 0 [(.int .i64 x31f0_), (.string x31f1_), (.slice x31f2p_ x31f2n_ x31f2c_), (.int .i64 x31f3_), (.string x31f4_), (.slice x31f5p_ x31f5n_ x31f5c_)] →
 ∃ x33f0_ : Int, ∃ x33f1_ : ByteArray, ∃ (x33f2p_ : Option Addr) (x33f2n_ x33f2c_ : Nat), ∃ x33f3_ : Int, ∃ x33f4_ : ByteArray, ∃ (x33f5p_ : Option Addr) (x33f5n_ x33f5c_ : Nat), cellsAt q_6 b_4 0 [(.int .i64 x33f0_), (.string x33f1_), (.slice x33f2p_ x33f2n_ x33f2c_), (.int .i64 x33f3_), (.string x33f4_), (.slice x33f5p_ x33f5n_ x33f5c_)] ∧
 CallsH Tryz.prog 51 #[(.pointer t_), (.agg #[(.int .i64 x33f0_), (.string x33f1_), (.slice x33f2p_ x33f2n_ x33f2c_), (.int .i64 x33f3_), (.string x33f4_), (.slice x33f5p_ x33f5n_ x33f5c_)])] q_6 fun en_ q_7 =>
 ∃ x34_ : Int, en_ = .returned (.int .i64 x34_) ∧
 (((decide (x34_ ≠ (0 : Int))) = true →
 Value.oneCell' (.int .i64 x34_) = true ∧ wrAt q_7 b_1 0 1 ∧ ∀ q_8, q_8 = setsH q_7 b_1 0 [(.int .i64 x34_)] →
 DefH Tryz.prog 49 #[(.pointer (some ⟨b_1, 0, none⟩)), (.pointer (some ⟨b_, 0, none⟩)), (.pointer (some ⟨b_2, 0, none⟩))] .returning q_8 fun md_ q_9 =>
 settle md_ = .returning ∧
 ∃ res_ : Int, cellsAt q_9 b_1 0 [(.int .i64 res_)] ∧
 R (.returned (.tuple #[(.int .i64 x27_), (.int .i64 res_)])) q_9) ∧
 ((decide (x34_ ≠ (0 : Int))) = false →
 ∃ Cv_ : Hp → Prop, Cv_ q_7 ∧
 ∃ x42_ : ByteArray, cellsAt q_7 b_4 (0 + 1) [(.string x42_)] ∧
 CallsH Tryz.prog 22 #[(.pointer t_), (.string x42_)] q_7 fun en_1 q_10 =>
 ∃ x43_ : Option Addr, en_1 = .returned (.pointer x43_) ∧
 Cv_ q_10 ∧
 ∃ x44f0_ : Int, ∃ x44f1_ : ByteArray, ∃ (x44f2p_ : Option Addr) (x44f2n_ x44f2c_ : Nat), ∃ x44f3_ : Int, ∃ x44f4_ : ByteArray, ∃ (x44f5p_ : Option Addr) (x44f5n_ x44f5c_ : Nat), (∀ h', Cv_ h' → cellsAt h' b_4 0 [(.int .i64 x44f0_), (.string x44f1_), (.slice x44f2p_ x44f2n_ x44f2c_), (.int .i64 x44f3_), (.string x44f4_), (.slice x44f5p_ x44f5n_ x44f5c_)]) ∧
 CallsH Tryz.prog 52 #[(.pointer x43_), (.agg #[(.int .i64 x44f0_), (.string x44f1_), (.slice x44f2p_ x44f2n_ x44f2c_), (.int .i64 x44f3_), (.string x44f4_), (.slice x44f5p_ x44f5n_ x44f5c_)])] q_10 fun en_2 q_11 =>
 ∃ x45r0_ : Int, ∃ x45r1_ : Value, en_2 = .returned (.tuple #[(.int .i64 x45r0_), x45r1_]) ∧
 Cv_ q_11 ∧
 (((decide (x45r0_ ≠ (0 : Int))) = true →
 Value.oneCell' (.int .i64 x45r0_) = true ∧ wrAt q_11 b_1 0 1 ∧ ∀ q_12, q_12 = setsH q_11 b_1 0 [(.int .i64 x45r0_)] →
 DefH Tryz.prog 49 #[(.pointer (some ⟨b_1, 0, none⟩)), (.pointer (some ⟨b_, 0, none⟩)), (.pointer (some ⟨b_2, 0, none⟩))] .returning q_12 fun md_1 q_13 =>
 settle md_1 = .returning ∧
 ∃ res_1 : Int, cellsAt q_13 b_1 0 [(.int .i64 res_1)] ∧
 R (.returned (.tuple #[(.int .i64 x27_), (.int .i64 res_1)])) q_13) ∧
 ((decide (x45r0_ ≠ (0 : Int))) = false →
 ∃ (x52p_ : Option Addr) (x52n_ x52c_ : Nat), cellsAt q_11 b_2 0 [(.slice x52p_ x52n_ x52c_)] ∧
 SemH Tryz.prog (Instr.buildSlice 145 1 #[(0, x45r1_)]) q_11 fun v_ q_14 =>
 ∃ (x54p_ : Option Addr) (x54n_ x54c_ : Nat), v_ = (.slice x54p_ x54n_ x54c_) ∧
 SemH Tryz.prog (Builtin.append_ #[145, 145] 145 #[(.slice x52p_ x52n_ x52c_), (.slice x54p_ x54n_ x54c_)]) q_14 fun v_1 q_15 =>
 ∃ (x55p_ : Option Addr) (x55n_ x55c_ : Nat), v_1 = (.slice x55p_ x55n_ x55c_) ∧
 Value.oneCell' (.slice x55p_ x55n_ x55c_) = true ∧ wrAt q_15 b_2 0 1 ∧ ∀ q_16, q_16 = setsH q_15 b_2 0 [(.slice x55p_ x55n_ x55c_)] →
 ∃ x56_, IntKind.i64.wrap (x27_ + (1 : Int)) = x56_ ∧
 (Iv_ [(.int .i64 x56_)] q_16 ∧ m_ [(.int .i64 x56_)] q_16 < m_ [(.int .i64 x27_)] q_4)))))) ∧
 ((decide (x27_ < ((opsn_ : Nat) : Int))) = false →
 Value.oneCell' (.int .i64 (0 : Int)) = true ∧ wrAt q_4 b_1 0 1 ∧ ∀ q_17, q_17 = setsH q_4 b_1 0 [(.int .i64 (0 : Int))] →
 DefH Tryz.prog 49 #[(.pointer (some ⟨b_1, 0, none⟩)), (.pointer (some ⟨b_, 0, none⟩)), (.pointer (some ⟨b_2, 0, none⟩))] .returning q_17 fun md_2 q_18 =>
 settle md_2 = .returning ∧
 ∃ res_2 : Int, cellsAt q_18 b_1 0 [(.int .i64 res_2)] ∧
 R (.returned (.tuple #[(.int .i64 (0 : Int)), (.int .i64 res_2)])) q_18))))))) :
 CallsH Tryz.prog 21 #[(.pointer t_), (.slice opsp_ opsn_ opsc_), (.bool alone_)] h R := calls_vcG fine false Tryz.func21 (ann := A21) (args := [(.pointer t_), (.slice opsp_ opsn_ opsc_), (.bool alone_)]) (by kernel_rfl) (Eq.mpr (by kernel_rfl) H)
def A22 : Ann := (.seq .nil (.seq (.seq .nil (.cond (.seq .nil .nil) .nil)) (.seq .nil (.seq (.seq .nil (.cond (.seq .nil .nil) .nil)) (.seq .nil .nil)))))
theorem V22 (t_ : Option Addr) (name_ : ByteArray) (h : Hp) (R : Ending → Hp → Prop) (H :
 ∀ b_ q_, b_ = h.size → q_ = h.push (.cells #[(.string name_)] 9) →
 ∃ x7_, EqV Tryz.prog 25 (.pointer t_) (.pointer none) x7_ ∧
 ((x7_ = true →
 R (.returned (.pointer none)) q_) ∧
 (x7_ = false →
 ∃ b_1 o_, t_ = some ⟨b_1, o_, none⟩ ∧
 ∃ (x11p_ : Option Addr) (x11n_ x11c_ : Nat), cellsAt q_ b_1 (o_ + 6) [(.slice x11p_ x11n_ x11c_)] ∧
 CallsH Tryz.prog 53 #[(.slice x11p_ x11n_ x11c_), (.func (.func 54) #[] #[(.pointer (some ⟨b_, 0, none⟩))])] q_ fun en_ q_1 =>
 ∃ x13_ : Int, en_ = .returned (.int .i64 x13_) ∧
 (((decide (x13_ < (0 : Int))) = true →
 R (.returned (.pointer none)) q_1) ∧
 ((decide (x13_ < (0 : Int))) = false →
 ∃ b_2 o_1, t_ = some ⟨b_2, o_1, none⟩ ∧
 ∃ (x19p_ : Option Addr) (x19n_ x19c_ : Nat), cellsAt q_1 b_2 (o_1 + 6) [(.slice x19p_ x19n_ x19c_)] ∧
 ∃ b_3 o_2, x19p_ = some ⟨b_3, o_2, none⟩ ∧ 0 ≤ x13_ ∧ x13_ < (x19n_ : Int) ∧
 ∃ x22_ : Option Addr, cellsAt q_1 b_3 (o_2 + Int.toNat x13_ * 1) [(.pointer x22_)] ∧
 R (.returned (.pointer x22_)) q_1))))) :
 CallsH Tryz.prog 22 #[(.pointer t_), (.string name_)] h R := calls_vc fine false Tryz.func22 (ann := A22) (args := [(.pointer t_), (.string name_)]) (by kernel_rfl) (Eq.mpr (by kernel_rfl) H)
def A23 : Ann := (.seq .nil (.seq (.seq .nil (.cond (.seq .nil .nil) .nil)) (.seq (.seq .nil (.block (.loop [(5, (.int .i64))] (.seq (.seq .nil (.cond .nil .nil)) (.seq (.block (.seq .nil (.cond (.seq .nil .nil) .nil))) .nil))))) (.seq .nil .nil))))
theorem V23 (ap_ : Option Addr) (an_ ac_ : Nat) (bp_ : Option Addr) (bn_ bc_ : Nat) (h : Hp) (R : Ending → Hp → Prop) (H :
 (((decide (((an_ : Nat) : Int) ≠ ((bn_ : Nat) : Int))) = true →
 R (.returned (.bool false)) h) ∧
 ((decide (((an_ : Nat) : Int) ≠ ((bn_ : Nat) : Int))) = false →
 ∃ (Iv_ : List Value → Hp → Prop) (m_ : List Value → Hp → Nat), Iv_ [(.int .i64 (0 : Int))] h ∧
 (∀ (i_ : Int) q_, Iv_ [(.int .i64 i_)] q_ →
 (((decide (i_ < ((an_ : Nat) : Int))) = true →
 ∃ b_ o_, ap_ = some ⟨b_, o_, none⟩ ∧ 0 ≤ i_ ∧ i_ < (an_ : Int) ∧
 ∃ x20f0_ : Int, ∃ x20f1_ : Int, cellsAt q_ b_ (o_ + Int.toNat i_ * 2) [(.int .u64 x20f0_), (.int .u64 x20f1_)] ∧
 ∃ b_1 o_1, bp_ = some ⟨b_1, o_1, none⟩ ∧ 0 ≤ i_ ∧ i_ < (bn_ : Int) ∧
 ∃ x24f0_ : Int, ∃ x24f1_ : Int, cellsAt q_ b_1 (o_1 + Int.toNat i_ * 2) [(.int .u64 x24f0_), (.int .u64 x24f1_)] ∧
 ∃ x25_, EqV Tryz.prog 40 (.agg #[(.int .u64 x20f0_), (.int .u64 x20f1_)]) (.agg #[(.int .u64 x24f0_), (.int .u64 x24f1_)]) x25_ ∧
 (((!x25_) = true →
 R (.returned (.bool false)) q_) ∧
 ((!x25_) = false →
 ∃ x16_, IntKind.i64.wrap (i_ + (1 : Int)) = x16_ ∧
 (Iv_ [(.int .i64 x16_)] q_ ∧ m_ [(.int .i64 x16_)] q_ < m_ [(.int .i64 i_)] q_)))) ∧
 ((decide (i_ < ((an_ : Nat) : Int))) = false →
 R (.returned (.bool true)) q_)))))) :
 CallsH Tryz.prog 23 #[(.slice ap_ an_ ac_), (.slice bp_ bn_ bc_)] h R := calls_vc fine false Tryz.func23 (ann := A23) (args := [(.slice ap_ an_ ac_), (.slice bp_ bn_ bc_)]) (by kernel_rfl) (Eq.mpr (by kernel_rfl) H)
def A24 : Ann := (.seq .nil (.cond (.drawLast [3]) .nil))
theorem V24 (a0_ : Option Addr) (a1_ : Option Addr) (h : Hp) (K : Hp → Prop) (H :
 ∀ b_ q_, b_ = h.size → q_ = h.push (.cells (zeros Tryz.prog 104) 104) → (∃ i z, Tryz.prog.info? 104 = some i ∧ i.zero = some z) ∧
 List.length [(Value.int .i64 (0 : Int)), (.string (⟨#[]⟩ : ByteArray))] = 2 ∧ (∀ c ∈ [(Value.int .i64 (0 : Int)), (.string (⟨#[]⟩ : ByteArray))], c.oneCell' = true) ∧ wrAt q_ b_ 0 2 ∧ ∀ q_1, q_1 = setsH q_ b_ 0 [(.int .i64 (0 : Int)), (.string (⟨#[]⟩ : ByteArray))] →
 ((false = true →
 ∃ Cv_ : Hp → Prop, Cv_ q_1 ∧
 ∃ x11_ : Int, cellsAt q_1 b_ (0 + 0) [(.int .i64 x11_)] ∧
 ∃ x13_ : ByteArray, (∀ h', Cv_ h' → cellsAt h' b_ (0 + 1) [(.string x13_)]) ∧
 ∃ b_1 o_, a0_ = some ⟨b_1, o_, none⟩ ∧
 Value.oneCell' (.int .i64 x11_) = true ∧ wrAt q_1 b_1 o_ 1 ∧ ∀ q_2, q_2 = setsH q_1 b_1 o_ [(.int .i64 x11_)] →
 Cv_ q_2 ∧
 ∃ b_2 o_1, a1_ = some ⟨b_2, o_1, none⟩ ∧
 Value.oneCell' (.string x13_) = true ∧ wrAt q_2 b_2 o_1 1 ∧ ∀ q_3, q_3 = setsH q_2 b_2 o_1 [(.string x13_)] →
 K q_3) ∧
 (false = false →
 K q_1))) :
 DefH Tryz.prog 24 #[(.pointer a0_), (.pointer a1_)] .returning h (fun u' h' => u' = .returning ∧ K h') := calls_vcN fine Tryz.func24 (ann := A24) (args := [(.pointer a0_), (.pointer a1_)]) (by kernel_rfl) (Eq.mpr (by kernel_rfl) H)
def A25 : Ann := (.seq .nil (.seq .nil (.seq .nil (.seq .nil (.block (.loop [(27, (.int .i64))] (.seq .nil (.seq (.cond .nil .nil) (.seq (.block (.seq .dead .dead)) .dead)))))))))
theorem V25 (c_ : Option Addr) (h : Hp) (R : Ending → Hp → Prop) (H :
 ∃ b_ o_, c_ = some ⟨b_, o_, none⟩ ∧
 Value.oneCell' (.string (⟨#[104, 101, 97, 100, 101, 114]⟩ : ByteArray)) = true ∧ wrAt h b_ (o_ + 6) 1 ∧ ∀ q_, q_ = setsH h b_ (o_ + 6) [(.string (⟨#[104, 101, 97, 100, 101, 114]⟩ : ByteArray))] →
 ∃ b_1 o_1, c_ = some ⟨b_1, o_1, none⟩ ∧
 ∃ (x16p_ : Option Addr) (x16n_ x16c_ : Nat), cellsAt q_ b_1 ((o_1 + 0) + 0) [(.slice x16p_ x16n_ x16c_)] ∧
 CallsH Tryz.prog 26 #[(.pointer c_), (.bool (decide (((x16n_ : Nat) : Int) ≤ (32 : Int)))), (.int .i64 (74 : Int))] q_ fun en_ q_1 =>
 en_ = .returned (.tuple #[]) ∧
 ∀ r_ q_2, r_ = q_1.size → q_2 = q_1.push (.map #[] 0) →
 ∃ b_2 o_2, c_ = some ⟨b_2, o_2, none⟩ ∧
 ∃ (x25p_ : Option Addr) (x25n_ x25c_ : Nat), cellsAt q_2 b_2 ((o_2 + 0) + 0) [(.slice x25p_ x25n_ x25c_)] ∧
 ∃ (Iv_ : List Value → Hp → Prop) (m_ : List Value → Hp → Nat), Iv_ [(.int .i64 (0 : Int))] q_2 ∧
 (∀ (x27_ : Int) q_3, Iv_ [(.int .i64 x27_)] q_3 →
 (((decide (x27_ < ((x25n_ : Nat) : Int))) = true →
 False) ∧
 ((decide (x27_ < ((x25n_ : Nat) : Int))) = false →
 R (.returned (.tuple #[])) q_3)))) :
 CallsH Tryz.prog 25 #[(.pointer c_)] h R := calls_vc fine false Tryz.func25 (ann := A25) (args := [(.pointer c_)]) (by kernel_rfl) (Eq.mpr (by kernel_rfl) H)
def A26 : Ann := (.seq .nil (.cond .nil .nil))
theorem V26 (c_ : Option Addr) (isv_ : Bool) (ev_ : Int) (h : Hp) (R : Ending → Hp → Prop) (H :
 (((!isv_) = true →
 ∃ b_ o_, c_ = some ⟨b_, o_, none⟩ ∧
 ∃ x12_ : ByteArray, cellsAt h b_ (o_ + 6) [(.string x12_)] ∧
 False) ∧
 ((!isv_) = false →
 R (.returned (.tuple #[])) h))) :
 CallsH Tryz.prog 26 #[(.pointer c_), (.bool isv_), (.int .i64 ev_)] h R := calls_vc fine false Tryz.func26 (ann := A26) (args := [(.pointer c_), (.bool isv_), (.int .i64 ev_)]) (by kernel_rfl) (Eq.mpr (by kernel_rfl) H)
def A27 : Ann := (.seq .nil (.seq .nil (.block (.loop [(10, (.int .i64))] (.seq .nil (.seq (.cond .nil .nil) (.seq (.block (.seq .nil (.seq .nil .nil))) .nil)))))))
theorem V27 (c_ : Option Addr) (lp_ : Option Addr) (ln_ lc_ : Nat) (h : Hp) (R : Ending → Hp → Prop) (H :
 ∀ r_ q_, r_ = h.size → q_ = h.push (.map #[] 0) →
 ∃ (Iv_ : List Value → Hp → Prop) (m_ : List Value → Hp → Nat), Iv_ [(.int .i64 (0 : Int))] q_ ∧
 (∀ (x10_ : Int) q_1, Iv_ [(.int .i64 x10_)] q_1 →
 (((decide (x10_ < ((ln_ : Nat) : Int))) = true →
 ∃ b_ o_, lp_ = some ⟨b_, o_, none⟩ ∧ 0 ≤ x10_ ∧ x10_ < (ln_ : Int) ∧
 ∃ x13f0_ : ByteArray, ∃ x13f1_ : Int, cellsAt q_1 b_ (o_ + Int.toNat x10_ * 2) [(.string x13f0_), (.int .i64 x13f1_)] ∧
 ∀ b_1 q_2, b_1 = q_1.size → q_2 = q_1.push (.cells (zeros Tryz.prog 89) 89) → (∃ i z, Tryz.prog.info? 89 = some i ∧ i.zero = some z) ∧
 List.length [(Value.string x13f0_), (.int .i64 x13f1_)] = 2 ∧ (∀ c ∈ [(Value.string x13f0_), (.int .i64 x13f1_)], c.oneCell' = true) ∧ wrAt q_2 b_1 0 2 ∧ ∀ q_3, q_3 = setsH q_2 b_1 0 [(.string x13f0_), (.int .i64 x13f1_)] →
 ∃ x16_ : ByteArray, cellsAt q_3 b_1 (0 + 0) [(.string x16_)] ∧
 CallsH Tryz.prog 55 #[(.pointer c_), (.string x16_), (.map (some r_))] q_3 fun en_ q_4 =>
 en_ = .returned (.tuple #[]) ∧
 ∃ x21_ : Int, cellsAt q_4 b_1 (0 + 1) [(.int .i64 x21_)] ∧
 (((decide ((1 : Int) ≤ x21_)) = true →
 ∃ x25_ : Int, cellsAt q_4 b_1 (0 + 1) [(.int .i64 x25_)] ∧
 CallsH Tryz.prog 26 #[(.pointer c_), (.bool (decide (x25_ ≤ (128 : Int)))), (.int .i64 (73 : Int))] q_4 fun en_1 q_5 =>
 en_1 = .returned (.tuple #[]) ∧
 ∃ x29_, IntKind.i64.wrap (x10_ + (1 : Int)) = x29_ ∧
 (Iv_ [(.int .i64 x29_)] q_5 ∧ m_ [(.int .i64 x29_)] q_5 < m_ [(.int .i64 x10_)] q_1)) ∧
 ((decide ((1 : Int) ≤ x21_)) = false →
 CallsH Tryz.prog 26 #[(.pointer c_), (.bool false), (.int .i64 (73 : Int))] q_4 fun en_2 q_6 =>
 en_2 = .returned (.tuple #[]) ∧
 ∃ x29_1, IntKind.i64.wrap (x10_ + (1 : Int)) = x29_1 ∧
 (Iv_ [(.int .i64 x29_1)] q_6 ∧ m_ [(.int .i64 x29_1)] q_6 < m_ [(.int .i64 x10_)] q_1)))) ∧
 ((decide (x10_ < ((ln_ : Nat) : Int))) = false →
 R (.returned (.tuple #[])) q_1)))) :
 CallsH Tryz.prog 27 #[(.pointer c_), (.slice lp_ ln_ lc_)] h R := calls_vc fine false Tryz.func27 (ann := A27) (args := [(.pointer c_), (.slice lp_ ln_ lc_)]) (by kernel_rfl) (Eq.mpr (by kernel_rfl) H)
def A28 : Ann := (.seq .nil (.seq .nil (.seq .nil (.seq (.seq .nil (.block (.loop [(35, (.int .i64))] (.seq .nil (.seq (.cond .nil .nil) (.seq (.block (.seq .dead .dead)) .dead)))))) (.seq .nil (.seq (.seq .nil (.block (.loop [(50, (.int .i64))] (.seq .nil (.seq (.cond .nil .nil) (.seq (.block (.seq .dead .dead)) .dead)))))) .nil))))))
theorem V28 (c_ : Option Addr) (h : Hp) (R : Ending → Hp → Prop) (H :
 ∃ b_ o_, c_ = some ⟨b_, o_, none⟩ ∧
 Value.oneCell' (.string (⟨#[115, 116, 97, 116, 101]⟩ : ByteArray)) = true ∧ wrAt h b_ (o_ + 6) 1 ∧ ∀ q_, q_ = setsH h b_ (o_ + 6) [(.string (⟨#[115, 116, 97, 116, 101]⟩ : ByteArray))] →
 ∃ b_1 o_1, c_ = some ⟨b_1, o_1, none⟩ ∧
 ∃ (x23p_ : Option Addr) (x23n_ x23c_ : Nat), cellsAt q_ b_1 ((o_1 + 0) + 2) [(.slice x23p_ x23n_ x23c_)] ∧
 CallsH Tryz.prog 26 #[(.pointer c_), (.bool (decide (((x23n_ : Nat) : Int) ≤ (32 : Int)))), (.int .i64 (74 : Int))] q_ fun en_ q_1 =>
 en_ = .returned (.tuple #[]) ∧
 ∀ r_ q_2, r_ = q_1.size → q_2 = q_1.push (.map #[] 0) →
 SemH Tryz.prog (Instr.mapUpdate 111 (.map (some r_)) (.string (⟨#[97, 99, 99, 101, 112, 116]⟩ : ByteArray)) (.int .i64 (1 : Int))) q_2 fun _ q_3 =>
 SemH Tryz.prog (Instr.mapUpdate 111 (.map (some r_)) (.string (⟨#[114, 101, 106, 101, 99, 116]⟩ : ByteArray)) (.int .i64 (1 : Int))) q_3 fun _ q_4 =>
 ∃ b_2 o_2, c_ = some ⟨b_2, o_2, none⟩ ∧
 ∃ (x33p_ : Option Addr) (x33n_ x33c_ : Nat), cellsAt q_4 b_2 ((o_2 + 0) + 2) [(.slice x33p_ x33n_ x33c_)] ∧
 ∃ (Iv_ : List Value → Hp → Prop) (m_ : List Value → Hp → Nat), Iv_ [(.int .i64 (0 : Int))] q_4 ∧
 (∀ (x35_ : Int) q_5, Iv_ [(.int .i64 x35_)] q_5 →
 (((decide (x35_ < ((x33n_ : Nat) : Int))) = true →
 False) ∧
 ((decide (x35_ < ((x33n_ : Nat) : Int))) = false →
 ∀ r_1 q_6, r_1 = q_5.size → q_6 = q_5.push (.map #[] 0) →
 ∃ b_3 o_3, c_ = some ⟨b_3, o_3, none⟩ ∧
 ∃ (x48p_ : Option Addr) (x48n_ x48c_ : Nat), cellsAt q_6 b_3 ((o_3 + 0) + 2) [(.slice x48p_ x48n_ x48c_)] ∧
 ∃ (Iv_1 : List Value → Hp → Prop) (m_1 : List Value → Hp → Nat), Iv_1 [(.int .i64 (0 : Int))] q_6 ∧
 (∀ (x50_ : Int) q_7, Iv_1 [(.int .i64 x50_)] q_7 →
 (((decide (x50_ < ((x48n_ : Nat) : Int))) = true →
 False) ∧
 ((decide (x50_ < ((x48n_ : Nat) : Int))) = false →
 CallsH Tryz.prog 59 #[(.pointer c_)] q_7 fun en_1 q_8 =>
 en_1 = .returned (.tuple #[]) ∧
 R (.returned (.tuple #[])) q_8))))))) :
 CallsH Tryz.prog 28 #[(.pointer c_)] h R := calls_vc fine false Tryz.func28 (ann := A28) (args := [(.pointer c_)]) (by kernel_rfl) (Eq.mpr (by kernel_rfl) H)
def A29 : Ann := (.seq .nil (.seq .nil (.seq .nil (.seq .nil (.block (.loop [(26, (.int .i64))] (.seq .nil (.seq (.cond .nil .nil) (.seq (.block (.seq .nil (.seq .nil (.seq .nil (.cut .nil [] (.seq .nil (.seq .nil (.block (.loop [(60, (.int .i64))] (.seq .nil (.seq (.cond .nil .nil) (.seq (.block (.seq .dead .dead)) .dead)))))))))))) .nil)))))))))
theorem V29 (c_ : Option Addr) (h : Hp) (R : Ending → Hp → Prop) (H :
 ∃ b_ o_, c_ = some ⟨b_, o_, none⟩ ∧
 Value.oneCell' (.string (⟨#[97, 99, 116, 105, 111, 110]⟩ : ByteArray)) = true ∧ wrAt h b_ (o_ + 6) 1 ∧ ∀ q_, q_ = setsH h b_ (o_ + 6) [(.string (⟨#[97, 99, 116, 105, 111, 110]⟩ : ByteArray))] →
 ∃ b_1 o_1, c_ = some ⟨b_1, o_1, none⟩ ∧
 ∃ (x15p_ : Option Addr) (x15n_ x15c_ : Nat), cellsAt q_ b_1 ((o_1 + 0) + 3) [(.slice x15p_ x15n_ x15c_)] ∧
 CallsH Tryz.prog 26 #[(.pointer c_), (.bool (decide (((x15n_ : Nat) : Int) ≤ (64 : Int)))), (.int .i64 (74 : Int))] q_ fun en_ q_1 =>
 en_ = .returned (.tuple #[]) ∧
 ∀ r_ q_2, r_ = q_1.size → q_2 = q_1.push (.map #[] 0) →
 ∃ b_2 o_2, c_ = some ⟨b_2, o_2, none⟩ ∧
 ∃ (x24p_ : Option Addr) (x24n_ x24c_ : Nat), cellsAt q_2 b_2 ((o_2 + 0) + 3) [(.slice x24p_ x24n_ x24c_)] ∧
 ∃ (Iv_ : List Value → Hp → Prop) (m_ : List Value → Hp → Nat), Iv_ [(.int .i64 (0 : Int))] q_2 ∧
 (∀ (x26_ : Int) q_3, Iv_ [(.int .i64 x26_)] q_3 →
 (((decide (x26_ < ((x24n_ : Nat) : Int))) = true →
 ∃ b_3 o_3, x24p_ = some ⟨b_3, o_3, none⟩ ∧ 0 ≤ x26_ ∧ x26_ < (x24n_ : Int) ∧
 ∃ x29f0_ : ByteArray, ∃ (x29f1p_ : Option Addr) (x29f1n_ x29f1c_ : Nat) (x29f2p_ : Option Addr) (x29f2n_ x29f2c_ : Nat), cellsAt q_3 b_3 (o_3 + Int.toNat x26_ * 3) [(.string x29f0_), (.slice x29f1p_ x29f1n_ x29f1c_), (.slice x29f2p_ x29f2n_ x29f2c_)] ∧
 ∀ b_4 q_4, b_4 = q_3.size → q_4 = q_3.push (.cells (zeros Tryz.prog 92) 92) → (∃ i z, Tryz.prog.info? 92 = some i ∧ i.zero = some z) ∧
 List.length [(Value.string x29f0_), (.slice x29f1p_ x29f1n_ x29f1c_), (.slice x29f2p_ x29f2n_ x29f2c_)] = 3 ∧ (∀ c ∈ [(Value.string x29f0_), (.slice x29f1p_ x29f1n_ x29f1c_), (.slice x29f2p_ x29f2n_ x29f2c_)], c.oneCell' = true) ∧ wrAt q_4 b_4 0 3 ∧ ∀ q_5, q_5 = setsH q_4 b_4 0 [(.string x29f0_), (.slice x29f1p_ x29f1n_ x29f1c_), (.slice x29f2p_ x29f2n_ x29f2c_)] →
 ∃ x32_ : ByteArray, cellsAt q_5 b_4 (0 + 0) [(.string x32_)] ∧
 ByteArray.size (⟨#[97, 99, 116, 105, 111, 110, 32]⟩ : ByteArray) + ByteArray.size x32_ ≤ 9223372036854775807 ∧ ∃ x33_, (⟨#[97, 99, 116, 105, 111, 110, 32]⟩ : ByteArray) ++ x32_ = x33_ ∧
 ∃ b_5 o_4, c_ = some ⟨b_5, o_4, none⟩ ∧
 Value.oneCell' (.string x33_) = true ∧ wrAt q_5 b_5 (o_4 + 6) 1 ∧ ∀ q_6, q_6 = setsH q_5 b_5 (o_4 + 6) [(.string x33_)] →
 ∃ x38_ : ByteArray, cellsAt q_6 b_4 (0 + 0) [(.string x38_)] ∧
 CallsH Tryz.prog 55 #[(.pointer c_), (.string x38_), (.map (some r_))] q_6 fun en_1 q_7 =>
 en_1 = .returned (.tuple #[]) ∧
 ∃ Jv_ : List Value → Hp → Prop,
 (∃ (x43p_ : Option Addr) (x43n_ x43c_ : Nat), cellsAt q_7 b_4 (0 + 1) [(.slice x43p_ x43n_ x43c_)] ∧
 (((decide (((x43n_ : Nat) : Int) ≤ (8 : Int))) = true →
 ∃ (x48p_ : Option Addr) (x48n_ x48c_ : Nat), cellsAt q_7 b_4 (0 + 2) [(.slice x48p_ x48n_ x48c_)] ∧
 CallsH Tryz.prog 26 #[(.pointer c_), (.bool (decide (((x48n_ : Nat) : Int) ≤ (32 : Int)))), (.int .i64 (74 : Int))] q_7 fun en_2 q_8 =>
 en_2 = .returned (.tuple #[]) ∧
 Jv_ [] q_8) ∧
 ((decide (((x43n_ : Nat) : Int) ≤ (8 : Int))) = false →
 CallsH Tryz.prog 26 #[(.pointer c_), (.bool false), (.int .i64 (74 : Int))] q_7 fun en_3 q_9 =>
 en_3 = .returned (.tuple #[]) ∧
 Jv_ [] q_9))) ∧
 (∀  q_10, Jv_ [] q_10 →
 ∃ (x55p_ : Option Addr) (x55n_ x55c_ : Nat), cellsAt q_10 b_4 (0 + 1) [(.slice x55p_ x55n_ x55c_)] ∧
 CallsH Tryz.prog 27 #[(.pointer c_), (.slice x55p_ x55n_ x55c_)] q_10 fun en_4 q_11 =>
 en_4 = .returned (.tuple #[]) ∧
 ∃ (x58p_ : Option Addr) (x58n_ x58c_ : Nat), cellsAt q_11 b_4 (0 + 2) [(.slice x58p_ x58n_ x58c_)] ∧
 ∃ (Iv_1 : List Value → Hp → Prop) (m_1 : List Value → Hp → Nat), Iv_1 [(.int .i64 (0 : Int))] q_11 ∧
 (∀ (x60_ : Int) q_12, Iv_1 [(.int .i64 x60_)] q_12 →
 (((decide (x60_ < ((x58n_ : Nat) : Int))) = true →
 False) ∧
 ((decide (x60_ < ((x58n_ : Nat) : Int))) = false →
 ∃ x70_, IntKind.i64.wrap (x26_ + (1 : Int)) = x70_ ∧
 (Iv_ [(.int .i64 x70_)] q_12 ∧ m_ [(.int .i64 x70_)] q_12 < m_ [(.int .i64 x26_)] q_3)))))) ∧
 ((decide (x26_ < ((x24n_ : Nat) : Int))) = false →
 R (.returned (.tuple #[])) q_3)))) :
 CallsH Tryz.prog 29 #[(.pointer c_)] h R := calls_vc fine false Tryz.func29 (ann := A29) (args := [(.pointer c_)]) (by kernel_rfl) (Eq.mpr (by kernel_rfl) H)
def A30 : Ann := (.seq .nil (.seq .nil (.seq .nil (.seq .nil (.block (.loop [(33, (.int .i64))] (.seq .nil (.seq (.cond .nil .nil) (.seq (.block (.seq .nil (.seq .nil (.seq .nil (.cut .nil [] (.seq .nil (.seq (.seq .nil (.block (.loop [(5, (.int .i64)), (63, (.int .i64))] (.seq .nil (.seq (.cond .nil .nil) (.seq (.block (.seq .nil (.cut (.orders 10 [[0, 1, 2, 3, 4, 5, 6, 7, 8, 9, 10, 11, 12], [0, 1, 2, 3, 4, 5, 10, 6, 7, 8, 9, 11, 12]] [3, 5]) [(9, .bool)] (.seq .nil (.cut .nil [] (.seq .nil (.cond (.seq .nil .nil) .nil))))))) .nil)))))) (.cut .nil [] (.seq .nil (.seq (.seq .nil (.block (.loop [(121, (.int .i64))] (.seq .nil (.seq (.cond .nil .nil) (.seq (.block (.seq .nil (.seq .nil (.seq .nil .nil)))) .nil)))))) (.cut .nil [] (.seq .nil (.seq .nil (.cond .dead .nil)))))))))))))) .nil)))))))))
theorem V30 (c_ : Option Addr) (h : Hp) (R : Ending → Hp → Prop) (H :
 ∃ b_ o_, c_ = some ⟨b_, o_, none⟩ ∧
 Value.oneCell' (.string (⟨#[116, 97, 98, 108, 101]⟩ : ByteArray)) = true ∧ wrAt h b_ (o_ + 6) 1 ∧ ∀ q_, q_ = setsH h b_ (o_ + 6) [(.string (⟨#[116, 97, 98, 108, 101]⟩ : ByteArray))] →
 ∃ b_1 o_1, c_ = some ⟨b_1, o_1, none⟩ ∧
 ∃ (x22p_ : Option Addr) (x22n_ x22c_ : Nat), cellsAt q_ b_1 ((o_1 + 0) + 4) [(.slice x22p_ x22n_ x22c_)] ∧
 CallsH Tryz.prog 26 #[(.pointer c_), (.bool (decide (((x22n_ : Nat) : Int) ≤ (32 : Int)))), (.int .i64 (74 : Int))] q_ fun en_ q_1 =>
 en_ = .returned (.tuple #[]) ∧
 ∀ r_ q_2, r_ = q_1.size → q_2 = q_1.push (.map #[] 0) →
 ∃ b_2 o_2, c_ = some ⟨b_2, o_2, none⟩ ∧
 ∃ (x31p_ : Option Addr) (x31n_ x31c_ : Nat), cellsAt q_2 b_2 ((o_2 + 0) + 4) [(.slice x31p_ x31n_ x31c_)] ∧
 ∃ (Iv_ : List Value → Hp → Prop) (m_ : List Value → Hp → Nat), Iv_ [(.int .i64 (0 : Int))] q_2 ∧
 (∀ (x33_ : Int) q_3, Iv_ [(.int .i64 x33_)] q_3 →
 (((decide (x33_ < ((x31n_ : Nat) : Int))) = true →
 ∃ b_3 o_3, x31p_ = some ⟨b_3, o_3, none⟩ ∧ 0 ≤ x33_ ∧ x33_ < (x31n_ : Int) ∧
 ∃ x36f0_ : ByteArray, ∃ (x36f1p_ : Option Addr) (x36f1n_ x36f1c_ : Nat) (x36f2p_ : Option Addr) (x36f2n_ x36f2c_ : Nat), ∃ x36f3_ : Int, ∃ x36f4_ : ByteArray, ∃ (x36f5p_ : Option Addr) (x36f5n_ x36f5c_ : Nat), ∃ x36f6_ : Bool, cellsAt q_3 b_3 (o_3 + Int.toNat x33_ * 7) [(.string x36f0_), (.slice x36f1p_ x36f1n_ x36f1c_), (.slice x36f2p_ x36f2n_ x36f2c_), (.int .i64 x36f3_), (.string x36f4_), (.slice x36f5p_ x36f5n_ x36f5c_), (.bool x36f6_)] ∧
 ∀ b_4 q_4, b_4 = q_3.size → q_4 = q_3.push (.cells (zeros Tryz.prog 73) 73) → (∃ i z, Tryz.prog.info? 73 = some i ∧ i.zero = some z) ∧
 List.length [(Value.string x36f0_), (.slice x36f1p_ x36f1n_ x36f1c_), (.slice x36f2p_ x36f2n_ x36f2c_), (.int .i64 x36f3_), (.string x36f4_), (.slice x36f5p_ x36f5n_ x36f5c_), (.bool x36f6_)] = 7 ∧ (∀ c ∈ [(Value.string x36f0_), (.slice x36f1p_ x36f1n_ x36f1c_), (.slice x36f2p_ x36f2n_ x36f2c_), (.int .i64 x36f3_), (.string x36f4_), (.slice x36f5p_ x36f5n_ x36f5c_), (.bool x36f6_)], c.oneCell' = true) ∧ wrAt q_4 b_4 0 7 ∧ ∀ q_5, q_5 = setsH q_4 b_4 0 [(.string x36f0_), (.slice x36f1p_ x36f1n_ x36f1c_), (.slice x36f2p_ x36f2n_ x36f2c_), (.int .i64 x36f3_), (.string x36f4_), (.slice x36f5p_ x36f5n_ x36f5c_), (.bool x36f6_)] →
 ∃ x39_ : ByteArray, cellsAt q_5 b_4 (0 + 0) [(.string x39_)] ∧
 ByteArray.size (⟨#[116, 97, 98, 108, 101, 32]⟩ : ByteArray) + ByteArray.size x39_ ≤ 9223372036854775807 ∧ ∃ x40_, (⟨#[116, 97, 98, 108, 101, 32]⟩ : ByteArray) ++ x39_ = x40_ ∧
 ∃ b_5 o_4, c_ = some ⟨b_5, o_4, none⟩ ∧
 Value.oneCell' (.string x40_) = true ∧ wrAt q_5 b_5 (o_4 + 6) 1 ∧ ∀ q_6, q_6 = setsH q_5 b_5 (o_4 + 6) [(.string x40_)] →
 ∃ x45_ : ByteArray, cellsAt q_6 b_4 (0 + 0) [(.string x45_)] ∧
 CallsH Tryz.prog 55 #[(.pointer c_), (.string x45_), (.map (some r_))] q_6 fun en_1 q_7 =>
 en_1 = .returned (.tuple #[]) ∧
 ∃ Jv_ : List Value → Hp → Prop,
 (∃ (x50p_ : Option Addr) (x50n_ x50c_ : Nat), cellsAt q_7 b_4 (0 + 1) [(.slice x50p_ x50n_ x50c_)] ∧
 (((decide ((0 : Int) < ((x50n_ : Nat) : Int))) = true →
 ∃ (x55p_ : Option Addr) (x55n_ x55c_ : Nat), cellsAt q_7 b_4 (0 + 1) [(.slice x55p_ x55n_ x55c_)] ∧
 CallsH Tryz.prog 26 #[(.pointer c_), (.bool (decide (((x55n_ : Nat) : Int) ≤ (8 : Int)))), (.int .i64 (74 : Int))] q_7 fun en_2 q_8 =>
 en_2 = .returned (.tuple #[]) ∧
 Jv_ [] q_8) ∧
 ((decide ((0 : Int) < ((x50n_ : Nat) : Int))) = false →
 CallsH Tryz.prog 26 #[(.pointer c_), (.bool false), (.int .i64 (74 : Int))] q_7 fun en_3 q_9 =>
 en_3 = .returned (.tuple #[]) ∧
 Jv_ [] q_9))) ∧
 (∀  q_10, Jv_ [] q_10 →
 ∃ (x61p_ : Option Addr) (x61n_ x61c_ : Nat), cellsAt q_10 b_4 (0 + 1) [(.slice x61p_ x61n_ x61c_)] ∧
 ∃ (Iv_1 : List Value → Hp → Prop) (m_1 : List Value → Hp → Nat), Iv_1 [(.int .i64 (0 : Int)), (.int .i64 (0 : Int))] q_10 ∧
 (∀ (prefixes_ : Int) (x63_ : Int) q_11, Iv_1 [(.int .i64 prefixes_), (.int .i64 x63_)] q_11 →
 (((decide (x63_ < ((x61n_ : Nat) : Int))) = true →
 ∃ b_6 o_5, x61p_ = some ⟨b_6, o_5, none⟩ ∧ 0 ≤ x63_ ∧ x63_ < (x61n_ : Int) ∧
 ∃ x66f0_ : ByteArray, ∃ x66f1_ : ByteArray, ∃ x66f2_ : Int, cellsAt q_11 b_6 (o_5 + Int.toNat x63_ * 3) [(.string x66f0_), (.string x66f1_), (.int .i64 x66f2_)] ∧
 ∀ b_7 q_12, b_7 = q_11.size → q_12 = q_11.push (.cells (zeros Tryz.prog 94) 94) → (∃ i z, Tryz.prog.info? 94 = some i ∧ i.zero = some z) ∧
 List.length [(Value.string x66f0_), (.string x66f1_), (.int .i64 x66f2_)] = 3 ∧ (∀ c ∈ [(Value.string x66f0_), (.string x66f1_), (.int .i64 x66f2_)], c.oneCell' = true) ∧ wrAt q_12 b_7 0 3 ∧ ∀ q_13, q_13 = setsH q_12 b_7 0 [(.string x66f0_), (.string x66f1_), (.int .i64 x66f2_)] →
 ∃ Jv_1 : List Value → Hp → Prop,
 ((∃ Cv_ : Hp → Prop, Cv_ q_13 ∧
 ∃ b_8 o_6, c_ = some ⟨b_8, o_6, none⟩ ∧
 ∃ (x71f0p_ : Option Addr) (x71f0n_ x71f0c_ : Nat) (x71f1p_ : Option Addr) (x71f1n_ x71f1c_ : Nat) (x71f2p_ : Option Addr) (x71f2n_ x71f2c_ : Nat) (x71f3p_ : Option Addr) (x71f3n_ x71f3c_ : Nat) (x71f4p_ : Option Addr) (x71f4n_ x71f4c_ : Nat) (x71f5p_ : Option Addr) (x71f5n_ x71f5c_ : Nat), (∀ h', Cv_ h' → cellsAt h' b_8 (o_6 + 0) [(.slice x71f0p_ x71f0n_ x71f0c_), (.slice x71f1p_ x71f1n_ x71f1c_), (.slice x71f2p_ x71f2n_ x71f2c_), (.slice x71f3p_ x71f3n_ x71f3c_), (.slice x71f4p_ x71f4n_ x71f4c_), (.slice x71f5p_ x71f5n_ x71f5c_)]) ∧
 ∃ x73f0_ : ByteArray, ∃ x73f1_ : ByteArray, (∀ h', Cv_ h' → cellsAt h' b_7 (0 + 0) [(.string x73f0_), (.string x73f1_)]) ∧
 CallsH Tryz.prog 57 #[(.agg #[(.slice x71f0p_ x71f0n_ x71f0c_), (.slice x71f1p_ x71f1n_ x71f1c_), (.slice x71f2p_ x71f2n_ x71f2c_), (.slice x71f3p_ x71f3n_ x71f3c_), (.slice x71f4p_ x71f4n_ x71f4c_), (.slice x71f5p_ x71f5n_ x71f5c_)]), (.agg #[(.string x73f0_), (.string x73f1_)])] q_13 fun en_4 q_14 =>
 ∃ x74r0f0_ : ByteArray, ∃ x74r0f1_ : Int, ∃ x74r1_ : Bool, en_4 = .returned (.tuple #[(.agg #[(.string x74r0f0_), (.int .i64 x74r0f1_)]), (.bool x74r1_)]) ∧
 Cv_ q_14 ∧
 ∀ b_9 q_15, b_9 = q_14.size → q_15 = q_14.push (.cells (zeros Tryz.prog 89) 89) → (∃ i z, Tryz.prog.info? 89 = some i ∧ i.zero = some z) ∧
 Cv_ q_15 ∧
 List.length [(Value.string x74r0f0_), (.int .i64 x74r0f1_)] = 2 ∧ (∀ c ∈ [(Value.string x74r0f0_), (.int .i64 x74r0f1_)], c.oneCell' = true) ∧ wrAt q_15 b_9 0 2 ∧ ∀ q_16, q_16 = setsH q_15 b_9 0 [(.string x74r0f0_), (.int .i64 x74r0f1_)] →
 Cv_ q_16 ∧
 Jv_1 [(.bool x74r1_)] q_16) ∧
 (∃ Cv_1 : Hp → Prop, Cv_1 q_13 ∧
 ∃ b_10 o_7, c_ = some ⟨b_10, o_7, none⟩ ∧
 ∃ (x71f0p_1 : Option Addr) (x71f0n_1 x71f0c_1 : Nat) (x71f1p_1 : Option Addr) (x71f1n_1 x71f1c_1 : Nat) (x71f2p_1 : Option Addr) (x71f2n_1 x71f2c_1 : Nat) (x71f3p_1 : Option Addr) (x71f3n_1 x71f3c_1 : Nat) (x71f4p_1 : Option Addr) (x71f4n_1 x71f4c_1 : Nat) (x71f5p_1 : Option Addr) (x71f5n_1 x71f5c_1 : Nat), (∀ h', Cv_1 h' → cellsAt h' b_10 (o_7 + 0) [(.slice x71f0p_1 x71f0n_1 x71f0c_1), (.slice x71f1p_1 x71f1n_1 x71f1c_1), (.slice x71f2p_1 x71f2n_1 x71f2c_1), (.slice x71f3p_1 x71f3n_1 x71f3c_1), (.slice x71f4p_1 x71f4n_1 x71f4c_1), (.slice x71f5p_1 x71f5n_1 x71f5c_1)]) ∧
 ∃ x73f0_1 : ByteArray, ∃ x73f1_1 : ByteArray, (∀ h', Cv_1 h' → cellsAt h' b_7 (0 + 0) [(.string x73f0_1), (.string x73f1_1)]) ∧
 ∀ b_11 q_17, b_11 = q_13.size → q_17 = q_13.push (.cells (zeros Tryz.prog 89) 89) → (∃ i z, Tryz.prog.info? 89 = some i ∧ i.zero = some z) ∧
 Cv_1 q_17 ∧
 CallsH Tryz.prog 57 #[(.agg #[(.slice x71f0p_1 x71f0n_1 x71f0c_1), (.slice x71f1p_1 x71f1n_1 x71f1c_1), (.slice x71f2p_1 x71f2n_1 x71f2c_1), (.slice x71f3p_1 x71f3n_1 x71f3c_1), (.slice x71f4p_1 x71f4n_1 x71f4c_1), (.slice x71f5p_1 x71f5n_1 x71f5c_1)]), (.agg #[(.string x73f0_1), (.string x73f1_1)])] q_17 fun en_5 q_18 =>
 ∃ x74r0f0_1 : ByteArray, ∃ x74r0f1_1 : Int, ∃ x74r1_1 : Bool, en_5 = .returned (.tuple #[(.agg #[(.string x74r0f0_1), (.int .i64 x74r0f1_1)]), (.bool x74r1_1)]) ∧
 Cv_1 q_18 ∧
 List.length [(Value.string x74r0f0_1), (.int .i64 x74r0f1_1)] = 2 ∧ (∀ c ∈ [(Value.string x74r0f0_1), (.int .i64 x74r0f1_1)], c.oneCell' = true) ∧ wrAt q_18 b_11 0 2 ∧ ∀ q_19, q_19 = setsH q_18 b_11 0 [(.string x74r0f0_1), (.int .i64 x74r0f1_1)] →
 Cv_1 q_19 ∧
 Jv_1 [(.bool x74r1_1)] q_19)) ∧
 (∀ (ok_ : Bool) q_20, Jv_1 [(.bool ok_)] q_20 →
 CallsH Tryz.prog 26 #[(.pointer c_), (.bool ok_), (.int .i64 (72 : Int))] q_20 fun en_6 q_21 =>
 en_6 = .returned (.tuple #[]) ∧
 ∃ Jv_2 : List Value → Hp → Prop,
 (∃ x82_ : Int, cellsAt q_21 b_7 (0 + 2) [(.int .i64 x82_)] ∧
 (((decide ((1 : Int) ≤ x82_)) = true →
 ∃ x86_ : Int, cellsAt q_21 b_7 (0 + 2) [(.int .i64 x86_)] ∧
 CallsH Tryz.prog 26 #[(.pointer c_), (.bool (decide (x86_ ≤ (4 : Int)))), (.int .i64 (75 : Int))] q_21 fun en_7 q_22 =>
 en_7 = .returned (.tuple #[]) ∧
 Jv_2 [] q_22) ∧
 ((decide ((1 : Int) ≤ x82_)) = false →
 CallsH Tryz.prog 26 #[(.pointer c_), (.bool false), (.int .i64 (75 : Int))] q_21 fun en_8 q_23 =>
 en_8 = .returned (.tuple #[]) ∧
 Jv_2 [] q_23))) ∧
 (∀  q_24, Jv_2 [] q_24 →
 ∃ x91_ : Int, cellsAt q_24 b_7 (0 + 2) [(.int .i64 x91_)] ∧
 (((decide (x91_ = (2 : Int))) = true →
 ∃ x94_, IntKind.i64.wrap (prefixes_ + (1 : Int)) = x94_ ∧
 (((decide (x94_ = (1 : Int))) = true →
 ∃ x99f0_ : ByteArray, ∃ (x99f1p_ : Option Addr) (x99f1n_ x99f1c_ : Nat) (x99f2p_ : Option Addr) (x99f2n_ x99f2c_ : Nat), ∃ x99f3_ : Int, ∃ x99f4_ : ByteArray, ∃ (x99f5p_ : Option Addr) (x99f5n_ x99f5c_ : Nat), ∃ x99f6_ : Bool, cellsAt q_24 b_4 0 [(.string x99f0_), (.slice x99f1p_ x99f1n_ x99f1c_), (.slice x99f2p_ x99f2n_ x99f2c_), (.int .i64 x99f3_), (.string x99f4_), (.slice x99f5p_ x99f5n_ x99f5c_), (.bool x99f6_)] ∧
 CallsH Tryz.prog 61 #[(.agg #[(.string x99f0_), (.slice x99f1p_ x99f1n_ x99f1c_), (.slice x99f2p_ x99f2n_ x99f2c_), (.int .i64 x99f3_), (.string x99f4_), (.slice x99f5p_ x99f5n_ x99f5c_), (.bool x99f6_)])] q_24 fun en_9 q_25 =>
 ∃ x100_ : Int, en_9 = .returned (.int .i64 x100_) ∧
 CallsH Tryz.prog 26 #[(.pointer c_), (.bool (decide (x100_ = (2 : Int)))), (.int .i64 (75 : Int))] q_25 fun en_10 q_26 =>
 en_10 = .returned (.tuple #[]) ∧
 ∃ x104_, IntKind.i64.wrap (x63_ + (1 : Int)) = x104_ ∧
 (Iv_1 [(.int .i64 x94_), (.int .i64 x104_)] q_26 ∧ m_1 [(.int .i64 x94_), (.int .i64 x104_)] q_26 < m_1 [(.int .i64 prefixes_), (.int .i64 x63_)] q_11)) ∧
 ((decide (x94_ = (1 : Int))) = false →
 CallsH Tryz.prog 26 #[(.pointer c_), (.bool false), (.int .i64 (75 : Int))] q_24 fun en_11 q_27 =>
 en_11 = .returned (.tuple #[]) ∧
 ∃ x104_1, IntKind.i64.wrap (x63_ + (1 : Int)) = x104_1 ∧
 (Iv_1 [(.int .i64 x94_), (.int .i64 x104_1)] q_27 ∧ m_1 [(.int .i64 x94_), (.int .i64 x104_1)] q_27 < m_1 [(.int .i64 prefixes_), (.int .i64 x63_)] q_11)))) ∧
 ((decide (x91_ = (2 : Int))) = false →
 ∃ x104_2, IntKind.i64.wrap (x63_ + (1 : Int)) = x104_2 ∧
 (Iv_1 [(.int .i64 prefixes_), (.int .i64 x104_2)] q_24 ∧ m_1 [(.int .i64 prefixes_), (.int .i64 x104_2)] q_24 < m_1 [(.int .i64 prefixes_), (.int .i64 x63_)] q_11)))))) ∧
 ((decide (x63_ < ((x61n_ : Nat) : Int))) = false →
 ∃ Jv_3 : List Value → Hp → Prop,
 (∃ (x107p_ : Option Addr) (x107n_ x107c_ : Nat), cellsAt q_11 b_4 (0 + 2) [(.slice x107p_ x107n_ x107c_)] ∧
 (((decide ((0 : Int) < ((x107n_ : Nat) : Int))) = true →
 ∃ (x112p_ : Option Addr) (x112n_ x112c_ : Nat), cellsAt q_11 b_4 (0 + 2) [(.slice x112p_ x112n_ x112c_)] ∧
 CallsH Tryz.prog 26 #[(.pointer c_), (.bool (decide (((x112n_ : Nat) : Int) ≤ (64 : Int)))), (.int .i64 (74 : Int))] q_11 fun en_12 q_28 =>
 en_12 = .returned (.tuple #[]) ∧
 Jv_3 [] q_28) ∧
 ((decide ((0 : Int) < ((x107n_ : Nat) : Int))) = false →
 CallsH Tryz.prog 26 #[(.pointer c_), (.bool false), (.int .i64 (74 : Int))] q_11 fun en_13 q_29 =>
 en_13 = .returned (.tuple #[]) ∧
 Jv_3 [] q_29))) ∧
 (∀  q_30, Jv_3 [] q_30 →
 ∀ r_1 q_31, r_1 = q_30.size → q_31 = q_30.push (.map #[] 0) →
 ∃ (x119p_ : Option Addr) (x119n_ x119c_ : Nat), cellsAt q_31 b_4 (0 + 2) [(.slice x119p_ x119n_ x119c_)] ∧
 ∃ (Iv_2 : List Value → Hp → Prop) (m_2 : List Value → Hp → Nat), Iv_2 [(.int .i64 (0 : Int))] q_31 ∧
 (∀ (x121_ : Int) q_32, Iv_2 [(.int .i64 x121_)] q_32 →
 (((decide (x121_ < ((x119n_ : Nat) : Int))) = true →
 ∃ b_12 o_8, x119p_ = some ⟨b_12, o_8, none⟩ ∧ 0 ≤ x121_ ∧ x121_ < (x119n_ : Int) ∧
 ∃ x124_ : ByteArray, cellsAt q_32 b_12 (o_8 + Int.toNat x121_ * 1) [(.string x124_)] ∧
 ∃ b_13 o_9, c_ = some ⟨b_13, o_9, none⟩ ∧
 ∃ (x129f0p_ : Option Addr) (x129f0n_ x129f0c_ : Nat) (x129f1p_ : Option Addr) (x129f1n_ x129f1c_ : Nat) (x129f2p_ : Option Addr) (x129f2n_ x129f2c_ : Nat) (x129f3p_ : Option Addr) (x129f3n_ x129f3c_ : Nat) (x129f4p_ : Option Addr) (x129f4n_ x129f4c_ : Nat) (x129f5p_ : Option Addr) (x129f5n_ x129f5c_ : Nat), cellsAt q_32 b_13 (o_9 + 0) [(.slice x129f0p_ x129f0n_ x129f0c_), (.slice x129f1p_ x129f1n_ x129f1c_), (.slice x129f2p_ x129f2n_ x129f2c_), (.slice x129f3p_ x129f3n_ x129f3c_), (.slice x129f4p_ x129f4n_ x129f4c_), (.slice x129f5p_ x129f5n_ x129f5c_)] ∧
 CallsH Tryz.prog 62 #[(.agg #[(.slice x129f0p_ x129f0n_ x129f0c_), (.slice x129f1p_ x129f1n_ x129f1c_), (.slice x129f2p_ x129f2n_ x129f2c_), (.slice x129f3p_ x129f3n_ x129f3c_), (.slice x129f4p_ x129f4n_ x129f4c_), (.slice x129f5p_ x129f5n_ x129f5c_)]), (.string x124_)] q_32 fun en_14 q_33 =>
 ∃ x131_ : Int, en_14 = .returned (.int .i64 x131_) ∧
 CallsH Tryz.prog 26 #[(.pointer c_), (.bool (decide ((0 : Int) ≤ x131_))), (.int .i64 (72 : Int))] q_33 fun en_15 q_34 =>
 en_15 = .returned (.tuple #[]) ∧
 SemH Tryz.prog (Instr.lookup 111 (.map (some r_1)) (.string x124_) false) q_34 fun v_ q_35 =>
 ∃ x137_ : Int, v_ = (.int .i64 x137_) ∧
 CallsH Tryz.prog 26 #[(.pointer c_), (.bool (decide (x137_ = (0 : Int)))), (.int .i64 (71 : Int))] q_35 fun en_16 q_36 =>
 en_16 = .returned (.tuple #[]) ∧
 SemH Tryz.prog (Instr.mapUpdate 111 (.map (some r_1)) (.string x124_) (.int .i64 (1 : Int))) q_36 fun _ q_37 =>
 ∃ x142_, IntKind.i64.wrap (x121_ + (1 : Int)) = x142_ ∧
 (Iv_2 [(.int .i64 x142_)] q_37 ∧ m_2 [(.int .i64 x142_)] q_37 < m_2 [(.int .i64 x121_)] q_32)) ∧
 ((decide (x121_ < ((x119n_ : Nat) : Int))) = false →
 ∃ Jv_4 : List Value → Hp → Prop,
 (∃ x145_ : Int, cellsAt q_32 b_4 (0 + 3) [(.int .i64 x145_)] ∧
 (((decide ((1 : Int) ≤ x145_)) = true →
 ∃ x149_ : Int, cellsAt q_32 b_4 (0 + 3) [(.int .i64 x149_)] ∧
 CallsH Tryz.prog 26 #[(.pointer c_), (.bool (decide (x149_ ≤ (4096 : Int)))), (.int .i64 (74 : Int))] q_32 fun en_17 q_38 =>
 en_17 = .returned (.tuple #[]) ∧
 Jv_4 [] q_38) ∧
 ((decide ((1 : Int) ≤ x145_)) = false →
 CallsH Tryz.prog 26 #[(.pointer c_), (.bool false), (.int .i64 (74 : Int))] q_32 fun en_18 q_39 =>
 en_18 = .returned (.tuple #[]) ∧
 Jv_4 [] q_39))) ∧
 (∀  q_40, Jv_4 [] q_40 →
 ∃ b_14 o_10, c_ = some ⟨b_14, o_10, none⟩ ∧
 ∃ (x156f0p_ : Option Addr) (x156f0n_ x156f0c_ : Nat) (x156f1p_ : Option Addr) (x156f1n_ x156f1c_ : Nat) (x156f2p_ : Option Addr) (x156f2n_ x156f2c_ : Nat) (x156f3p_ : Option Addr) (x156f3n_ x156f3c_ : Nat) (x156f4p_ : Option Addr) (x156f4n_ x156f4c_ : Nat) (x156f5p_ : Option Addr) (x156f5n_ x156f5c_ : Nat), cellsAt q_40 b_14 (o_10 + 0) [(.slice x156f0p_ x156f0n_ x156f0c_), (.slice x156f1p_ x156f1n_ x156f1c_), (.slice x156f2p_ x156f2n_ x156f2c_), (.slice x156f3p_ x156f3n_ x156f3c_), (.slice x156f4p_ x156f4n_ x156f4c_), (.slice x156f5p_ x156f5n_ x156f5c_)] ∧
 ∃ x158_ : ByteArray, cellsAt q_40 b_4 (0 + 0) [(.string x158_)] ∧
 ∃ x160f0_ : ByteArray, ∃ (x160f1p_ : Option Addr) (x160f1n_ x160f1c_ : Nat), cellsAt q_40 b_4 (0 + 4) [(.string x160f0_), (.slice x160f1p_ x160f1n_ x160f1c_)] ∧
 CallsH Tryz.prog 63 #[(.agg #[(.slice x156f0p_ x156f0n_ x156f0c_), (.slice x156f1p_ x156f1n_ x156f1c_), (.slice x156f2p_ x156f2n_ x156f2c_), (.slice x156f3p_ x156f3n_ x156f3c_), (.slice x156f4p_ x156f4n_ x156f4c_), (.slice x156f5p_ x156f5n_ x156f5c_)]), (.string x158_), (.agg #[(.string x160f0_), (.slice x160f1p_ x160f1n_ x160f1c_)])] q_40 fun en_19 q_41 =>
 ∃ x161_ : Int, en_19 = .returned (.int .i64 x161_) ∧
 (((decide (x161_ ≠ (0 : Int))) = true →
 False) ∧
 ((decide (x161_ ≠ (0 : Int))) = false →
 ∃ x167_, IntKind.i64.wrap (x33_ + (1 : Int)) = x167_ ∧
 (Iv_ [(.int .i64 x167_)] q_41 ∧ m_ [(.int .i64 x167_)] q_41 < m_ [(.int .i64 x33_)] q_3))))))))))))) ∧
 ((decide (x33_ < ((x31n_ : Nat) : Int))) = false →
 R (.returned (.tuple #[])) q_3)))) :
 CallsH Tryz.prog 30 #[(.pointer c_)] h R := calls_vc fine false Tryz.func30 (ann := A30) (args := [(.pointer c_)]) (by kernel_rfl) (Eq.mpr (by kernel_rfl) H)
def A31 : Ann := (.seq .nil (.seq .nil (.seq .nil (.seq (.block (.seq .nil (.cond (.seq .dead .dead) (.seq .nil (.cond (.seq .dead .dead) .nil))))) (.seq .nil .nil)))))
theorem V31 (sf0p_ : Option Addr) (sf0n_ sf0c_ : Nat) (sf1p_ : Option Addr) (sf1n_ sf1c_ : Nat) (sf2p_ : Option Addr) (sf2n_ sf2c_ : Nat) (sf3p_ : Option Addr) (sf3n_ sf3c_ : Nat) (sf4p_ : Option Addr) (sf4n_ sf4c_ : Nat) (sf5p_ : Option Addr) (sf5n_ sf5c_ : Nat) (h : Hp) (R : Ending → Hp → Prop) (H :
 ∀ b_ q_, b_ = h.size → q_ = h.push (.cells #[(.slice sf0p_ sf0n_ sf0c_), (.slice sf1p_ sf1n_ sf1c_), (.slice sf2p_ sf2n_ sf2c_), (.slice sf3p_ sf3n_ sf3c_), (.slice sf4p_ sf4n_ sf4c_), (.slice sf5p_ sf5n_ sf5c_)] 36) →
 ∀ b_1 q_1, b_1 = q_.size → q_1 = q_.push (.cells (zeros Tryz.prog 3) 3) → (∃ i z, Tryz.prog.info? 3 = some i ∧ i.zero = some z) ∧
 ∀ b_2 q_2, b_2 = q_1.size → q_2 = q_1.push (.cells (zeros Tryz.prog 4) 4) → (∃ i z, Tryz.prog.info? 4 = some i ∧ i.zero = some z) ∧
 Value.oneCell' (.int .i64 (0 : Int)) = true ∧ wrAt q_2 b_1 0 1 ∧ ∀ q_3, q_3 = setsH q_2 b_1 0 [(.int .i64 (0 : Int))] →
 Value.oneCell' (.bool false) = true ∧ wrAt q_3 b_2 0 1 ∧ ∀ q_4, q_4 = setsH q_3 b_2 0 [(.bool false)] →
 ∃ (x7p_ : Option Addr) (x7n_ x7c_ : Nat), cellsAt q_4 b_ (0 + 5) [(.slice x7p_ x7n_ x7c_)] ∧
 CallsH Tryz.prog 32 #[(.slice x7p_ x7n_ x7c_), (.int .i64 (1 : Int)), (.func (.func 64) #[] #[(.pointer (some ⟨b_1, 0, none⟩)), (.pointer (some ⟨b_2, 0, none⟩))])] q_4 fun en_ q_5 =>
 ∃ x9_ : Bool, en_ = .returned (.bool x9_) ∧
 (((!x9_) = true →
 False) ∧
 ((!x9_) = false →
 ∃ x14_ : Bool, cellsAt q_5 b_2 0 [(.bool x14_)] ∧
 ((x14_ = true →
 False) ∧
 (x14_ = false →
 R (.returned (.int .i64 (0 : Int))) q_5))))) :
 CallsH Tryz.prog 31 #[(.agg #[(.slice sf0p_ sf0n_ sf0c_), (.slice sf1p_ sf1n_ sf1c_), (.slice sf2p_ sf2n_ sf2c_), (.slice sf3p_ sf3n_ sf3c_), (.slice sf4p_ sf4n_ sf4c_), (.slice sf5p_ sf5n_ sf5c_)])] h R := calls_vc fine false Tryz.func31 (ann := A31) (args := [(.agg #[(.slice sf0p_ sf0n_ sf0c_), (.slice sf1p_ sf1n_ sf1c_), (.slice sf2p_ sf2n_ sf2c_), (.slice sf3p_ sf3n_ sf3c_), (.slice sf4p_ sf4n_ sf4c_), (.slice sf5p_ sf5n_ sf5c_)])]) (by kernel_rfl) (Eq.mpr (by kernel_rfl) H)
def A32 : Ann := (.seq .nil (.seq (.seq .nil (.block (.loop [(11, (.int .i64))] (.seq .nil (.seq (.cond .nil .nil) (.seq (.block (.seq .dead .dead)) .dead)))))) (.seq .nil .nil)))
theorem V32 (lp_ : Option Addr) (ln_ lc_ : Nat) (depth_ : Int) (each_ : Value) (h : Hp) (R : Ending → Hp → Prop) (H :
 ∃ (Iv_ : List Value → Hp → Prop) (m_ : List Value → Hp → Nat), Iv_ [(.int .i64 (0 : Int))] h ∧
 (∀ (x11_ : Int) q_, Iv_ [(.int .i64 x11_)] q_ →
 (((decide (x11_ < ((ln_ : Nat) : Int))) = true →
 False) ∧
 ((decide (x11_ < ((ln_ : Nat) : Int))) = false →
 R (.returned (.bool true)) q_)))) :
 CallsH Tryz.prog 32 #[(.slice lp_ ln_ lc_), (.int .i64 depth_), each_] h R := calls_vc fine false Tryz.func32 (ann := A32) (args := [(.slice lp_ ln_ lc_), (.int .i64 depth_), each_]) (by kernel_rfl) (Eq.mpr (by kernel_rfl) H)
def A35 : Ann := (.seq .nil (.seq (.seq .nil (.cond (.seq .nil .nil) .nil)) (.seq .nil .nil)))
theorem V35 (sp_ : Option Addr) (sn_ sc_ : Nat) (h : Hp) (R : Ending → Hp → Prop) (H :
 ∃ x4_, EqV Tryz.prog 29 (.slice sp_ sn_ sc_) (.slice none 0 0) x4_ ∧
 ((x4_ = true →
 R (.returned (.slice none 0 0)) h) ∧
 (x4_ = false →
 SemH Tryz.prog (Instr.buildSlice 29 0 #[]) h fun v_ q_ =>
 ∃ (x5p_ : Option Addr) (x5n_ x5c_ : Nat), v_ = (.slice x5p_ x5n_ x5c_) ∧
 SemH Tryz.prog (Builtin.append_ #[29, 29] 29 #[(.slice x5p_ x5n_ x5c_), (.slice sp_ sn_ sc_)]) q_ fun v_1 q_1 =>
 ∃ (x7p_ : Option Addr) (x7n_ x7c_ : Nat), v_1 = (.slice x7p_ x7n_ x7c_) ∧
 R (.returned (.slice x7p_ x7n_ x7c_)) q_1))) :
 CallsH Tryz.prog 35 #[(.slice sp_ sn_ sc_)] h R := calls_vc fine false Tryz.func35 (ann := A35) (args := [(.slice sp_ sn_ sc_)]) (by kernel_rfl) (Eq.mpr (by kernel_rfl) H)
def A36 : Ann := (.seq .nil (.seq (.seq .nil (.cond (.seq .nil .nil) .nil)) (.seq .nil .nil)))
theorem V36 (sp_ : Option Addr) (sn_ sc_ : Nat) (h : Hp) (R : Ending → Hp → Prop) (H :
 ∃ x4_, EqV Tryz.prog 30 (.slice sp_ sn_ sc_) (.slice none 0 0) x4_ ∧
 ((x4_ = true →
 R (.returned (.slice none 0 0)) h) ∧
 (x4_ = false →
 SemH Tryz.prog (Instr.buildSlice 30 0 #[]) h fun v_ q_ =>
 ∃ (x5p_ : Option Addr) (x5n_ x5c_ : Nat), v_ = (.slice x5p_ x5n_ x5c_) ∧
 SemH Tryz.prog (Builtin.append_ #[30, 30] 30 #[(.slice x5p_ x5n_ x5c_), (.slice sp_ sn_ sc_)]) q_ fun v_1 q_1 =>
 ∃ (x7p_ : Option Addr) (x7n_ x7c_ : Nat), v_1 = (.slice x7p_ x7n_ x7c_) ∧
 R (.returned (.slice x7p_ x7n_ x7c_)) q_1))) :
 CallsH Tryz.prog 36 #[(.slice sp_ sn_ sc_)] h R := calls_vc fine false Tryz.func36 (ann := A36) (args := [(.slice sp_ sn_ sc_)]) (by kernel_rfl) (Eq.mpr (by kernel_rfl) H)
def A37 : Ann := (.seq .nil (.seq (.seq .nil (.cond (.seq .nil .nil) .nil)) (.seq .nil .nil)))
theorem V37 (sp_ : Option Addr) (sn_ sc_ : Nat) (h : Hp) (R : Ending → Hp → Prop) (H :
 ∃ x4_, EqV Tryz.prog 31 (.slice sp_ sn_ sc_) (.slice none 0 0) x4_ ∧
 ((x4_ = true →
 R (.returned (.slice none 0 0)) h) ∧
 (x4_ = false →
 SemH Tryz.prog (Instr.buildSlice 31 0 #[]) h fun v_ q_ =>
 ∃ (x5p_ : Option Addr) (x5n_ x5c_ : Nat), v_ = (.slice x5p_ x5n_ x5c_) ∧
 SemH Tryz.prog (Builtin.append_ #[31, 31] 31 #[(.slice x5p_ x5n_ x5c_), (.slice sp_ sn_ sc_)]) q_ fun v_1 q_1 =>
 ∃ (x7p_ : Option Addr) (x7n_ x7c_ : Nat), v_1 = (.slice x7p_ x7n_ x7c_) ∧
 R (.returned (.slice x7p_ x7n_ x7c_)) q_1))) :
 CallsH Tryz.prog 37 #[(.slice sp_ sn_ sc_)] h R := calls_vc fine false Tryz.func37 (ann := A37) (args := [(.slice sp_ sn_ sc_)]) (by kernel_rfl) (Eq.mpr (by kernel_rfl) H)
def A39 : Ann := (.seq .nil (.seq (.seq .nil (.cond (.seq .nil .nil) .nil)) (.seq .nil .nil)))
theorem V39 (sp_ : Option Addr) (sn_ sc_ : Nat) (h : Hp) (R : Ending → Hp → Prop) (H :
 ∃ x4_, EqV Tryz.prog 32 (.slice sp_ sn_ sc_) (.slice none 0 0) x4_ ∧
 ((x4_ = true →
 R (.returned (.slice none 0 0)) h) ∧
 (x4_ = false →
 SemH Tryz.prog (Instr.buildSlice 32 0 #[]) h fun v_ q_ =>
 ∃ (x5p_ : Option Addr) (x5n_ x5c_ : Nat), v_ = (.slice x5p_ x5n_ x5c_) ∧
 SemH Tryz.prog (Builtin.append_ #[32, 32] 32 #[(.slice x5p_ x5n_ x5c_), (.slice sp_ sn_ sc_)]) q_ fun v_1 q_1 =>
 ∃ (x7p_ : Option Addr) (x7n_ x7c_ : Nat), v_1 = (.slice x7p_ x7n_ x7c_) ∧
 R (.returned (.slice x7p_ x7n_ x7c_)) q_1))) :
 CallsH Tryz.prog 39 #[(.slice sp_ sn_ sc_)] h R := calls_vc fine false Tryz.func39 (ann := A39) (args := [(.slice sp_ sn_ sc_)]) (by kernel_rfl) (Eq.mpr (by kernel_rfl) H)
def A40 : Ann := (.seq .nil (.seq .nil (.seq .nil (.seq .nil .nil))))
theorem V40 (af0_ : ByteArray) (af1p_ : Option Addr) (af1n_ af1c_ : Nat) (af2p_ : Option Addr) (af2n_ af2c_ : Nat) (h : Hp) (R : Ending → Hp → Prop) (H :
 ∀ b_ q_, b_ = h.size → q_ = h.push (.cells #[(.string af0_), (.slice af1p_ af1n_ af1c_), (.slice af2p_ af2n_ af2c_)] 92) →
 ∀ b_1 q_1, b_1 = q_.size → q_1 = q_.push (.cells (zeros Tryz.prog 92) 92) → (∃ i z, Tryz.prog.info? 92 = some i ∧ i.zero = some z) ∧
 ∃ (x4p_ : Option Addr) (x4n_ x4c_ : Nat), cellsAt q_1 b_ (0 + 1) [(.slice x4p_ x4n_ x4c_)] ∧
 CallsH Tryz.prog 36 #[(.slice x4p_ x4n_ x4c_)] q_1 fun en_ q_2 =>
 ∃ (x5p_ : Option Addr) (x5n_ x5c_ : Nat), en_ = .returned (.slice x5p_ x5n_ x5c_) ∧
 Value.oneCell' (.slice x5p_ x5n_ x5c_) = true ∧ wrAt q_2 b_ (0 + 1) 1 ∧ ∀ q_3, q_3 = setsH q_2 b_ (0 + 1) [(.slice x5p_ x5n_ x5c_)] →
 ∃ (x8p_ : Option Addr) (x8n_ x8c_ : Nat), cellsAt q_3 b_ (0 + 2) [(.slice x8p_ x8n_ x8c_)] ∧
 CallsH Tryz.prog 66 #[(.slice x8p_ x8n_ x8c_)] q_3 fun en_1 q_4 =>
 ∃ (x9p_ : Option Addr) (x9n_ x9c_ : Nat), en_1 = .returned (.slice x9p_ x9n_ x9c_) ∧
 Value.oneCell' (.slice x9p_ x9n_ x9c_) = true ∧ wrAt q_4 b_ (0 + 2) 1 ∧ ∀ q_5, q_5 = setsH q_4 b_ (0 + 2) [(.slice x9p_ x9n_ x9c_)] →
 ∃ x11f0_ : ByteArray, ∃ (x11f1p_ : Option Addr) (x11f1n_ x11f1c_ : Nat) (x11f2p_ : Option Addr) (x11f2n_ x11f2c_ : Nat), cellsAt q_5 b_ 0 [(.string x11f0_), (.slice x11f1p_ x11f1n_ x11f1c_), (.slice x11f2p_ x11f2n_ x11f2c_)] ∧
 List.length [(Value.string x11f0_), (.slice x11f1p_ x11f1n_ x11f1c_), (.slice x11f2p_ x11f2n_ x11f2c_)] = 3 ∧ (∀ c ∈ [(Value.string x11f0_), (.slice x11f1p_ x11f1n_ x11f1c_), (.slice x11f2p_ x11f2n_ x11f2c_)], c.oneCell' = true) ∧ wrAt q_5 b_1 0 3 ∧ ∀ q_6, q_6 = setsH q_5 b_1 0 [(.string x11f0_), (.slice x11f1p_ x11f1n_ x11f1c_), (.slice x11f2p_ x11f2n_ x11f2c_)] →
 ∃ resf0_ : ByteArray, ∃ (resf1p_ : Option Addr) (resf1n_ resf1c_ : Nat) (resf2p_ : Option Addr) (resf2n_ resf2c_ : Nat), cellsAt q_6 b_1 0 [(.string resf0_), (.slice resf1p_ resf1n_ resf1c_), (.slice resf2p_ resf2n_ resf2c_)] ∧
 R (.returned (.agg #[(.string resf0_), (.slice resf1p_ resf1n_ resf1c_), (.slice resf2p_ resf2n_ resf2c_)])) q_6) :
 CallsH Tryz.prog 40 #[(.agg #[(.string af0_), (.slice af1p_ af1n_ af1c_), (.slice af2p_ af2n_ af2c_)])] h R := calls_vc fine false Tryz.func40 (ann := A40) (args := [(.agg #[(.string af0_), (.slice af1p_ af1n_ af1c_), (.slice af2p_ af2n_ af2c_)])]) (by kernel_rfl) (Eq.mpr (by kernel_rfl) H)
def A41 : Ann := (.seq .nil (.seq (.seq .nil (.cond (.seq .nil .nil) .nil)) (.seq .nil .nil)))
theorem V41 (sp_ : Option Addr) (sn_ sc_ : Nat) (h : Hp) (R : Ending → Hp → Prop) (H :
 ∃ x4_, EqV Tryz.prog 33 (.slice sp_ sn_ sc_) (.slice none 0 0) x4_ ∧
 ((x4_ = true →
 R (.returned (.slice none 0 0)) h) ∧
 (x4_ = false →
 SemH Tryz.prog (Instr.buildSlice 33 0 #[]) h fun v_ q_ =>
 ∃ (x5p_ : Option Addr) (x5n_ x5c_ : Nat), v_ = (.slice x5p_ x5n_ x5c_) ∧
 SemH Tryz.prog (Builtin.append_ #[33, 33] 33 #[(.slice x5p_ x5n_ x5c_), (.slice sp_ sn_ sc_)]) q_ fun v_1 q_1 =>
 ∃ (x7p_ : Option Addr) (x7n_ x7c_ : Nat), v_1 = (.slice x7p_ x7n_ x7c_) ∧
 R (.returned (.slice x7p_ x7n_ x7c_)) q_1))) :
 CallsH Tryz.prog 41 #[(.slice sp_ sn_ sc_)] h R := calls_vc fine false Tryz.func41 (ann := A41) (args := [(.slice sp_ sn_ sc_)]) (by kernel_rfl) (Eq.mpr (by kernel_rfl) H)
def A42 : Ann := (.seq .nil (.seq .nil (.seq .nil (.seq .nil (.seq .nil .nil)))))
theorem V42 (tf0_ : ByteArray) (tf1p_ : Option Addr) (tf1n_ tf1c_ : Nat) (tf2p_ : Option Addr) (tf2n_ tf2c_ : Nat) (tf3_ : Int) (tf4_ : ByteArray) (tf5p_ : Option Addr) (tf5n_ tf5c_ : Nat) (tf6_ : Bool) (h : Hp) (R : Ending → Hp → Prop) (H :
 ∀ b_ q_, b_ = h.size → q_ = h.push (.cells #[(.string tf0_), (.slice tf1p_ tf1n_ tf1c_), (.slice tf2p_ tf2n_ tf2c_), (.int .i64 tf3_), (.string tf4_), (.slice tf5p_ tf5n_ tf5c_), (.bool tf6_)] 73) →
 ∀ b_1 q_1, b_1 = q_.size → q_1 = q_.push (.cells (zeros Tryz.prog 73) 73) → (∃ i z, Tryz.prog.info? 73 = some i ∧ i.zero = some z) ∧
 ∃ (x4p_ : Option Addr) (x4n_ x4c_ : Nat), cellsAt q_1 b_ (0 + 1) [(.slice x4p_ x4n_ x4c_)] ∧
 CallsH Tryz.prog 67 #[(.slice x4p_ x4n_ x4c_)] q_1 fun en_ q_2 =>
 ∃ (x5p_ : Option Addr) (x5n_ x5c_ : Nat), en_ = .returned (.slice x5p_ x5n_ x5c_) ∧
 Value.oneCell' (.slice x5p_ x5n_ x5c_) = true ∧ wrAt q_2 b_ (0 + 1) 1 ∧ ∀ q_3, q_3 = setsH q_2 b_ (0 + 1) [(.slice x5p_ x5n_ x5c_)] →
 ∃ (x8p_ : Option Addr) (x8n_ x8c_ : Nat), cellsAt q_3 b_ (0 + 2) [(.slice x8p_ x8n_ x8c_)] ∧
 CallsH Tryz.prog 68 #[(.slice x8p_ x8n_ x8c_)] q_3 fun en_1 q_4 =>
 ∃ (x9p_ : Option Addr) (x9n_ x9c_ : Nat), en_1 = .returned (.slice x9p_ x9n_ x9c_) ∧
 Value.oneCell' (.slice x9p_ x9n_ x9c_) = true ∧ wrAt q_4 b_ (0 + 2) 1 ∧ ∀ q_5, q_5 = setsH q_4 b_ (0 + 2) [(.slice x9p_ x9n_ x9c_)] →
 ∃ (x13p_ : Option Addr) (x13n_ x13c_ : Nat), cellsAt q_5 b_ ((0 + 4) + 1) [(.slice x13p_ x13n_ x13c_)] ∧
 CallsH Tryz.prog 44 #[(.slice x13p_ x13n_ x13c_)] q_5 fun en_2 q_6 =>
 ∃ (x14p_ : Option Addr) (x14n_ x14c_ : Nat), en_2 = .returned (.slice x14p_ x14n_ x14c_) ∧
 Value.oneCell' (.slice x14p_ x14n_ x14c_) = true ∧ wrAt q_6 b_ ((0 + 4) + 1) 1 ∧ ∀ q_7, q_7 = setsH q_6 b_ ((0 + 4) + 1) [(.slice x14p_ x14n_ x14c_)] →
 ∃ x17f0_ : ByteArray, ∃ (x17f1p_ : Option Addr) (x17f1n_ x17f1c_ : Nat) (x17f2p_ : Option Addr) (x17f2n_ x17f2c_ : Nat), ∃ x17f3_ : Int, ∃ x17f4_ : ByteArray, ∃ (x17f5p_ : Option Addr) (x17f5n_ x17f5c_ : Nat), ∃ x17f6_ : Bool, cellsAt q_7 b_ 0 [(.string x17f0_), (.slice x17f1p_ x17f1n_ x17f1c_), (.slice x17f2p_ x17f2n_ x17f2c_), (.int .i64 x17f3_), (.string x17f4_), (.slice x17f5p_ x17f5n_ x17f5c_), (.bool x17f6_)] ∧
 List.length [(Value.string x17f0_), (.slice x17f1p_ x17f1n_ x17f1c_), (.slice x17f2p_ x17f2n_ x17f2c_), (.int .i64 x17f3_), (.string x17f4_), (.slice x17f5p_ x17f5n_ x17f5c_), (.bool x17f6_)] = 7 ∧ (∀ c ∈ [(Value.string x17f0_), (.slice x17f1p_ x17f1n_ x17f1c_), (.slice x17f2p_ x17f2n_ x17f2c_), (.int .i64 x17f3_), (.string x17f4_), (.slice x17f5p_ x17f5n_ x17f5c_), (.bool x17f6_)], c.oneCell' = true) ∧ wrAt q_7 b_1 0 7 ∧ ∀ q_8, q_8 = setsH q_7 b_1 0 [(.string x17f0_), (.slice x17f1p_ x17f1n_ x17f1c_), (.slice x17f2p_ x17f2n_ x17f2c_), (.int .i64 x17f3_), (.string x17f4_), (.slice x17f5p_ x17f5n_ x17f5c_), (.bool x17f6_)] →
 ∃ resf0_ : ByteArray, ∃ (resf1p_ : Option Addr) (resf1n_ resf1c_ : Nat) (resf2p_ : Option Addr) (resf2n_ resf2c_ : Nat), ∃ resf3_ : Int, ∃ resf4_ : ByteArray, ∃ (resf5p_ : Option Addr) (resf5n_ resf5c_ : Nat), ∃ resf6_ : Bool, cellsAt q_8 b_1 0 [(.string resf0_), (.slice resf1p_ resf1n_ resf1c_), (.slice resf2p_ resf2n_ resf2c_), (.int .i64 resf3_), (.string resf4_), (.slice resf5p_ resf5n_ resf5c_), (.bool resf6_)] ∧
 R (.returned (.agg #[(.string resf0_), (.slice resf1p_ resf1n_ resf1c_), (.slice resf2p_ resf2n_ resf2c_), (.int .i64 resf3_), (.string resf4_), (.slice resf5p_ resf5n_ resf5c_), (.bool resf6_)])) q_8) :
 CallsH Tryz.prog 42 #[(.agg #[(.string tf0_), (.slice tf1p_ tf1n_ tf1c_), (.slice tf2p_ tf2n_ tf2c_), (.int .i64 tf3_), (.string tf4_), (.slice tf5p_ tf5n_ tf5c_), (.bool tf6_)])] h R := calls_vc fine false Tryz.func42 (ann := A42) (args := [(.agg #[(.string tf0_), (.slice tf1p_ tf1n_ tf1c_), (.slice tf2p_ tf2n_ tf2c_), (.int .i64 tf3_), (.string tf4_), (.slice tf5p_ tf5n_ tf5c_), (.bool tf6_)])]) (by kernel_rfl) (Eq.mpr (by kernel_rfl) H)
def A43 : Ann := (.seq .nil (.seq .nil (.seq (.seq .nil (.block (.loop [(8, (.int .i64))] (.seq .nil (.seq (.cond .nil .nil) (.seq (.block (.seq .dead .dead)) .dead)))))) (.seq .nil .nil))))
theorem V43 (lp_ : Option Addr) (ln_ lc_ : Nat) (h : Hp) (R : Ending → Hp → Prop) (H :
 CallsH Tryz.prog 69 #[(.slice lp_ ln_ lc_)] h fun en_ q_ =>
 ∃ (x5p_ : Option Addr) (x5n_ x5c_ : Nat), en_ = .returned (.slice x5p_ x5n_ x5c_) ∧
 ∃ (Iv_ : List Value → Hp → Prop) (m_ : List Value → Hp → Nat), Iv_ [(.int .i64 (0 : Int))] q_ ∧
 (∀ (x8_ : Int) q_1, Iv_ [(.int .i64 x8_)] q_1 →
 (((decide (x8_ < ((x5n_ : Nat) : Int))) = true →
 False) ∧
 ((decide (x8_ < ((x5n_ : Nat) : Int))) = false →
 R (.returned (.slice x5p_ x5n_ x5c_)) q_1)))) :
 CallsH Tryz.prog 43 #[(.slice lp_ ln_ lc_)] h R := calls_vc fine false Tryz.func43 (ann := A43) (args := [(.slice lp_ ln_ lc_)]) (by kernel_rfl) (Eq.mpr (by kernel_rfl) H)
def A44 : Ann := (.seq .nil (.seq (.seq .nil (.cond (.seq .nil .nil) .nil)) (.seq .nil .nil)))
theorem V44 (sp_ : Option Addr) (sn_ sc_ : Nat) (h : Hp) (R : Ending → Hp → Prop) (H :
 ∃ x4_, EqV Tryz.prog 23 (.slice sp_ sn_ sc_) (.slice none 0 0) x4_ ∧
 ((x4_ = true →
 R (.returned (.slice none 0 0)) h) ∧
 (x4_ = false →
 SemH Tryz.prog (Instr.buildSlice 23 0 #[]) h fun v_ q_ =>
 ∃ (x5p_ : Option Addr) (x5n_ x5c_ : Nat), v_ = (.slice x5p_ x5n_ x5c_) ∧
 SemH Tryz.prog (Builtin.append_ #[23, 23] 23 #[(.slice x5p_ x5n_ x5c_), (.slice sp_ sn_ sc_)]) q_ fun v_1 q_1 =>
 ∃ (x7p_ : Option Addr) (x7n_ x7c_ : Nat), v_1 = (.slice x7p_ x7n_ x7c_) ∧
 R (.returned (.slice x7p_ x7n_ x7c_)) q_1))) :
 CallsH Tryz.prog 44 #[(.slice sp_ sn_ sc_)] h R := calls_vc fine false Tryz.func44 (ann := A44) (args := [(.slice sp_ sn_ sc_)]) (by kernel_rfl) (Eq.mpr (by kernel_rfl) H)
def A45 : Ann := (.seq .nil (.seq .nil .nil))
theorem V45 (sf0p_ : Option Addr) (sf0n_ sf0c_ : Nat) (sf1p_ : Option Addr) (sf1n_ sf1c_ : Nat) (sf2p_ : Option Addr) (sf2n_ sf2c_ : Nat) (sf3p_ : Option Addr) (sf3n_ sf3c_ : Nat) (sf4p_ : Option Addr) (sf4n_ sf4c_ : Nat) (sf5p_ : Option Addr) (sf5n_ sf5c_ : Nat) (name_ : ByteArray) (h : Hp) (R : Ending → Hp → Prop) (H :
 ∀ b_ q_, b_ = h.size → q_ = h.push (.cells #[(.slice sf0p_ sf0n_ sf0c_), (.slice sf1p_ sf1n_ sf1c_), (.slice sf2p_ sf2n_ sf2c_), (.slice sf3p_ sf3n_ sf3c_), (.slice sf4p_ sf4n_ sf4c_), (.slice sf5p_ sf5n_ sf5c_)] 36) →
 ∀ b_1 q_1, b_1 = q_.size → q_1 = q_.push (.cells #[(.string name_)] 9) →
 ∃ (x6p_ : Option Addr) (x6n_ x6c_ : Nat), cellsAt q_1 b_ (0 + 4) [(.slice x6p_ x6n_ x6c_)] ∧
 CallsH Tryz.prog 70 #[(.slice x6p_ x6n_ x6c_), (.func (.func 71) #[] #[(.pointer (some ⟨b_1, 0, none⟩))])] q_1 fun en_ q_2 =>
 ∃ x8_ : Int, en_ = .returned (.int .i64 x8_) ∧
 R (.returned (.int .i64 x8_)) q_2) :
 CallsH Tryz.prog 45 #[(.agg #[(.slice sf0p_ sf0n_ sf0c_), (.slice sf1p_ sf1n_ sf1c_), (.slice sf2p_ sf2n_ sf2c_), (.slice sf3p_ sf3n_ sf3c_), (.slice sf4p_ sf4n_ sf4c_), (.slice sf5p_ sf5n_ sf5c_)]), (.string name_)] h R := calls_vc fine false Tryz.func45 (ann := A45) (args := [(.agg #[(.slice sf0p_ sf0n_ sf0c_), (.slice sf1p_ sf1n_ sf1c_), (.slice sf2p_ sf2n_ sf2c_), (.slice sf3p_ sf3n_ sf3c_), (.slice sf4p_ sf4n_ sf4c_), (.slice sf5p_ sf5n_ sf5c_)]), (.string name_)]) (by kernel_rfl) (Eq.mpr (by kernel_rfl) H)
def A46 : Ann := (.seq .nil (.seq .nil (.seq (.seq (.join 20) (.cond (.seq .nil .nil) .nil)) (.seq .nil .nil))))
theorem V46 (sf0p_ : Option Addr) (sf0n_ sf0c_ : Nat) (sf1p_ : Option Addr) (sf1n_ sf1c_ : Nat) (sf2p_ : Option Addr) (sf2n_ sf2c_ : Nat) (sf3p_ : Option Addr) (sf3n_ sf3c_ : Nat) (sf4p_ : Option Addr) (sf4n_ sf4c_ : Nat) (sf5p_ : Option Addr) (sf5n_ sf5c_ : Nat) (rf0_ : ByteArray) (rf1_ : ByteArray) (h : Hp) (R : Ending → Hp → Prop) (H :
 ∀ b_ q_, b_ = h.size → q_ = h.push (.cells #[(.slice sf0p_ sf0n_ sf0c_), (.slice sf1p_ sf1n_ sf1c_), (.slice sf2p_ sf2n_ sf2c_), (.slice sf3p_ sf3n_ sf3c_), (.slice sf4p_ sf4n_ sf4c_), (.slice sf5p_ sf5n_ sf5c_)] 36) →
 ∀ b_1 q_1, b_1 = q_.size → q_1 = q_.push (.cells #[(.string rf0_), (.string rf1_)] 87) →
 ∃ (x8f0p_ : Option Addr) (x8f0n_ x8f0c_ : Nat) (x8f1p_ : Option Addr) (x8f1n_ x8f1c_ : Nat) (x8f2p_ : Option Addr) (x8f2n_ x8f2c_ : Nat) (x8f3p_ : Option Addr) (x8f3n_ x8f3c_ : Nat) (x8f4p_ : Option Addr) (x8f4n_ x8f4c_ : Nat) (x8f5p_ : Option Addr) (x8f5n_ x8f5c_ : Nat), cellsAt q_1 b_ 0 [(.slice x8f0p_ x8f0n_ x8f0c_), (.slice x8f1p_ x8f1n_ x8f1c_), (.slice x8f2p_ x8f2n_ x8f2c_), (.slice x8f3p_ x8f3n_ x8f3c_), (.slice x8f4p_ x8f4n_ x8f4c_), (.slice x8f5p_ x8f5n_ x8f5c_)] ∧
 ∃ x9f0_ : ByteArray, ∃ x9f1_ : ByteArray, cellsAt q_1 b_1 0 [(.string x9f0_), (.string x9f1_)] ∧
 CallsH Tryz.prog 57 #[(.agg #[(.slice x8f0p_ x8f0n_ x8f0c_), (.slice x8f1p_ x8f1n_ x8f1c_), (.slice x8f2p_ x8f2n_ x8f2c_), (.slice x8f3p_ x8f3n_ x8f3c_), (.slice x8f4p_ x8f4n_ x8f4c_), (.slice x8f5p_ x8f5n_ x8f5c_)]), (.agg #[(.string x9f0_), (.string x9f1_)])] q_1 fun en_ q_2 =>
 ∃ x10r0f0_ : ByteArray, ∃ x10r0f1_ : Int, ∃ x10r1_ : Bool, en_ = .returned (.tuple #[(.agg #[(.string x10r0f0_), (.int .i64 x10r0f1_)]), (.bool x10r1_)]) ∧
 ∀ b_2 q_3, b_2 = q_2.size → q_3 = q_2.push (.cells (zeros Tryz.prog 89) 89) → (∃ i z, Tryz.prog.info? 89 = some i ∧ i.zero = some z) ∧
 List.length [(Value.string x10r0f0_), (.int .i64 x10r0f1_)] = 2 ∧ (∀ c ∈ [(Value.string x10r0f0_), (.int .i64 x10r0f1_)], c.oneCell' = true) ∧ wrAt q_3 b_2 0 2 ∧ ∀ q_4, q_4 = setsH q_3 b_2 0 [(.string x10r0f0_), (.int .i64 x10r0f1_)] →
 ∃ B_ : Bool, (∃ x14_ : Int, cellsAt q_4 b_2 (0 + 1) [(.int .i64 x14_)] ∧
 (((decide (x14_ < (1 : Int))) = true →
 q_4 = q_4 ∧ B_ = true) ∧
 ((decide (x14_ < (1 : Int))) = false →
 ∃ x18_ : Int, cellsAt q_4 b_2 (0 + 1) [(.int .i64 x18_)] ∧
 q_4 = q_4 ∧ B_ = (decide ((128 : Int) < x18_))))) ∧
 ((B_ = true →
 R (.returned (.int .i64 (0 : Int))) q_4) ∧
 (B_ = false →
 ∃ x22_ : Int, cellsAt q_4 b_2 (0 + 1) [(.int .i64 x22_)] ∧
 R (.returned (.int .i64 x22_)) q_4))) :
 CallsH Tryz.prog 46 #[(.agg #[(.slice sf0p_ sf0n_ sf0c_), (.slice sf1p_ sf1n_ sf1c_), (.slice sf2p_ sf2n_ sf2c_), (.slice sf3p_ sf3n_ sf3c_), (.slice sf4p_ sf4n_ sf4c_), (.slice sf5p_ sf5n_ sf5c_)]), (.agg #[(.string rf0_), (.string rf1_)])] h R := calls_vc fine false Tryz.func46 (ann := A46) (args := [(.agg #[(.slice sf0p_ sf0n_ sf0c_), (.slice sf1p_ sf1n_ sf1c_), (.slice sf2p_ sf2n_ sf2c_), (.slice sf3p_ sf3n_ sf3c_), (.slice sf4p_ sf4n_ sf4c_), (.slice sf5p_ sf5n_ sf5c_)]), (.agg #[(.string rf0_), (.string rf1_)])]) (by kernel_rfl) (Eq.mpr (by kernel_rfl) H)
def A47 : Ann := (.seq .nil (.seq (.seq .nil (.seq .nil (.cond (.seq .nil .nil) .nil))) (.seq .nil .nil)))
theorem V47 (sf0p_ : Option Addr) (sf0n_ sf0c_ : Nat) (sf1p_ : Option Addr) (sf1n_ sf1c_ : Nat) (sf2p_ : Option Addr) (sf2n_ sf2c_ : Nat) (sf3p_ : Option Addr) (sf3n_ sf3c_ : Nat) (sf4p_ : Option Addr) (sf4n_ sf4c_ : Nat) (sf5p_ : Option Addr) (sf5n_ sf5c_ : Nat) (name_ : ByteArray) (h : Hp) (R : Ending → Hp → Prop) (H :
 ∀ b_ q_, b_ = h.size → q_ = h.push (.cells #[(.slice sf0p_ sf0n_ sf0c_), (.slice sf1p_ sf1n_ sf1c_), (.slice sf2p_ sf2n_ sf2c_), (.slice sf3p_ sf3n_ sf3c_), (.slice sf4p_ sf4n_ sf4c_), (.slice sf5p_ sf5n_ sf5c_)] 36) →
 ∀ b_1 q_1, b_1 = q_.size → q_1 = q_.push (.cells (zeros Tryz.prog 73) 73) → (∃ i z, Tryz.prog.info? 73 = some i ∧ i.zero = some z) ∧
 ∃ (x8f0p_ : Option Addr) (x8f0n_ x8f0c_ : Nat) (x8f1p_ : Option Addr) (x8f1n_ x8f1c_ : Nat) (x8f2p_ : Option Addr) (x8f2n_ x8f2c_ : Nat) (x8f3p_ : Option Addr) (x8f3n_ x8f3c_ : Nat) (x8f4p_ : Option Addr) (x8f4n_ x8f4c_ : Nat) (x8f5p_ : Option Addr) (x8f5n_ x8f5c_ : Nat), cellsAt q_1 b_ 0 [(.slice x8f0p_ x8f0n_ x8f0c_), (.slice x8f1p_ x8f1n_ x8f1c_), (.slice x8f2p_ x8f2n_ x8f2c_), (.slice x8f3p_ x8f3n_ x8f3c_), (.slice x8f4p_ x8f4n_ x8f4c_), (.slice x8f5p_ x8f5n_ x8f5c_)] ∧
 CallsH Tryz.prog 45 #[(.agg #[(.slice x8f0p_ x8f0n_ x8f0c_), (.slice x8f1p_ x8f1n_ x8f1c_), (.slice x8f2p_ x8f2n_ x8f2c_), (.slice x8f3p_ x8f3n_ x8f3c_), (.slice x8f4p_ x8f4n_ x8f4c_), (.slice x8f5p_ x8f5n_ x8f5c_)]), (.string name_)] q_1 fun en_ q_2 =>
 ∃ x10_ : Int, en_ = .returned (.int .i64 x10_) ∧
 (((decide ((0 : Int) ≤ x10_)) = true →
 ∃ (x14p_ : Option Addr) (x14n_ x14c_ : Nat), cellsAt q_2 b_ (0 + 4) [(.slice x14p_ x14n_ x14c_)] ∧
 ∃ b_2 o_, x14p_ = some ⟨b_2, o_, none⟩ ∧ 0 ≤ x10_ ∧ x10_ < (x14n_ : Int) ∧
 ∃ x17f0_ : ByteArray, ∃ (x17f1p_ : Option Addr) (x17f1n_ x17f1c_ : Nat) (x17f2p_ : Option Addr) (x17f2n_ x17f2c_ : Nat), ∃ x17f3_ : Int, ∃ x17f4_ : ByteArray, ∃ (x17f5p_ : Option Addr) (x17f5n_ x17f5c_ : Nat), ∃ x17f6_ : Bool, cellsAt q_2 b_2 (o_ + Int.toNat x10_ * 7) [(.string x17f0_), (.slice x17f1p_ x17f1n_ x17f1c_), (.slice x17f2p_ x17f2n_ x17f2c_), (.int .i64 x17f3_), (.string x17f4_), (.slice x17f5p_ x17f5n_ x17f5c_), (.bool x17f6_)] ∧
 CallsH Tryz.prog 42 #[(.agg #[(.string x17f0_), (.slice x17f1p_ x17f1n_ x17f1c_), (.slice x17f2p_ x17f2n_ x17f2c_), (.int .i64 x17f3_), (.string x17f4_), (.slice x17f5p_ x17f5n_ x17f5c_), (.bool x17f6_)])] q_2 fun en_1 q_3 =>
 ∃ x18f0_ : ByteArray, ∃ (x18f1p_ : Option Addr) (x18f1n_ x18f1c_ : Nat) (x18f2p_ : Option Addr) (x18f2n_ x18f2c_ : Nat), ∃ x18f3_ : Int, ∃ x18f4_ : ByteArray, ∃ (x18f5p_ : Option Addr) (x18f5n_ x18f5c_ : Nat), ∃ x18f6_ : Bool, en_1 = .returned (.agg #[(.string x18f0_), (.slice x18f1p_ x18f1n_ x18f1c_), (.slice x18f2p_ x18f2n_ x18f2c_), (.int .i64 x18f3_), (.string x18f4_), (.slice x18f5p_ x18f5n_ x18f5c_), (.bool x18f6_)]) ∧
 List.length [(Value.string x18f0_), (.slice x18f1p_ x18f1n_ x18f1c_), (.slice x18f2p_ x18f2n_ x18f2c_), (.int .i64 x18f3_), (.string x18f4_), (.slice x18f5p_ x18f5n_ x18f5c_), (.bool x18f6_)] = 7 ∧ (∀ c ∈ [(Value.string x18f0_), (.slice x18f1p_ x18f1n_ x18f1c_), (.slice x18f2p_ x18f2n_ x18f2c_), (.int .i64 x18f3_), (.string x18f4_), (.slice x18f5p_ x18f5n_ x18f5c_), (.bool x18f6_)], c.oneCell' = true) ∧ wrAt q_3 b_1 0 7 ∧ ∀ q_4, q_4 = setsH q_3 b_1 0 [(.string x18f0_), (.slice x18f1p_ x18f1n_ x18f1c_), (.slice x18f2p_ x18f2n_ x18f2c_), (.int .i64 x18f3_), (.string x18f4_), (.slice x18f5p_ x18f5n_ x18f5c_), (.bool x18f6_)] →
 ∃ resf0_ : ByteArray, ∃ (resf1p_ : Option Addr) (resf1n_ resf1c_ : Nat) (resf2p_ : Option Addr) (resf2n_ resf2c_ : Nat), ∃ resf3_ : Int, ∃ resf4_ : ByteArray, ∃ (resf5p_ : Option Addr) (resf5n_ resf5c_ : Nat), ∃ resf6_ : Bool, cellsAt q_4 b_1 0 [(.string resf0_), (.slice resf1p_ resf1n_ resf1c_), (.slice resf2p_ resf2n_ resf2c_), (.int .i64 resf3_), (.string resf4_), (.slice resf5p_ resf5n_ resf5c_), (.bool resf6_)] ∧
 R (.returned (.tuple #[(.agg #[(.string resf0_), (.slice resf1p_ resf1n_ resf1c_), (.slice resf2p_ resf2n_ resf2c_), (.int .i64 resf3_), (.string resf4_), (.slice resf5p_ resf5n_ resf5c_), (.bool resf6_)]), (.int .i64 x10_), (.bool true)])) q_4) ∧
 ((decide ((0 : Int) ≤ x10_)) = false →
 List.length [(Value.string (⟨#[]⟩ : ByteArray)), (.slice none 0 0), (.slice none 0 0), (.int .i64 (0 : Int)), (.string (⟨#[]⟩ : ByteArray)), (.slice none 0 0), (.bool false)] = 7 ∧ (∀ c ∈ [(Value.string (⟨#[]⟩ : ByteArray)), (.slice none 0 0), (.slice none 0 0), (.int .i64 (0 : Int)), (.string (⟨#[]⟩ : ByteArray)), (.slice none 0 0), (.bool false)], c.oneCell' = true) ∧ wrAt q_2 b_1 0 7 ∧ ∀ q_5, q_5 = setsH q_2 b_1 0 [(.string (⟨#[]⟩ : ByteArray)), (.slice none 0 0), (.slice none 0 0), (.int .i64 (0 : Int)), (.string (⟨#[]⟩ : ByteArray)), (.slice none 0 0), (.bool false)] →
 ∃ resf0_1 : ByteArray, ∃ (resf1p_1 : Option Addr) (resf1n_1 resf1c_1 : Nat) (resf2p_1 : Option Addr) (resf2n_1 resf2c_1 : Nat), ∃ resf3_1 : Int, ∃ resf4_1 : ByteArray, ∃ (resf5p_1 : Option Addr) (resf5n_1 resf5c_1 : Nat), ∃ resf6_1 : Bool, cellsAt q_5 b_1 0 [(.string resf0_1), (.slice resf1p_1 resf1n_1 resf1c_1), (.slice resf2p_1 resf2n_1 resf2c_1), (.int .i64 resf3_1), (.string resf4_1), (.slice resf5p_1 resf5n_1 resf5c_1), (.bool resf6_1)] ∧
 R (.returned (.tuple #[(.agg #[(.string resf0_1), (.slice resf1p_1 resf1n_1 resf1c_1), (.slice resf2p_1 resf2n_1 resf2c_1), (.int .i64 resf3_1), (.string resf4_1), (.slice resf5p_1 resf5n_1 resf5c_1), (.bool resf6_1)]), (.int .i64 (0 : Int)), (.bool false)])) q_5))) :
 CallsH Tryz.prog 47 #[(.agg #[(.slice sf0p_ sf0n_ sf0c_), (.slice sf1p_ sf1n_ sf1c_), (.slice sf2p_ sf2n_ sf2c_), (.slice sf3p_ sf3n_ sf3c_), (.slice sf4p_ sf4n_ sf4c_), (.slice sf5p_ sf5n_ sf5c_)]), (.string name_)] h R := calls_vc fine false Tryz.func47 (ann := A47) (args := [(.agg #[(.slice sf0p_ sf0n_ sf0c_), (.slice sf1p_ sf1n_ sf1c_), (.slice sf2p_ sf2n_ sf2c_), (.slice sf3p_ sf3n_ sf3c_), (.slice sf4p_ sf4n_ sf4c_), (.slice sf5p_ sf5n_ sf5c_)]), (.string name_)]) (by kernel_rfl) (Eq.mpr (by kernel_rfl) H)
def A48 : Ann := (.seq .nil (.seq (.seq .nil (.cond (.seq .nil .nil) .nil)) (.seq .nil .nil)))
theorem V48 (af0_ : Int) (af1_ : Int) (n_ : Int) (h : Hp) (R : Ending → Hp → Prop) (H :
 ∀ b_ q_, b_ = h.size → q_ = h.push (.cells #[(.int .u64 af0_), (.int .u64 af1_)] 40) →
 ∀ b_1 q_1, b_1 = q_.size → q_1 = q_.push (.cells (zeros Tryz.prog 40) 40) → (∃ i z, Tryz.prog.info? 40 = some i ∧ i.zero = some z) ∧
 (((decide ((64 : Int) ≤ n_)) = true →
 ∃ x8_ : Int, cellsAt q_1 b_ (0 + 0) [(.int .u64 x8_)] ∧
 ∃ x10_, IntKind.i64.wrap (n_ - (64 : Int)) = x10_ ∧
 0 ≤ x10_ ∧ ∃ x11_, shrI .u64 x8_ x10_ = x11_ ∧
 List.length [(Value.int .u64 (0 : Int)), (.int .u64 x11_)] = 2 ∧ (∀ c ∈ [(Value.int .u64 (0 : Int)), (.int .u64 x11_)], c.oneCell' = true) ∧ wrAt q_1 b_1 0 2 ∧ ∀ q_2, q_2 = setsH q_1 b_1 0 [(.int .u64 (0 : Int)), (.int .u64 x11_)] →
 ∃ resf0_ : Int, ∃ resf1_ : Int, cellsAt q_2 b_1 0 [(.int .u64 resf0_), (.int .u64 resf1_)] ∧
 R (.returned (.agg #[(.int .u64 resf0_), (.int .u64 resf1_)])) q_2) ∧
 ((decide ((64 : Int) ≤ n_)) = false →
 ∃ x14_ : Int, cellsAt q_1 b_ (0 + 0) [(.int .u64 x14_)] ∧
 0 ≤ n_ ∧ ∃ x16_, shrI .u64 x14_ n_ = x16_ ∧
 ∃ x18_ : Int, cellsAt q_1 b_ (0 + 1) [(.int .u64 x18_)] ∧
 0 ≤ n_ ∧ ∃ x20_, shrI .u64 x18_ n_ = x20_ ∧
 ∃ x22_ : Int, cellsAt q_1 b_ (0 + 0) [(.int .u64 x22_)] ∧
 ∃ x24_, IntKind.i64.wrap ((64 : Int) - n_) = x24_ ∧
 0 ≤ x24_ ∧ ∃ x25_, shlI .u64 x22_ x24_ = x25_ ∧
 ∃ x26_, orI .u64 x20_ x25_ = x26_ ∧
 List.length [(Value.int .u64 x16_), (.int .u64 x26_)] = 2 ∧ (∀ c ∈ [(Value.int .u64 x16_), (.int .u64 x26_)], c.oneCell' = true) ∧ wrAt q_1 b_1 0 2 ∧ ∀ q_3, q_3 = setsH q_1 b_1 0 [(.int .u64 x16_), (.int .u64 x26_)] →
 ∃ resf0_1 : Int, ∃ resf1_1 : Int, cellsAt q_3 b_1 0 [(.int .u64 resf0_1), (.int .u64 resf1_1)] ∧
 R (.returned (.agg #[(.int .u64 resf0_1), (.int .u64 resf1_1)])) q_3))) :
 CallsH Tryz.prog 48 #[(.agg #[(.int .u64 af0_), (.int .u64 af1_)]), (.int .i64 n_)] h R := calls_vc fine false Tryz.func48 (ann := A48) (args := [(.agg #[(.int .u64 af0_), (.int .u64 af1_)]), (.int .i64 n_)]) (by kernel_rfl) (Eq.mpr (by kernel_rfl) H)
def A49 : Ann := (.seq (.join 9) (.cond (.seq .nil (.block (.range [(.one .any), (.one .any)] .nil (.block .nil)))) .nil))
theorem V49 (a0_ : Option Addr) (a1_ : Option Addr) (a2_ : Option Addr) (u : FrameMode) (h : Hp) (K : Hp → Prop) (H :
 ∃ B_ : Bool, (∃ b_ o_, a0_ = some ⟨b_, o_, none⟩ ∧
 ∃ x5_ : Int, cellsAt h b_ o_ [(.int .i64 x5_)] ∧
 (((decide (x5_ ≠ (0 : Int))) = true →
 h = h ∧ B_ = true) ∧
 ((decide (x5_ ≠ (0 : Int))) = false →
 ∃ b_1 o_1, a1_ = some ⟨b_1, o_1, none⟩ ∧
 ∃ x8_ : Bool, cellsAt h b_1 o_1 [(.bool x8_)] ∧
 h = h ∧ B_ = x8_))) ∧
 ((B_ = true →
 ∃ b_2 o_2, a2_ = some ⟨b_2, o_2, none⟩ ∧
 ∃ (x10p_ : Option Addr) (x10n_ x10c_ : Nat), cellsAt h b_2 o_2 [(.slice x10p_ x10n_ x10c_)] ∧
 CallsH Tryz.prog 50 #[(.slice x10p_ x10n_ x10c_)] h fun en_ q_ =>
 ∃ x11_ : Value, en_ = .returned x11_ ∧
 ∃ gf_ lb_, x11_ = Value.func (.func gf_) #[] lb_ ∧ bodied Tryz.prog gf_ = true ∧
 ∀ (D_ L_ : Nat) (hv_ : Hp) (oR_ oB_ oE_ : Obj) (oD_ oX_ : Exit → Obj), D_ = q_.size → L_ = q_.size + 1 → hv_ = Array.push (q_.push (.deferred (some []))) oR_ →
 (∀ (x12_ : Value) (x13_ : Value) (hk_ : Hp) (Rv_ : Ending → Hp → Prop), hk_[L_]? = some oR_ →
 (hk_[L_]? = some oR_ ∧ ∀ q_1, q_1 = setO hk_ L_ oB_ →
 ∃ fn_ fst_ cap_, x13_ = Value.func (.func fn_) fst_ cap_ ∧ bodied Tryz.prog fn_ = true ∧
 CallsH Tryz.prog fn_ (fst_.toList ++ [] ++ cap_.toList).toArray q_1 fun en_2 q_2 =>
 en_2 = .returned (.tuple #[]) ∧
 q_2[L_]? = some oB_ ∧
 Rv_ (.returned (.bool true)) (setO q_2 L_ oR_)) →
 YieldH Tryz.prog L_ [x12_, x13_] hk_ Rv_) →
 CallsH Tryz.prog gf_ (.func (.yield L_) #[] #[] :: lb_.toList).toArray hv_ fun en_1 hv_1 => (∃ v_, en_1 = .returned v_) ∧
 ((hv_1[L_]? = some oR_ ∧
 ∀ q_3, q_3 = setO hv_1 L_ oE_ →
 q_3[D_]? = some (.deferred (some [])) ∧ ∀ q_4, q_4 = setO q_3 D_ (.deferred none) →
 (∃ v' : Value, Ending.returned (.tuple #[]) = .returned v') ∧ K q_4) ∨
 (hv_1[L_]? = some (oD_ .ret) ∧
 ∀ q_5, q_5 = setO hv_1 L_ (oX_ .ret) →
 q_5[D_]? = some (.deferred (some [])) ∧ ∀ q_6, q_6 = setO q_5 D_ (.deferred none) →
 (∃ v' : Value, Ending.returned (.tuple #[]) = .returned v') ∧ K q_6) ∨
 ∃ i_, hv_1[L_]? = some (oD_ (.exit i_)) ∧
 ∀ q_7, q_7 = setO hv_1 L_ (oX_ (.exit i_)) →
 cond (Nat.beq i_ 0)
 (q_7[D_]? = some (.deferred (some [])) ∧ ∀ q_8, q_8 = setO q_7 D_ (.deferred none) →
 (∃ v' : Value, Ending.returned (.tuple #[]) = .returned v') ∧ K q_8)
 (False))) ∧
 (B_ = false →
 (∃ v' : Value, Ending.returned (.tuple #[]) = .returned v') ∧ K h))) :
 DefH Tryz.prog 49 #[(.pointer a0_), (.pointer a1_), (.pointer a2_)] u h (fun u' h' => u' = u ∧ K h') := calls_vcID fine Tryz.func49 (ann := A49) (args := [(.pointer a0_), (.pointer a1_), (.pointer a2_)]) (by kernel_rfl) (Eq.mpr (by kernel_rfl) H)
def A50 : Ann := (.seq .nil (.seq .nil .nil))
theorem V50 (sp_ : Option Addr) (sn_ sc_ : Nat) (h : Hp) (R : Ending → Hp → Prop) (H :
 ∀ b_ q_, b_ = h.size → q_ = h.push (.cells #[(.slice sp_ sn_ sc_)] 145) →
 R (.returned (.func (.func 72) #[] #[(.pointer (some ⟨b_, 0, none⟩))])) q_) :
 CallsH Tryz.prog 50 #[(.slice sp_ sn_ sc_)] h R := calls_vc fine false Tryz.func50 (ann := A50) (args := [(.slice sp_ sn_ sc_)]) (by kernel_rfl) (Eq.mpr (by kernel_rfl) H)
def A51 : Ann := (.seq .nil (.seq (.join 5) (.seq (.join 6) (.seq (.block (.cut (.seq (.join 31) (.cond .nil (.seq (.join 31) (.cond .nil (.seq (.join 31) (.cond .nil (.join 31))))))) [(31, .bool)] (.cond (.seq .dead .dead) (.seq .nil (.cond (.seq .dead .dead) (.seq (.join 70) (.cond (.seq .nil .nil) (.seq .nil (.cond (.seq .nil .nil) (.seq .dead .dead)))))))))) .dead))))
theorem V51 (t_ : Option Addr) (of0_ : Int) (of1_ : ByteArray) (of2p_ : Option Addr) (of2n_ of2c_ : Nat) (of3_ : Int) (of4_ : ByteArray) (of5p_ : Option Addr) (of5n_ of5c_ : Nat) (h : Hp) (R : Ending → Hp → Prop) (H :
 ∀ b_ q_, b_ = h.size → q_ = h.push (.cells #[(.int .i64 of0_), (.string of1_), (.slice of2p_ of2n_ of2c_), (.int .i64 of3_), (.string of4_), (.slice of5p_ of5n_ of5c_)] 55) →
 ∃ B_ : Bool, (∃ x10_ : ByteArray, cellsAt q_ b_ (((0 + 2) + 2) + 0) [(.string x10_)] ∧
 (((decide (x10_ = (⟨#[]⟩ : ByteArray))) = true →
 ∃ (x16p_ : Option Addr) (x16n_ x16c_ : Nat), cellsAt q_ b_ (((0 + 2) + 2) + 1) [(.slice x16p_ x16n_ x16c_)] ∧
 q_ = q_ ∧ B_ = (decide (((x16n_ : Nat) : Int) = (0 : Int)))) ∧
 ((decide (x10_ = (⟨#[]⟩ : ByteArray))) = false →
 q_ = q_ ∧ B_ = false))) ∧
 ∃ B_1 : Bool, (∃ (x22p_ : Option Addr) (x22n_ x22c_ : Nat), cellsAt q_ b_ ((0 + 2) + 0) [(.slice x22p_ x22n_ x22c_)] ∧
 (((decide (((x22n_ : Nat) : Int) = (0 : Int))) = true →
 ∃ x28_ : Int, cellsAt q_ b_ ((0 + 2) + 1) [(.int .i64 x28_)] ∧
 q_ = q_ ∧ B_1 = (decide (x28_ = (0 : Int)))) ∧
 ((decide (((x22n_ : Nat) : Int) = (0 : Int))) = false →
 q_ = q_ ∧ B_1 = false))) ∧
 ∃ Jv_ : List Value → Hp → Prop,
 (∃ B_2 : Bool, (∃ x33_ : Int, cellsAt q_ b_ (0 + 0) [(.int .i64 x33_)] ∧
 (((decide (x33_ < (1 : Int))) = true →
 q_ = q_ ∧ B_2 = true) ∧
 ((decide (x33_ < (1 : Int))) = false →
 ∃ x37_ : Int, cellsAt q_ b_ (0 + 0) [(.int .i64 x37_)] ∧
 q_ = q_ ∧ B_2 = (decide ((5 : Int) < x37_))))) ∧
 ((B_2 = true →
 Jv_ [(.bool B_2)] q_) ∧
 (B_2 = false →
 ∃ B_3 : Bool, (∃ x41_ : Int, cellsAt q_ b_ (0 + 0) [(.int .i64 x41_)] ∧
 (((decide (x41_ = (3 : Int))) = true →
 q_ = q_ ∧ B_3 = (!B_)) ∧
 ((decide (x41_ = (3 : Int))) = false →
 q_ = q_ ∧ B_3 = false))) ∧
 ((B_3 = true →
 Jv_ [(.bool B_3)] q_) ∧
 (B_3 = false →
 ∃ B_4 : Bool, (∃ x48_ : Int, cellsAt q_ b_ (0 + 0) [(.int .i64 x48_)] ∧
 (((decide (x48_ = (4 : Int))) = true →
 q_ = q_ ∧ B_4 = (!B_1)) ∧
 ((decide (x48_ = (4 : Int))) = false →
 q_ = q_ ∧ B_4 = false))) ∧
 ((B_4 = true →
 Jv_ [(.bool B_4)] q_) ∧
 (B_4 = false →
 ∃ B_5 : Bool, (∃ x55_ : Int, cellsAt q_ b_ (0 + 0) [(.int .i64 x55_)] ∧
 (((decide (x55_ = (5 : Int))) = true →
 ((B_ = true →
 q_ = q_ ∧ B_5 = (!B_1)) ∧
 (B_ = false →
 q_ = q_ ∧ B_5 = true))) ∧
 ((decide (x55_ = (5 : Int))) = false →
 q_ = q_ ∧ B_5 = false))) ∧
 Jv_ [(.bool B_5)] q_))))))) ∧
 (∀ (x31_ : Bool) q_1, Jv_ [(.bool x31_)] q_1 →
 ((x31_ = true →
 False) ∧
 (x31_ = false →
 ∃ x67_ : ByteArray, cellsAt q_1 b_ (0 + 1) [(.string x67_)] ∧
 CallsH Tryz.prog 22 #[(.pointer t_), (.string x67_)] q_1 fun en_ q_2 =>
 ∃ x68_ : Option Addr, en_ = .returned (.pointer x68_) ∧
 ∃ x69_, EqV Tryz.prog 74 (.pointer x68_) (.pointer none) x69_ ∧
 ((x69_ = true →
 False) ∧
 (x69_ = false →
 ∃ B_6 : Bool, (∃ x72_ : Int, cellsAt q_2 b_ (0 + 0) [(.int .i64 x72_)] ∧
 (((decide (x72_ = (1 : Int))) = true →
 q_2 = q_2 ∧ B_6 = true) ∧
 ((decide (x72_ = (1 : Int))) = false →
 ∃ x76_ : Int, cellsAt q_2 b_ (0 + 0) [(.int .i64 x76_)] ∧
 q_2 = q_2 ∧ B_6 = (decide (x76_ = (2 : Int)))))) ∧
 ((B_6 = true →
 ∃ b_1 o_, t_ = some ⟨b_1, o_, none⟩ ∧
 ∃ (x82f0p_ : Option Addr) (x82f0n_ x82f0c_ : Nat) (x82f1p_ : Option Addr) (x82f1n_ x82f1c_ : Nat) (x82f2p_ : Option Addr) (x82f2n_ x82f2c_ : Nat) (x82f3p_ : Option Addr) (x82f3n_ x82f3c_ : Nat) (x82f4p_ : Option Addr) (x82f4n_ x82f4c_ : Nat) (x82f5p_ : Option Addr) (x82f5n_ x82f5c_ : Nat), cellsAt q_2 b_1 (o_ + 0) [(.slice x82f0p_ x82f0n_ x82f0c_), (.slice x82f1p_ x82f1n_ x82f1c_), (.slice x82f2p_ x82f2n_ x82f2c_), (.slice x82f3p_ x82f3n_ x82f3c_), (.slice x82f4p_ x82f4n_ x82f4c_), (.slice x82f5p_ x82f5n_ x82f5c_)] ∧
 ∃ x84_ : ByteArray, cellsAt q_2 b_ (0 + 1) [(.string x84_)] ∧
 ∃ (x86f0p_ : Option Addr) (x86f0n_ x86f0c_ : Nat), ∃ x86f1_ : Int, ∃ x86f2_ : ByteArray, ∃ (x86f3p_ : Option Addr) (x86f3n_ x86f3c_ : Nat), cellsAt q_2 b_ (0 + 2) [(.slice x86f0p_ x86f0n_ x86f0c_), (.int .i64 x86f1_), (.string x86f2_), (.slice x86f3p_ x86f3n_ x86f3c_)] ∧
 CallsH Tryz.prog 73 #[(.agg #[(.slice x82f0p_ x82f0n_ x82f0c_), (.slice x82f1p_ x82f1n_ x82f1c_), (.slice x82f2p_ x82f2n_ x82f2c_), (.slice x82f3p_ x82f3n_ x82f3c_), (.slice x82f4p_ x82f4n_ x82f4c_), (.slice x82f5p_ x82f5n_ x82f5c_)]), (.string x84_), (.agg #[(.slice x86f0p_ x86f0n_ x86f0c_), (.int .i64 x86f1_), (.string x86f2_), (.slice x86f3p_ x86f3n_ x86f3c_)])] q_2 fun en_1 q_3 =>
 ∃ x87_ : Int, en_1 = .returned (.int .i64 x87_) ∧
 R (.returned (.int .i64 x87_)) q_3) ∧
 (B_6 = false →
 ∃ x90_ : Int, cellsAt q_2 b_ (0 + 0) [(.int .i64 x90_)] ∧
 (((decide (x90_ = (3 : Int))) = true →
 ∃ b_2 o_1, t_ = some ⟨b_2, o_1, none⟩ ∧
 ∃ (x95f0p_ : Option Addr) (x95f0n_ x95f0c_ : Nat) (x95f1p_ : Option Addr) (x95f1n_ x95f1c_ : Nat) (x95f2p_ : Option Addr) (x95f2n_ x95f2c_ : Nat) (x95f3p_ : Option Addr) (x95f3n_ x95f3c_ : Nat) (x95f4p_ : Option Addr) (x95f4n_ x95f4c_ : Nat) (x95f5p_ : Option Addr) (x95f5n_ x95f5c_ : Nat), cellsAt q_2 b_2 (o_1 + 0) [(.slice x95f0p_ x95f0n_ x95f0c_), (.slice x95f1p_ x95f1n_ x95f1c_), (.slice x95f2p_ x95f2n_ x95f2c_), (.slice x95f3p_ x95f3n_ x95f3c_), (.slice x95f4p_ x95f4n_ x95f4c_), (.slice x95f5p_ x95f5n_ x95f5c_)] ∧
 ∃ x97_ : ByteArray, cellsAt q_2 b_ (0 + 1) [(.string x97_)] ∧
 ∃ (x99f0p_ : Option Addr) (x99f0n_ x99f0c_ : Nat), ∃ x99f1_ : Int, ∃ x99f2_ : ByteArray, ∃ (x99f3p_ : Option Addr) (x99f3n_ x99f3c_ : Nat), cellsAt q_2 b_ (0 + 2) [(.slice x99f0p_ x99f0n_ x99f0c_), (.int .i64 x99f1_), (.string x99f2_), (.slice x99f3p_ x99f3n_ x99f3c_)] ∧
 CallsH Tryz.prog 74 #[(.agg #[(.slice x95f0p_ x95f0n_ x95f0c_), (.slice x95f1p_ x95f1n_ x95f1c_), (.slice x95f2p_ x95f2n_ x95f2c_), (.slice x95f3p_ x95f3n_ x95f3c_), (.slice x95f4p_ x95f4n_ x95f4c_), (.slice x95f5p_ x95f5n_ x95f5c_)]), (.string x97_), (.agg #[(.slice x99f0p_ x99f0n_ x99f0c_), (.int .i64 x99f1_), (.string x99f2_), (.slice x99f3p_ x99f3n_ x99f3c_)])] q_2 fun en_2 q_4 =>
 ∃ x100_ : Int, en_2 = .returned (.int .i64 x100_) ∧
 R (.returned (.int .i64 x100_)) q_4) ∧
 ((decide (x90_ = (3 : Int))) = false →
 False)))))))))) :
 CallsH Tryz.prog 51 #[(.pointer t_), (.agg #[(.int .i64 of0_), (.string of1_), (.slice of2p_ of2n_ of2c_), (.int .i64 of3_), (.string of4_), (.slice of5p_ of5n_ of5c_)])] h R := calls_vc fine false Tryz.func51 (ann := A51) (args := [(.pointer t_), (.agg #[(.int .i64 of0_), (.string of1_), (.slice of2p_ of2n_ of2c_), (.int .i64 of3_), (.string of4_), (.slice of5p_ of5n_ of5c_)])]) (by kernel_rfl) (Eq.mpr (by kernel_rfl) H)
def A52 : Ann := (.seq .nil (.seq (.seq .nil (.block (.seq .nil (.cond (.seq .nil .nil) (.seq .nil (.cond (.seq .dead .dead) (.seq .nil (.cond (.cut (.orders 10 [[0, 1, 2, 3, 4, 5, 6, 7, 8, 9, 10, 11, 12], [0, 1, 2, 3, 4, 5, 10, 6, 7, 8, 9, 11, 12]] [0, 3, 5]) [(8, .ptr), (9, .bool)] (.seq (.seq .nil (.cond (.seq .nil .nil) .nil)) (.seq .nil .nil))) (.seq .dead .dead))))))))) .dead))
theorem V52 (x_ : Option Addr) (of0_ : Int) (of1_ : ByteArray) (of2p_ : Option Addr) (of2n_ of2c_ : Nat) (of3_ : Int) (of4_ : ByteArray) (of5p_ : Option Addr) (of5n_ of5c_ : Nat) (h : Hp) (R : Ending → Hp → Prop) (H :
 ∀ b_ q_, b_ = h.size → q_ = h.push (.cells #[(.pointer x_)] 74) →
 ∀ b_1 q_1, b_1 = q_.size → q_1 = q_.push (.cells #[(.int .i64 of0_), (.string of1_), (.slice of2p_ of2n_ of2c_), (.int .i64 of3_), (.string of4_), (.slice of5p_ of5n_ of5c_)] 55) →
 ∃ x14_ : Int, cellsAt q_1 b_1 (0 + 0) [(.int .i64 x14_)] ∧
 (((decide (x14_ = (1 : Int))) = true →
 ∃ x17_ : Option Addr, cellsAt q_1 b_ 0 [(.pointer x17_)] ∧
 ∃ b_2 o_, x17_ = some ⟨b_2, o_, none⟩ ∧
 ∃ x20_ : Value, cellsAt q_1 b_2 (o_ + 10) [x20_] ∧
 ∃ (x22f0p_ : Option Addr) (x22f0n_ x22f0c_ : Nat), ∃ x22f1_ : Int, ∃ x22f2_ : ByteArray, ∃ (x22f3p_ : Option Addr) (x22f3n_ x22f3c_ : Nat), cellsAt q_1 b_1 (0 + 2) [(.slice x22f0p_ x22f0n_ x22f0c_), (.int .i64 x22f1_), (.string x22f2_), (.slice x22f3p_ x22f3n_ x22f3c_)] ∧
 ∃ ty_ rcv_ fn_, x20_ = Value.iface ty_ rcv_ ∧ methF Tryz.prog ty_ "Put" = some fn_ ∧ bodied Tryz.prog fn_ = true ∧
 CallsH Tryz.prog fn_ #[rcv_, (.agg #[(.slice x22f0p_ x22f0n_ x22f0c_), (.int .i64 x22f1_), (.string x22f2_), (.slice x22f3p_ x22f3n_ x22f3c_)])] q_1 fun en_ q_2 =>
 ∃ x23_ : Int, en_ = .returned (.int .i64 x23_) ∧
 R (.returned (.tuple #[(.int .i64 x23_), (.func (.func 75) #[] #[(.pointer (some ⟨b_, 0, none⟩)), (.pointer (some ⟨b_1, 0, none⟩))])])) q_2) ∧
 ((decide (x14_ = (1 : Int))) = false →
 (((decide (x14_ = (2 : Int))) = true →
 False) ∧
 ((decide (x14_ = (2 : Int))) = false →
 (((decide (x14_ = (3 : Int))) = true →
 ∃ Jv_ : List Value → Hp → Prop,
 ((∃ Cv_ : Hp → Prop, Cv_ q_1 ∧
 ∃ x48_ : Option Addr, (∀ h', Cv_ h' → cellsAt h' b_ 0 [(.pointer x48_)]) ∧
 ∃ b_3 o_1, x48_ = some ⟨b_3, o_1, none⟩ ∧
 ∃ x51_ : Value, (∀ h', Cv_ h' → cellsAt h' b_3 (o_1 + 10) [x51_]) ∧
 ∃ (x53f0p_ : Option Addr) (x53f0n_ x53f0c_ : Nat), ∃ x53f1_ : Int, ∃ x53f2_ : ByteArray, ∃ (x53f3p_ : Option Addr) (x53f3n_ x53f3c_ : Nat), (∀ h', Cv_ h' → cellsAt h' b_1 (0 + 2) [(.slice x53f0p_ x53f0n_ x53f0c_), (.int .i64 x53f1_), (.string x53f2_), (.slice x53f3p_ x53f3n_ x53f3c_)]) ∧
 ∃ ty_1 rcv_1 fn_1, x51_ = Value.iface ty_1 rcv_1 ∧ methF Tryz.prog ty_1 "Drop" = some fn_1 ∧ bodied Tryz.prog fn_1 = true ∧
 CallsH Tryz.prog fn_1 #[rcv_1, (.agg #[(.slice x53f0p_ x53f0n_ x53f0c_), (.int .i64 x53f1_), (.string x53f2_), (.slice x53f3p_ x53f3n_ x53f3c_)])] q_1 fun en_1 q_3 =>
 ∃ (x54r0f0p_ : Option Addr) (x54r0f0n_ x54r0f0c_ : Nat), ∃ x54r0f1_ : Int, ∃ x54r0f2_ : ByteArray, ∃ (x54r0f3p_ : Option Addr) (x54r0f3n_ x54r0f3c_ : Nat), ∃ x54r1_ : Bool, en_1 = .returned (.tuple #[(.agg #[(.slice x54r0f0p_ x54r0f0n_ x54r0f0c_), (.int .i64 x54r0f1_), (.string x54r0f2_), (.slice x54r0f3p_ x54r0f3n_ x54r0f3c_)]), (.bool x54r1_)]) ∧
 Cv_ q_3 ∧
 ∀ b_4 q_4, b_4 = q_3.size → q_4 = q_3.push (.cells (zeros Tryz.prog 53) 53) → (∃ i z, Tryz.prog.info? 53 = some i ∧ i.zero = some z) ∧
 Cv_ q_4 ∧
 List.length [(Value.slice x54r0f0p_ x54r0f0n_ x54r0f0c_), (.int .i64 x54r0f1_), (.string x54r0f2_), (.slice x54r0f3p_ x54r0f3n_ x54r0f3c_)] = 4 ∧ (∀ c ∈ [(Value.slice x54r0f0p_ x54r0f0n_ x54r0f0c_), (.int .i64 x54r0f1_), (.string x54r0f2_), (.slice x54r0f3p_ x54r0f3n_ x54r0f3c_)], c.oneCell' = true) ∧ wrAt q_4 b_4 0 4 ∧ ∀ q_5, q_5 = setsH q_4 b_4 0 [(.slice x54r0f0p_ x54r0f0n_ x54r0f0c_), (.int .i64 x54r0f1_), (.string x54r0f2_), (.slice x54r0f3p_ x54r0f3n_ x54r0f3c_)] →
 Cv_ q_5 ∧
 Jv_ [(.pointer (some ⟨b_4, 0, none⟩)), (.bool x54r1_)] q_5) ∧
 (∃ Cv_1 : Hp → Prop, Cv_1 q_1 ∧
 ∃ x48_1 : Option Addr, (∀ h', Cv_1 h' → cellsAt h' b_ 0 [(.pointer x48_1)]) ∧
 ∃ b_5 o_2, x48_1 = some ⟨b_5, o_2, none⟩ ∧
 ∃ x51_1 : Value, (∀ h', Cv_1 h' → cellsAt h' b_5 (o_2 + 10) [x51_1]) ∧
 ∃ (x53f0p_1 : Option Addr) (x53f0n_1 x53f0c_1 : Nat), ∃ x53f1_1 : Int, ∃ x53f2_1 : ByteArray, ∃ (x53f3p_1 : Option Addr) (x53f3n_1 x53f3c_1 : Nat), (∀ h', Cv_1 h' → cellsAt h' b_1 (0 + 2) [(.slice x53f0p_1 x53f0n_1 x53f0c_1), (.int .i64 x53f1_1), (.string x53f2_1), (.slice x53f3p_1 x53f3n_1 x53f3c_1)]) ∧
 ∀ b_6 q_6, b_6 = q_1.size → q_6 = q_1.push (.cells (zeros Tryz.prog 53) 53) → (∃ i z, Tryz.prog.info? 53 = some i ∧ i.zero = some z) ∧
 Cv_1 q_6 ∧
 ∃ ty_2 rcv_2 fn_2, x51_1 = Value.iface ty_2 rcv_2 ∧ methF Tryz.prog ty_2 "Drop" = some fn_2 ∧ bodied Tryz.prog fn_2 = true ∧
 CallsH Tryz.prog fn_2 #[rcv_2, (.agg #[(.slice x53f0p_1 x53f0n_1 x53f0c_1), (.int .i64 x53f1_1), (.string x53f2_1), (.slice x53f3p_1 x53f3n_1 x53f3c_1)])] q_6 fun en_2 q_7 =>
 ∃ (x54r0f0p_1 : Option Addr) (x54r0f0n_1 x54r0f0c_1 : Nat), ∃ x54r0f1_1 : Int, ∃ x54r0f2_1 : ByteArray, ∃ (x54r0f3p_1 : Option Addr) (x54r0f3n_1 x54r0f3c_1 : Nat), ∃ x54r1_1 : Bool, en_2 = .returned (.tuple #[(.agg #[(.slice x54r0f0p_1 x54r0f0n_1 x54r0f0c_1), (.int .i64 x54r0f1_1), (.string x54r0f2_1), (.slice x54r0f3p_1 x54r0f3n_1 x54r0f3c_1)]), (.bool x54r1_1)]) ∧
 Cv_1 q_7 ∧
 List.length [(Value.slice x54r0f0p_1 x54r0f0n_1 x54r0f0c_1), (.int .i64 x54r0f1_1), (.string x54r0f2_1), (.slice x54r0f3p_1 x54r0f3n_1 x54r0f3c_1)] = 4 ∧ (∀ c ∈ [(Value.slice x54r0f0p_1 x54r0f0n_1 x54r0f0c_1), (.int .i64 x54r0f1_1), (.string x54r0f2_1), (.slice x54r0f3p_1 x54r0f3n_1 x54r0f3c_1)], c.oneCell' = true) ∧ wrAt q_7 b_6 0 4 ∧ ∀ q_8, q_8 = setsH q_7 b_6 0 [(.slice x54r0f0p_1 x54r0f0n_1 x54r0f0c_1), (.int .i64 x54r0f1_1), (.string x54r0f2_1), (.slice x54r0f3p_1 x54r0f3n_1 x54r0f3c_1)] →
 Cv_1 q_8 ∧
 Jv_ [(.pointer (some ⟨b_6, 0, none⟩)), (.bool x54r1_1)] q_8)) ∧
 (∀ (was_ : Option Addr) (isv_ : Bool) q_9, Jv_ [(.pointer was_), (.bool isv_)] q_9 →
 (((!isv_) = true →
 R (.returned (.tuple #[(.int .i64 (122 : Int)), Value.nilFunc])) q_9) ∧
 ((!isv_) = false →
 R (.returned (.tuple #[(.int .i64 (0 : Int)), (.func (.func 77) #[] #[(.pointer (some ⟨b_, 0, none⟩)), (.pointer was_)])])) q_9)))) ∧
 ((decide (x14_ = (3 : Int))) = false →
 False))))))) :
 CallsH Tryz.prog 52 #[(.pointer x_), (.agg #[(.int .i64 of0_), (.string of1_), (.slice of2p_ of2n_ of2c_), (.int .i64 of3_), (.string of4_), (.slice of5p_ of5n_ of5c_)])] h R := calls_vc fine false Tryz.func52 (ann := A52) (args := [(.pointer x_), (.agg #[(.int .i64 of0_), (.string of1_), (.slice of2p_ of2n_ of2c_), (.int .i64 of3_), (.string of4_), (.slice of5p_ of5n_ of5c_)])]) (by kernel_rfl) (Eq.mpr (by kernel_rfl) H)
def A53 : Ann := (.seq .nil (.seq (.seq .nil (.block (.loop [(8, (.int .i64))] (.seq .nil (.seq (.cond .nil .nil) (.seq (.block (.seq .nil (.seq .nil (.cond (.seq .nil .nil) .nil)))) .nil)))))) (.seq .nil .nil)))
theorem V53 (sp_ : Option Addr) (sn_ sc_ : Nat) (f_ : Value) (h : Hp) (R : Ending → Hp → Prop) (H :
 ∃ (Iv_ : List Value → Hp → Prop) (m_ : List Value → Hp → Nat), Iv_ [(.int .i64 (0 : Int))] h ∧
 (∀ (x8_ : Int) q_, Iv_ [(.int .i64 x8_)] q_ →
 (((decide (x8_ < ((sn_ : Nat) : Int))) = true →
 ∃ b_ o_, sp_ = some ⟨b_, o_, none⟩ ∧ 0 ≤ x8_ ∧ x8_ < (sn_ : Int) ∧
 ∃ x15_ : Option Addr, cellsAt q_ b_ (o_ + Int.toNat x8_ * 1) [(.pointer x15_)] ∧
 ∃ fn_ fst_ cap_, f_ = Value.func (.func fn_) fst_ cap_ ∧ bodied Tryz.prog fn_ = true ∧
 CallsH Tryz.prog fn_ (fst_.toList ++ [(Value.pointer x15_)] ++ cap_.toList).toArray q_ fun en_ q_1 =>
 ∃ x16_ : Bool, en_ = .returned (.bool x16_) ∧
 ((x16_ = true →
 R (.returned (.int .i64 x8_)) q_1) ∧
 (x16_ = false →
 ∃ x18_, IntKind.i64.wrap (x8_ + (1 : Int)) = x18_ ∧
 (Iv_ [(.int .i64 x18_)] q_1 ∧ m_ [(.int .i64 x18_)] q_1 < m_ [(.int .i64 x8_)] q_)))) ∧
 ((decide (x8_ < ((sn_ : Nat) : Int))) = false →
 R (.returned (.int .i64 (-1 : Int))) q_)))) :
 CallsH Tryz.prog 53 #[(.slice sp_ sn_ sc_), f_] h R := calls_vc fine false Tryz.func53 (ann := A53) (args := [(.slice sp_ sn_ sc_), f_]) (by kernel_rfl) (Eq.mpr (by kernel_rfl) H)
def A54 : Ann := (.seq .nil (.seq .nil .nil))
theorem V54 (o_ : Option Addr) (a1_ : Option Addr) (h : Hp) (R : Ending → Hp → Prop) (H :
 ∃ b_ o_1, o_ = some ⟨b_, o_1, none⟩ ∧
 ∃ x8_ : ByteArray, cellsAt h b_ ((o_1 + 0) + 0) [(.string x8_)] ∧
 ∃ b_1 o_2, a1_ = some ⟨b_1, o_2, none⟩ ∧
 ∃ x9_ : ByteArray, cellsAt h b_1 o_2 [(.string x9_)] ∧
 R (.returned (.bool (decide (x8_ = x9_)))) h) :
 CallsH Tryz.prog 54 #[(.pointer o_), (.pointer a1_)] h R := calls_vc fine false Tryz.func54 (ann := A54) (args := [(.pointer o_), (.pointer a1_)]) (by kernel_rfl) (Eq.mpr (by kernel_rfl) H)
def A55 : Ann := (.seq .nil (.seq .nil .nil))
theorem V55 (c_ : Option Addr) (name_ : ByteArray) (met_ : Option Nat) (h : Hp) (R : Ending → Hp → Prop) (H :
 CallsH Tryz.prog 81 #[(.string name_)] h fun en_ q_ =>
 ∃ x8_ : Bool, en_ = .returned (.bool x8_) ∧
 CallsH Tryz.prog 26 #[(.pointer c_), (.bool x8_), (.int .i64 (70 : Int))] q_ fun en_1 q_1 =>
 en_1 = .returned (.tuple #[]) ∧
 SemH Tryz.prog (Instr.lookup 111 (.map met_) (.string name_) false) q_1 fun v_ q_2 =>
 ∃ x13_ : Int, v_ = (.int .i64 x13_) ∧
 CallsH Tryz.prog 26 #[(.pointer c_), (.bool (decide (x13_ = (0 : Int)))), (.int .i64 (71 : Int))] q_2 fun en_2 q_3 =>
 en_2 = .returned (.tuple #[]) ∧
 SemH Tryz.prog (Instr.mapUpdate 111 (.map met_) (.string name_) (.int .i64 (1 : Int))) q_3 fun _ q_4 =>
 R (.returned (.tuple #[])) q_4) :
 CallsH Tryz.prog 55 #[(.pointer c_), (.string name_), (.map met_)] h R := calls_vc fine false Tryz.func55 (ann := A55) (args := [(.pointer c_), (.string name_), (.map met_)]) (by kernel_rfl) (Eq.mpr (by kernel_rfl) H)
def A57 : Ann := (.seq .nil (.seq .nil (.cut (.seq .nil (.block (.seq .nil (.cond (.seq .dead .dead) (.seq .nil (.cond .nil (.seq .dead .dead))))))) [(6, .slice)] (.seq (.seq .nil (.seq .nil (.cond (.seq .nil .nil) .nil))) (.seq .dead .dead)))))
theorem V57 (sf0p_ : Option Addr) (sf0n_ sf0c_ : Nat) (sf1p_ : Option Addr) (sf1n_ sf1c_ : Nat) (sf2p_ : Option Addr) (sf2n_ sf2c_ : Nat) (sf3p_ : Option Addr) (sf3n_ sf3c_ : Nat) (sf4p_ : Option Addr) (sf4n_ sf4c_ : Nat) (sf5p_ : Option Addr) (sf5n_ sf5c_ : Nat) (rf0_ : ByteArray) (rf1_ : ByteArray) (h : Hp) (R : Ending → Hp → Prop) (H :
 ∀ b_ q_, b_ = h.size → q_ = h.push (.cells #[(.slice sf0p_ sf0n_ sf0c_), (.slice sf1p_ sf1n_ sf1c_), (.slice sf2p_ sf2n_ sf2c_), (.slice sf3p_ sf3n_ sf3c_), (.slice sf4p_ sf4n_ sf4c_), (.slice sf5p_ sf5n_ sf5c_)] 36) →
 ∀ b_1 q_1, b_1 = q_.size → q_1 = q_.push (.cells #[(.string rf0_), (.string rf1_)] 87) →
 ∀ b_2 q_2, b_2 = q_1.size → q_2 = q_1.push (.cells (zeros Tryz.prog 89) 89) → (∃ i z, Tryz.prog.info? 89 = some i ∧ i.zero = some z) ∧
 ∃ (x10p_ : Option Addr) (x10n_ x10c_ : Nat), cellsAt q_2 b_ (0 + 1) [(.slice x10p_ x10n_ x10c_)] ∧
 ∃ Jv_ : List Value → Hp → Prop,
 (∃ x12_ : ByteArray, cellsAt q_2 b_1 (0 + 0) [(.string x12_)] ∧
 (((decide (x12_ = (⟨#[]⟩ : ByteArray))) = true →
 False) ∧
 ((decide (x12_ = (⟨#[]⟩ : ByteArray))) = false →
 (((decide (x12_ = (⟨#[109, 101, 116, 97]⟩ : ByteArray))) = true →
 Jv_ [(.slice x10p_ x10n_ x10c_)] q_2) ∧
 ((decide (x12_ = (⟨#[109, 101, 116, 97]⟩ : ByteArray))) = false →
 False))))) ∧
 (∀ (lp_ : Option Addr) (ln_ lc_ : Nat) q_3, Jv_ [(.slice lp_ ln_ lc_)] q_3 →
 ∃ x33_ : ByteArray, cellsAt q_3 b_1 (0 + 1) [(.string x33_)] ∧
 CallsH Tryz.prog 84 #[(.slice lp_ ln_ lc_), (.string x33_)] q_3 fun en_ q_4 =>
 ∃ x34_ : Int, en_ = .returned (.int .i64 x34_) ∧
 (((decide ((0 : Int) ≤ x34_)) = true →
 ∃ b_3 o_, lp_ = some ⟨b_3, o_, none⟩ ∧ 0 ≤ x34_ ∧ x34_ < (ln_ : Int) ∧
 ∃ x40f0_ : ByteArray, ∃ x40f1_ : Int, cellsAt q_4 b_3 (o_ + Int.toNat x34_ * 2) [(.string x40f0_), (.int .i64 x40f1_)] ∧
 List.length [(Value.string x40f0_), (.int .i64 x40f1_)] = 2 ∧ (∀ c ∈ [(Value.string x40f0_), (.int .i64 x40f1_)], c.oneCell' = true) ∧ wrAt q_4 b_2 0 2 ∧ ∀ q_5, q_5 = setsH q_4 b_2 0 [(.string x40f0_), (.int .i64 x40f1_)] →
 ∃ resf0_ : ByteArray, ∃ resf1_ : Int, cellsAt q_5 b_2 0 [(.string resf0_), (.int .i64 resf1_)] ∧
 R (.returned (.tuple #[(.agg #[(.string resf0_), (.int .i64 resf1_)]), (.bool true)])) q_5) ∧
 ((decide ((0 : Int) ≤ x34_)) = false →
 False)))) :
 CallsH Tryz.prog 57 #[(.agg #[(.slice sf0p_ sf0n_ sf0c_), (.slice sf1p_ sf1n_ sf1c_), (.slice sf2p_ sf2n_ sf2c_), (.slice sf3p_ sf3n_ sf3c_), (.slice sf4p_ sf4n_ sf4c_), (.slice sf5p_ sf5n_ sf5c_)]), (.agg #[(.string rf0_), (.string rf1_)])] h R := calls_vc fine false Tryz.func57 (ann := A57) (args := [(.agg #[(.slice sf0p_ sf0n_ sf0c_), (.slice sf1p_ sf1n_ sf1c_), (.slice sf2p_ sf2n_ sf2c_), (.slice sf3p_ sf3n_ sf3c_), (.slice sf4p_ sf4n_ sf4c_), (.slice sf5p_ sf5n_ sf5c_)]), (.agg #[(.string rf0_), (.string rf1_)])]) (by kernel_rfl) (Eq.mpr (by kernel_rfl) H)
def A58 : Ann := (.seq .nil (.cut (.seq (.join 10) (.cond (.seq .nil .nil) .nil)) [] (.seq (.seq .nil (.cond (.seq (.join 4) .nil) .nil)) (.seq (.join 4) .nil))))
theorem V58 (af0_ : Int) (af1_ : Int) (w_ : Int) (h : Hp) (R : Ending → Hp → Prop) (H :
 ∀ b_ q_, b_ = h.size → q_ = h.push (.cells #[(.int .u64 af0_), (.int .u64 af1_)] 40) →
 ∃ Jv_ : List Value → Hp → Prop,
 (∃ B_ : Bool, ((((decide (w_ < (1 : Int))) = true →
 q_ = q_ ∧ B_ = true) ∧
 ((decide (w_ < (1 : Int))) = false →
 q_ = q_ ∧ B_ = (decide ((128 : Int) < w_))))) ∧
 ((B_ = true →
 R (.returned (.bool false)) q_) ∧
 (B_ = false →
 Jv_ [] q_))) ∧
 (∀  q_1, Jv_ [] q_1 →
 (((decide ((64 : Int) < w_)) = true →
 ∃ B_1 : Bool, ((((decide (w_ = (128 : Int))) = true →
 q_1 = q_1 ∧ B_1 = true) ∧
 ((decide (w_ = (128 : Int))) = false →
 ∃ x17_ : Int, cellsAt q_1 b_ (0 + 0) [(.int .u64 x17_)] ∧
 ∃ x19_, IntKind.i64.wrap (w_ - (64 : Int)) = x19_ ∧
 0 ≤ x19_ ∧ ∃ x20_, shlI .u64 (1 : Int) x19_ = x20_ ∧
 q_1 = q_1 ∧ B_1 = (decide (x17_ < x20_))))) ∧
 R (.returned (.bool B_1)) q_1) ∧
 ((decide ((64 : Int) < w_)) = false →
 ∃ B_2 : Bool, (∃ x24_ : Int, cellsAt q_1 b_ (0 + 0) [(.int .u64 x24_)] ∧
 (((decide (x24_ = (0 : Int))) = true →
 (((decide (w_ = (64 : Int))) = true →
 q_1 = q_1 ∧ B_2 = true) ∧
 ((decide (w_ = (64 : Int))) = false →
 ∃ x31_ : Int, cellsAt q_1 b_ (0 + 1) [(.int .u64 x31_)] ∧
 0 ≤ w_ ∧ ∃ x33_, shlI .u64 (1 : Int) w_ = x33_ ∧
 q_1 = q_1 ∧ B_2 = (decide (x31_ < x33_))))) ∧
 ((decide (x24_ = (0 : Int))) = false →
 q_1 = q_1 ∧ B_2 = false))) ∧
 R (.returned (.bool B_2)) q_1)))) :
 CallsH Tryz.prog 58 #[(.agg #[(.int .u64 af0_), (.int .u64 af1_)]), (.int .i64 w_)] h R := calls_vc fine false Tryz.func58 (ann := A58) (args := [(.agg #[(.int .u64 af0_), (.int .u64 af1_)]), (.int .i64 w_)]) (by kernel_rfl) (Eq.mpr (by kernel_rfl) H)
def A59 : Ann := (.seq .nil (.seq (.seq .nil (.block (.loop [(23, (.int .i64))] (.seq .nil (.seq (.cond .nil .nil) (.seq (.block (.seq .dead .dead)) .dead)))))) (.seq .nil (.block (.loop [(40, (.int .i64))] (.seq .nil (.seq (.cond .nil .nil) (.seq (.block (.seq .dead .dead)) .dead))))))))
theorem V59 (c_ : Option Addr) (h : Hp) (R : Ending → Hp → Prop) (H :
 ∀ r_ q_, r_ = h.size → q_ = h.push (.map #[] 0) →
 ∃ b_ o_, c_ = some ⟨b_, o_, none⟩ ∧
 ∃ (x21p_ : Option Addr) (x21n_ x21c_ : Nat), cellsAt q_ b_ ((o_ + 0) + 2) [(.slice x21p_ x21n_ x21c_)] ∧
 ∃ (Iv_ : List Value → Hp → Prop) (m_ : List Value → Hp → Nat), Iv_ [(.int .i64 (0 : Int))] q_ ∧
 (∀ (x23_ : Int) q_1, Iv_ [(.int .i64 x23_)] q_1 →
 (((decide (x23_ < ((x21n_ : Nat) : Int))) = true →
 False) ∧
 ((decide (x23_ < ((x21n_ : Nat) : Int))) = false →
 ∃ b_1 o_1, c_ = some ⟨b_1, o_1, none⟩ ∧
 ∃ (x38p_ : Option Addr) (x38n_ x38c_ : Nat), cellsAt q_1 b_1 ((o_1 + 0) + 2) [(.slice x38p_ x38n_ x38c_)] ∧
 ∃ (Iv_1 : List Value → Hp → Prop) (m_1 : List Value → Hp → Nat), Iv_1 [(.int .i64 (0 : Int))] q_1 ∧
 (∀ (x40_ : Int) q_2, Iv_1 [(.int .i64 x40_)] q_2 →
 (((decide (x40_ < ((x38n_ : Nat) : Int))) = true →
 False) ∧
 ((decide (x40_ < ((x38n_ : Nat) : Int))) = false →
 R (.returned (.tuple #[])) q_2))))))) :
 CallsH Tryz.prog 59 #[(.pointer c_)] h R := calls_vc fine false Tryz.func59 (ann := A59) (args := [(.pointer c_)]) (by kernel_rfl) (Eq.mpr (by kernel_rfl) H)
def A61 : Ann := (.seq .nil (.seq .nil (.seq (.block (.seq .nil (.cond (.seq .nil .nil) (.seq .nil (.cond (.seq .nil .nil) .nil))))) (.seq .nil .nil))))
theorem V61 (tf0_ : ByteArray) (tf1p_ : Option Addr) (tf1n_ tf1c_ : Nat) (tf2p_ : Option Addr) (tf2n_ tf2c_ : Nat) (tf3_ : Int) (tf4_ : ByteArray) (tf5p_ : Option Addr) (tf5n_ tf5c_ : Nat) (tf6_ : Bool) (h : Hp) (R : Ending → Hp → Prop) (H :
 ∀ b_ q_, b_ = h.size → q_ = h.push (.cells #[(.string tf0_), (.slice tf1p_ tf1n_ tf1c_), (.slice tf2p_ tf2n_ tf2c_), (.int .i64 tf3_), (.string tf4_), (.slice tf5p_ tf5n_ tf5c_), (.bool tf6_)] 73) →
 ∃ fn_ fst_ cap_, (.func (.func 87) #[] #[(.pointer (some ⟨b_, 0, none⟩))]) = Value.func (.func fn_) fst_ cap_ ∧ bodied Tryz.prog fn_ = true ∧
 CallsH Tryz.prog fn_ (fst_.toList ++ [(Value.int .i64 (3 : Int))] ++ cap_.toList).toArray q_ fun en_ q_1 =>
 ∃ x7_ : Bool, en_ = .returned (.bool x7_) ∧
 ((x7_ = true →
 R (.returned (.int .i64 (3 : Int))) q_1) ∧
 (x7_ = false →
 ∃ fn_1 fst_1 cap_1, (.func (.func 87) #[] #[(.pointer (some ⟨b_, 0, none⟩))]) = Value.func (.func fn_1) fst_1 cap_1 ∧ bodied Tryz.prog fn_1 = true ∧
 CallsH Tryz.prog fn_1 (fst_1.toList ++ [(Value.int .i64 (4 : Int))] ++ cap_1.toList).toArray q_1 fun en_1 q_2 =>
 ∃ x10_ : Bool, en_1 = .returned (.bool x10_) ∧
 ((x10_ = true →
 R (.returned (.int .i64 (3 : Int))) q_2) ∧
 (x10_ = false →
 ∃ fn_2 fst_2 cap_2, (.func (.func 87) #[] #[(.pointer (some ⟨b_, 0, none⟩))]) = Value.func (.func fn_2) fst_2 cap_2 ∧ bodied Tryz.prog fn_2 = true ∧
 CallsH Tryz.prog fn_2 (fst_2.toList ++ [(Value.int .i64 (2 : Int))] ++ cap_2.toList).toArray q_2 fun en_2 q_3 =>
 ∃ x14_ : Bool, en_2 = .returned (.bool x14_) ∧
 ((x14_ = true →
 R (.returned (.int .i64 (2 : Int))) q_3) ∧
 (x14_ = false →
 R (.returned (.int .i64 (1 : Int))) q_3))))))) :
 CallsH Tryz.prog 61 #[(.agg #[(.string tf0_), (.slice tf1p_ tf1n_ tf1c_), (.slice tf2p_ tf2n_ tf2c_), (.int .i64 tf3_), (.string tf4_), (.slice tf5p_ tf5n_ tf5c_), (.bool tf6_)])] h R := calls_vc fine false Tryz.func61 (ann := A61) (args := [(.agg #[(.string tf0_), (.slice tf1p_ tf1n_ tf1c_), (.slice tf2p_ tf2n_ tf2c_), (.int .i64 tf3_), (.string tf4_), (.slice tf5p_ tf5n_ tf5c_), (.bool tf6_)])]) (by kernel_rfl) (Eq.mpr (by kernel_rfl) H)
def A62 : Ann := (.seq .nil (.seq .nil .nil))
theorem V62 (sf0p_ : Option Addr) (sf0n_ sf0c_ : Nat) (sf1p_ : Option Addr) (sf1n_ sf1c_ : Nat) (sf2p_ : Option Addr) (sf2n_ sf2c_ : Nat) (sf3p_ : Option Addr) (sf3n_ sf3c_ : Nat) (sf4p_ : Option Addr) (sf4n_ sf4c_ : Nat) (sf5p_ : Option Addr) (sf5n_ sf5c_ : Nat) (name_ : ByteArray) (h : Hp) (R : Ending → Hp → Prop) (H :
 ∀ b_ q_, b_ = h.size → q_ = h.push (.cells #[(.slice sf0p_ sf0n_ sf0c_), (.slice sf1p_ sf1n_ sf1c_), (.slice sf2p_ sf2n_ sf2c_), (.slice sf3p_ sf3n_ sf3c_), (.slice sf4p_ sf4n_ sf4c_), (.slice sf5p_ sf5n_ sf5c_)] 36) →
 ∀ b_1 q_1, b_1 = q_.size → q_1 = q_.push (.cells #[(.string name_)] 9) →
 ∃ (x6p_ : Option Addr) (x6n_ x6c_ : Nat), cellsAt q_1 b_ (0 + 3) [(.slice x6p_ x6n_ x6c_)] ∧
 CallsH Tryz.prog 90 #[(.slice x6p_ x6n_ x6c_), (.func (.func 91) #[] #[(.pointer (some ⟨b_1, 0, none⟩))])] q_1 fun en_ q_2 =>
 ∃ x8_ : Int, en_ = .returned (.int .i64 x8_) ∧
 R (.returned (.int .i64 x8_)) q_2) :
 CallsH Tryz.prog 62 #[(.agg #[(.slice sf0p_ sf0n_ sf0c_), (.slice sf1p_ sf1n_ sf1c_), (.slice sf2p_ sf2n_ sf2c_), (.slice sf3p_ sf3n_ sf3c_), (.slice sf4p_ sf4n_ sf4c_), (.slice sf5p_ sf5n_ sf5c_)]), (.string name_)] h R := calls_vc fine false Tryz.func62 (ann := A62) (args := [(.agg #[(.slice sf0p_ sf0n_ sf0c_), (.slice sf1p_ sf1n_ sf1c_), (.slice sf2p_ sf2n_ sf2c_), (.slice sf3p_ sf3n_ sf3c_), (.slice sf4p_ sf4n_ sf4c_), (.slice sf5p_ sf5n_ sf5c_)]), (.string name_)]) (by kernel_rfl) (Eq.mpr (by kernel_rfl) H)
def A63 : Ann := (.seq .nil (.seq (.drawLast [3, 5]) (.cut (.block (.seq .nil (.cond (.seq .dead .dead) (.cut .nil [(21, .bool)] (.cond (.seq .dead .dead) (.seq .nil (.cond (.seq .dead .dead) .nil))))))) [] (.seq (.seq .nil (.block (.loop [(55, (.int .i64))] (.seq .nil (.seq (.cond .nil .nil) (.seq (.block (.seq .nil (.seq .nil (.cond (.seq .dead .dead) .nil)))) .nil)))))) (.seq .nil .nil)))))
theorem V63 (sf0p_ : Option Addr) (sf0n_ sf0c_ : Nat) (sf1p_ : Option Addr) (sf1n_ sf1c_ : Nat) (sf2p_ : Option Addr) (sf2n_ sf2c_ : Nat) (sf3p_ : Option Addr) (sf3n_ sf3c_ : Nat) (sf4p_ : Option Addr) (sf4n_ sf4c_ : Nat) (sf5p_ : Option Addr) (sf5n_ sf5c_ : Nat) (table_ : ByteArray) (cf0_ : ByteArray) (cf1p_ : Option Addr) (cf1n_ cf1c_ : Nat) (h : Hp) (R : Ending → Hp → Prop) (H :
 ∀ b_ q_, b_ = h.size → q_ = h.push (.cells #[(.slice sf0p_ sf0n_ sf0c_), (.slice sf1p_ sf1n_ sf1c_), (.slice sf2p_ sf2n_ sf2c_), (.slice sf3p_ sf3n_ sf3c_), (.slice sf4p_ sf4n_ sf4c_), (.slice sf5p_ sf5n_ sf5c_)] 36) →
 ∀ b_1 q_1, b_1 = q_.size → q_1 = q_.push (.cells #[(.string cf0_), (.slice cf1p_ cf1n_ cf1c_)] 48) →
 ∃ Cv_ : Hp → Prop, Cv_ q_1 ∧
 ∃ (x11f0p_ : Option Addr) (x11f0n_ x11f0c_ : Nat) (x11f1p_ : Option Addr) (x11f1n_ x11f1c_ : Nat) (x11f2p_ : Option Addr) (x11f2n_ x11f2c_ : Nat) (x11f3p_ : Option Addr) (x11f3n_ x11f3c_ : Nat) (x11f4p_ : Option Addr) (x11f4n_ x11f4c_ : Nat) (x11f5p_ : Option Addr) (x11f5n_ x11f5c_ : Nat), cellsAt q_1 b_ 0 [(.slice x11f0p_ x11f0n_ x11f0c_), (.slice x11f1p_ x11f1n_ x11f1c_), (.slice x11f2p_ x11f2n_ x11f2c_), (.slice x11f3p_ x11f3n_ x11f3c_), (.slice x11f4p_ x11f4n_ x11f4c_), (.slice x11f5p_ x11f5n_ x11f5c_)] ∧
 CallsH Tryz.prog 45 #[(.agg #[(.slice x11f0p_ x11f0n_ x11f0c_), (.slice x11f1p_ x11f1n_ x11f1c_), (.slice x11f2p_ x11f2n_ x11f2c_), (.slice x11f3p_ x11f3n_ x11f3c_), (.slice x11f4p_ x11f4n_ x11f4c_), (.slice x11f5p_ x11f5n_ x11f5c_)]), (.string table_)] q_1 fun en_ q_2 =>
 ∃ x13_ : Int, en_ = .returned (.int .i64 x13_) ∧
 Cv_ q_2 ∧
 ∃ (x14f0p_ : Option Addr) (x14f0n_ x14f0c_ : Nat) (x14f1p_ : Option Addr) (x14f1n_ x14f1c_ : Nat) (x14f2p_ : Option Addr) (x14f2n_ x14f2c_ : Nat) (x14f3p_ : Option Addr) (x14f3n_ x14f3c_ : Nat) (x14f4p_ : Option Addr) (x14f4n_ x14f4c_ : Nat) (x14f5p_ : Option Addr) (x14f5n_ x14f5c_ : Nat), (∀ h', Cv_ h' → cellsAt h' b_ 0 [(.slice x14f0p_ x14f0n_ x14f0c_), (.slice x14f1p_ x14f1n_ x14f1c_), (.slice x14f2p_ x14f2n_ x14f2c_), (.slice x14f3p_ x14f3n_ x14f3c_), (.slice x14f4p_ x14f4n_ x14f4c_), (.slice x14f5p_ x14f5n_ x14f5c_)]) ∧
 ∃ x16_ : ByteArray, (∀ h', Cv_ h' → cellsAt h' b_1 (0 + 0) [(.string x16_)]) ∧
 CallsH Tryz.prog 62 #[(.agg #[(.slice x14f0p_ x14f0n_ x14f0c_), (.slice x14f1p_ x14f1n_ x14f1c_), (.slice x14f2p_ x14f2n_ x14f2c_), (.slice x14f3p_ x14f3n_ x14f3c_), (.slice x14f4p_ x14f4n_ x14f4c_), (.slice x14f5p_ x14f5n_ x14f5c_)]), (.string x16_)] q_2 fun en_1 q_3 =>
 ∃ x17_ : Int, en_1 = .returned (.int .i64 x17_) ∧
 Cv_ q_3 ∧
 ∃ Jv_ : List Value → Hp → Prop,
 ((((decide (x13_ < (0 : Int))) = true →
 False) ∧
 ((decide (x13_ < (0 : Int))) = false →
 ∃ Jv_1 : List Value → Hp → Prop,
 ((((decide (x17_ < (0 : Int))) = true →
 Jv_1 [(.bool true)] q_3) ∧
 ((decide (x17_ < (0 : Int))) = false →
 ∃ (x26p_ : Option Addr) (x26n_ x26c_ : Nat), cellsAt q_3 b_ (0 + 4) [(.slice x26p_ x26n_ x26c_)] ∧
 ∃ b_2 o_, x26p_ = some ⟨b_2, o_, none⟩ ∧ 0 ≤ x13_ ∧ x13_ < (x26n_ : Int) ∧
 ∃ (x30p_ : Option Addr) (x30n_ x30c_ : Nat), cellsAt q_3 b_2 ((o_ + Int.toNat x13_ * 7) + 2) [(.slice x30p_ x30n_ x30c_)] ∧
 ∃ x32_ : ByteArray, cellsAt q_3 b_1 (0 + 0) [(.string x32_)] ∧
 CallsH Tryz.prog 92 #[(.slice x30p_ x30n_ x30c_), (.string x32_)] q_3 fun en_2 q_4 =>
 ∃ x33_ : Bool, en_2 = .returned (.bool x33_) ∧
 Jv_1 [(.bool (!x33_))] q_4))) ∧
 (∀ (x21_ : Bool) q_5, Jv_1 [(.bool x21_)] q_5 →
 ((x21_ = true →
 False) ∧
 (x21_ = false →
 ∃ (x38p_ : Option Addr) (x38n_ x38c_ : Nat), cellsAt q_5 b_ (0 + 3) [(.slice x38p_ x38n_ x38c_)] ∧
 ∃ b_3 o_1, x38p_ = some ⟨b_3, o_1, none⟩ ∧ 0 ≤ x17_ ∧ x17_ < (x38n_ : Int) ∧
 ∃ (x42p_ : Option Addr) (x42n_ x42c_ : Nat), cellsAt q_5 b_3 ((o_1 + Int.toNat x17_ * 3) + 1) [(.slice x42p_ x42n_ x42c_)] ∧
 ∃ (x45p_ : Option Addr) (x45n_ x45c_ : Nat), cellsAt q_5 b_1 (0 + 1) [(.slice x45p_ x45n_ x45c_)] ∧
 (((decide (((x42n_ : Nat) : Int) ≠ ((x45n_ : Nat) : Int))) = true →
 False) ∧
 ((decide (((x42n_ : Nat) : Int) ≠ ((x45n_ : Nat) : Int))) = false →
 Jv_ [] q_5)))))))) ∧
 (∀  q_6, Jv_ [] q_6 →
 ∃ (x49p_ : Option Addr) (x49n_ x49c_ : Nat), cellsAt q_6 b_ (0 + 3) [(.slice x49p_ x49n_ x49c_)] ∧
 ∃ b_4 o_2, x49p_ = some ⟨b_4, o_2, none⟩ ∧ 0 ≤ x17_ ∧ x17_ < (x49n_ : Int) ∧
 ∃ (x53p_ : Option Addr) (x53n_ x53c_ : Nat), cellsAt q_6 b_4 ((o_2 + Int.toNat x17_ * 3) + 1) [(.slice x53p_ x53n_ x53c_)] ∧
 ∃ (Iv_ : List Value → Hp → Prop) (m_ : List Value → Hp → Nat), Iv_ [(.int .i64 (0 : Int))] q_6 ∧
 (∀ (x55_ : Int) q_7, Iv_ [(.int .i64 x55_)] q_7 →
 (((decide (x55_ < ((x53n_ : Nat) : Int))) = true →
 ∃ b_5 o_3, x53p_ = some ⟨b_5, o_3, none⟩ ∧ 0 ≤ x55_ ∧ x55_ < (x53n_ : Int) ∧
 ∃ x59f0_ : ByteArray, ∃ x59f1_ : Int, cellsAt q_7 b_5 (o_3 + Int.toNat x55_ * 2) [(.string x59f0_), (.int .i64 x59f1_)] ∧
 ∀ b_6 q_8, b_6 = q_7.size → q_8 = q_7.push (.cells (zeros Tryz.prog 89) 89) → (∃ i z, Tryz.prog.info? 89 = some i ∧ i.zero = some z) ∧
 List.length [(Value.string x59f0_), (.int .i64 x59f1_)] = 2 ∧ (∀ c ∈ [(Value.string x59f0_), (.int .i64 x59f1_)], c.oneCell' = true) ∧ wrAt q_8 b_6 0 2 ∧ ∀ q_9, q_9 = setsH q_8 b_6 0 [(.string x59f0_), (.int .i64 x59f1_)] →
 ∃ (x61p_ : Option Addr) (x61n_ x61c_ : Nat), cellsAt q_9 b_1 (0 + 1) [(.slice x61p_ x61n_ x61c_)] ∧
 ∃ b_7 o_4, x61p_ = some ⟨b_7, o_4, none⟩ ∧ 0 ≤ x55_ ∧ x55_ < (x61n_ : Int) ∧
 ∃ x64f0_ : Int, ∃ x64f1_ : Int, cellsAt q_9 b_7 (o_4 + Int.toNat x55_ * 2) [(.int .u64 x64f0_), (.int .u64 x64f1_)] ∧
 ∃ x66_ : Int, cellsAt q_9 b_6 (0 + 1) [(.int .i64 x66_)] ∧
 CallsH Tryz.prog 58 #[(.agg #[(.int .u64 x64f0_), (.int .u64 x64f1_)]), (.int .i64 x66_)] q_9 fun en_3 q_10 =>
 ∃ x67_ : Bool, en_3 = .returned (.bool x67_) ∧
 (((!x67_) = true →
 False) ∧
 ((!x67_) = false →
 ∃ x69_, IntKind.i64.wrap (x55_ + (1 : Int)) = x69_ ∧
 (Iv_ [(.int .i64 x69_)] q_10 ∧ m_ [(.int .i64 x69_)] q_10 < m_ [(.int .i64 x55_)] q_7)))) ∧
 ((decide (x55_ < ((x53n_ : Nat) : Int))) = false →
 R (.returned (.int .i64 (0 : Int))) q_7))))) :
 CallsH Tryz.prog 63 #[(.agg #[(.slice sf0p_ sf0n_ sf0c_), (.slice sf1p_ sf1n_ sf1c_), (.slice sf2p_ sf2n_ sf2c_), (.slice sf3p_ sf3n_ sf3c_), (.slice sf4p_ sf4n_ sf4c_), (.slice sf5p_ sf5n_ sf5c_)]), (.string table_), (.agg #[(.string cf0_), (.slice cf1p_ cf1n_ cf1c_)])] h R := calls_vc fine false Tryz.func63 (ann := A63) (args := [(.agg #[(.slice sf0p_ sf0n_ sf0c_), (.slice sf1p_ sf1n_ sf1c_), (.slice sf2p_ sf2n_ sf2c_), (.slice sf3p_ sf3n_ sf3c_), (.slice sf4p_ sf4n_ sf4c_), (.slice sf5p_ sf5n_ sf5c_)]), (.string table_), (.agg #[(.string cf0_), (.slice cf1p_ cf1n_ cf1c_)])]) (by kernel_rfl) (Eq.mpr (by kernel_rfl) H)
def A66 : Ann := (.seq .nil (.seq (.seq .nil (.cond (.seq .nil .nil) .nil)) (.seq .nil .nil)))
theorem V66 (sp_ : Option Addr) (sn_ sc_ : Nat) (h : Hp) (R : Ending → Hp → Prop) (H :
 ∃ x4_, EqV Tryz.prog 90 (.slice sp_ sn_ sc_) (.slice none 0 0) x4_ ∧
 ((x4_ = true →
 R (.returned (.slice none 0 0)) h) ∧
 (x4_ = false →
 SemH Tryz.prog (Instr.buildSlice 90 0 #[]) h fun v_ q_ =>
 ∃ (x5p_ : Option Addr) (x5n_ x5c_ : Nat), v_ = (.slice x5p_ x5n_ x5c_) ∧
 SemH Tryz.prog (Builtin.append_ #[90, 90] 90 #[(.slice x5p_ x5n_ x5c_), (.slice sp_ sn_ sc_)]) q_ fun v_1 q_1 =>
 ∃ (x7p_ : Option Addr) (x7n_ x7c_ : Nat), v_1 = (.slice x7p_ x7n_ x7c_) ∧
 R (.returned (.slice x7p_ x7n_ x7c_)) q_1))) :
 CallsH Tryz.prog 66 #[(.slice sp_ sn_ sc_)] h R := calls_vc fine false Tryz.func66 (ann := A66) (args := [(.slice sp_ sn_ sc_)]) (by kernel_rfl) (Eq.mpr (by kernel_rfl) H)
def A67 : Ann := (.seq .nil (.seq (.seq .nil (.cond (.seq .nil .nil) .nil)) (.seq .nil .nil)))
theorem V67 (sp_ : Option Addr) (sn_ sc_ : Nat) (h : Hp) (R : Ending → Hp → Prop) (H :
 ∃ x4_, EqV Tryz.prog 70 (.slice sp_ sn_ sc_) (.slice none 0 0) x4_ ∧
 ((x4_ = true →
 R (.returned (.slice none 0 0)) h) ∧
 (x4_ = false →
 SemH Tryz.prog (Instr.buildSlice 70 0 #[]) h fun v_ q_ =>
 ∃ (x5p_ : Option Addr) (x5n_ x5c_ : Nat), v_ = (.slice x5p_ x5n_ x5c_) ∧
 SemH Tryz.prog (Builtin.append_ #[70, 70] 70 #[(.slice x5p_ x5n_ x5c_), (.slice sp_ sn_ sc_)]) q_ fun v_1 q_1 =>
 ∃ (x7p_ : Option Addr) (x7n_ x7c_ : Nat), v_1 = (.slice x7p_ x7n_ x7c_) ∧
 R (.returned (.slice x7p_ x7n_ x7c_)) q_1))) :
 CallsH Tryz.prog 67 #[(.slice sp_ sn_ sc_)] h R := calls_vc fine false Tryz.func67 (ann := A67) (args := [(.slice sp_ sn_ sc_)]) (by kernel_rfl) (Eq.mpr (by kernel_rfl) H)
def A68 : Ann := (.seq .nil (.seq (.seq .nil (.cond (.seq .nil .nil) .nil)) (.seq .nil .nil)))
theorem V68 (sp_ : Option Addr) (sn_ sc_ : Nat) (h : Hp) (R : Ending → Hp → Prop) (H :
 ∃ x4_, EqV Tryz.prog 71 (.slice sp_ sn_ sc_) (.slice none 0 0) x4_ ∧
 ((x4_ = true →
 R (.returned (.slice none 0 0)) h) ∧
 (x4_ = false →
 SemH Tryz.prog (Instr.buildSlice 71 0 #[]) h fun v_ q_ =>
 ∃ (x5p_ : Option Addr) (x5n_ x5c_ : Nat), v_ = (.slice x5p_ x5n_ x5c_) ∧
 SemH Tryz.prog (Builtin.append_ #[71, 71] 71 #[(.slice x5p_ x5n_ x5c_), (.slice sp_ sn_ sc_)]) q_ fun v_1 q_1 =>
 ∃ (x7p_ : Option Addr) (x7n_ x7c_ : Nat), v_1 = (.slice x7p_ x7n_ x7c_) ∧
 R (.returned (.slice x7p_ x7n_ x7c_)) q_1))) :
 CallsH Tryz.prog 68 #[(.slice sp_ sn_ sc_)] h R := calls_vc fine false Tryz.func68 (ann := A68) (args := [(.slice sp_ sn_ sc_)]) (by kernel_rfl) (Eq.mpr (by kernel_rfl) H)
def A69 : Ann := (.seq .nil (.seq (.seq .nil (.cond (.seq .nil .nil) .nil)) (.seq .nil .nil)))
theorem V69 (sp_ : Option Addr) (sn_ sc_ : Nat) (h : Hp) (R : Ending → Hp → Prop) (H :
 ∃ x4_, EqV Tryz.prog 34 (.slice sp_ sn_ sc_) (.slice none 0 0) x4_ ∧
 ((x4_ = true →
 R (.returned (.slice none 0 0)) h) ∧
 (x4_ = false →
 SemH Tryz.prog (Instr.buildSlice 34 0 #[]) h fun v_ q_ =>
 ∃ (x5p_ : Option Addr) (x5n_ x5c_ : Nat), v_ = (.slice x5p_ x5n_ x5c_) ∧
 SemH Tryz.prog (Builtin.append_ #[34, 34] 34 #[(.slice x5p_ x5n_ x5c_), (.slice sp_ sn_ sc_)]) q_ fun v_1 q_1 =>
 ∃ (x7p_ : Option Addr) (x7n_ x7c_ : Nat), v_1 = (.slice x7p_ x7n_ x7c_) ∧
 R (.returned (.slice x7p_ x7n_ x7c_)) q_1))) :
 CallsH Tryz.prog 69 #[(.slice sp_ sn_ sc_)] h R := calls_vc fine false Tryz.func69 (ann := A69) (args := [(.slice sp_ sn_ sc_)]) (by kernel_rfl) (Eq.mpr (by kernel_rfl) H)
def A70 : Ann := (.seq .nil (.seq .nil .nil))
theorem V70 (lp_ : Option Addr) (ln_ lc_ : Nat) (isv_ : Value) (h : Hp) (R : Ending → Hp → Prop) (H :
 CallsH Tryz.prog 93 #[(.slice lp_ ln_ lc_), isv_] h fun en_ q_ =>
 ∃ x7_ : Int, en_ = .returned (.int .i64 x7_) ∧
 R (.returned (.int .i64 x7_)) q_) :
 CallsH Tryz.prog 70 #[(.slice lp_ ln_ lc_), isv_] h R := calls_vc fine false Tryz.func70 (ann := A70) (args := [(.slice lp_ ln_ lc_), isv_]) (by kernel_rfl) (Eq.mpr (by kernel_rfl) H)
def A71 : Ann := (.seq .nil (.seq .nil .nil))
theorem V71 (tf0_ : ByteArray) (tf1p_ : Option Addr) (tf1n_ tf1c_ : Nat) (tf2p_ : Option Addr) (tf2n_ tf2c_ : Nat) (tf3_ : Int) (tf4_ : ByteArray) (tf5p_ : Option Addr) (tf5n_ tf5c_ : Nat) (tf6_ : Bool) (a1_ : Option Addr) (h : Hp) (R : Ending → Hp → Prop) (H :
 ∀ b_ q_, b_ = h.size → q_ = h.push (.cells #[(.string tf0_), (.slice tf1p_ tf1n_ tf1c_), (.slice tf2p_ tf2n_ tf2c_), (.int .i64 tf3_), (.string tf4_), (.slice tf5p_ tf5n_ tf5c_), (.bool tf6_)] 73) →
 ∃ x5_ : ByteArray, cellsAt q_ b_ (0 + 0) [(.string x5_)] ∧
 ∃ b_1 o_, a1_ = some ⟨b_1, o_, none⟩ ∧
 ∃ x6_ : ByteArray, cellsAt q_ b_1 o_ [(.string x6_)] ∧
 R (.returned (.bool (decide (x5_ = x6_)))) q_) :
 CallsH Tryz.prog 71 #[(.agg #[(.string tf0_), (.slice tf1p_ tf1n_ tf1c_), (.slice tf2p_ tf2n_ tf2c_), (.int .i64 tf3_), (.string tf4_), (.slice tf5p_ tf5n_ tf5c_), (.bool tf6_)]), (.pointer a1_)] h R := calls_vc fine false Tryz.func71 (ann := A71) (args := [(.agg #[(.string tf0_), (.slice tf1p_ tf1n_ tf1c_), (.slice tf2p_ tf2n_ tf2c_), (.int .i64 tf3_), (.string tf4_), (.slice tf5p_ tf5n_ tf5c_), (.bool tf6_)]), (.pointer a1_)]) (by kernel_rfl) (Eq.mpr (by kernel_rfl) H)
def A72 : Ann := (.seq .nil (.block (.loop [(3, (.int .i64))] (.seq (.seq .nil (.cond .nil .nil)) (.seq (.block (.seq .yld (.cond .nil .nil))) .nil)))))
theorem V72 (l_ : Nat) (a1_ : Option Addr) (h : Hp) (R : Ending → Hp → Prop) (H :
 ∃ b_ o_, a1_ = some ⟨b_, o_, none⟩ ∧
 ∃ (x4p_ : Option Addr) (x4n_ x4c_ : Nat), cellsAt h b_ o_ [(.slice x4p_ x4n_ x4c_)] ∧
 ∃ x6_, IntKind.i64.wrap (((x4n_ : Nat) : Int) - (1 : Int)) = x6_ ∧
 ∃ (Iv_ : List Value → Hp → Prop) (m_ : List Value → Hp → Nat), Iv_ [(.int .i64 x6_)] h ∧
 (∀ (i_ : Int) q_, Iv_ [(.int .i64 i_)] q_ →
 (((decide ((0 : Int) ≤ i_)) = true →
 ∃ b_1 o_1, a1_ = some ⟨b_1, o_1, none⟩ ∧
 ∃ (x13p_ : Option Addr) (x13n_ x13c_ : Nat), cellsAt q_ b_1 o_1 [(.slice x13p_ x13n_ x13c_)] ∧
 ∃ b_2 o_2, x13p_ = some ⟨b_2, o_2, none⟩ ∧ 0 ≤ i_ ∧ i_ < (x13n_ : Int) ∧
 ∃ x16_ : Value, cellsAt q_ b_2 (o_2 + Int.toNat i_ * 1) [x16_] ∧
 (.func (.yield l_) #[] #[]) = Value.func (.yield l_) #[] #[] ∧
 YieldH Tryz.prog l_ [(.int .i64 i_), x16_] q_ fun en_ q_1 =>
 ∃ go_ : Bool, en_ = .returned (.bool go_) ∧
 (((!go_) = true →
 R (.returned (.tuple #[])) q_1) ∧
 ((!go_) = false →
 ∃ x10_, IntKind.i64.wrap (i_ - (1 : Int)) = x10_ ∧
 (Iv_ [(.int .i64 x10_)] q_1 ∧ m_ [(.int .i64 x10_)] q_1 < m_ [(.int .i64 i_)] q_)))) ∧
 ((decide ((0 : Int) ≤ i_)) = false →
 R (.returned (.tuple #[])) q_)))) :
 CallsH Tryz.prog 72 #[(.func (.yield l_) #[] #[]), (.pointer a1_)] h R := calls_vcI fine false Tryz.func72 (ann := A72) (args := [(.func (.yield l_) #[] #[]), (.pointer a1_)]) (by kernel_rfl) (Eq.mpr (by kernel_rfl) H)
end Go.Vc
