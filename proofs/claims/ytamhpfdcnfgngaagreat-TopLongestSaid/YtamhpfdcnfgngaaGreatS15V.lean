import Derived.Test.YtamhpfdcnfgngaaGreatS15Va
import Derived.Test.YtamhpfdcnfgngaaGreatVcN
import Derived.Test.YtamhpfdcnfgngaaGreatProg
set_option maxRecDepth 10000
namespace Go.Vc
open Go Go.Proofs
set_option maxRecDepth 100000
def A73 : Ann := (.seq .nil (.seq (.seq .nil (.seq .nil (.cond (.seq .nil .nil) .nil))) (.seq .nil .nil)))
theorem V73 (sf0p_ : Option Addr) (sf0n_ sf0c_ : Nat) (sf1p_ : Option Addr) (sf1n_ sf1c_ : Nat) (sf2p_ : Option Addr) (sf2n_ sf2c_ : Nat) (sf3p_ : Option Addr) (sf3n_ sf3c_ : Nat) (sf4p_ : Option Addr) (sf4n_ sf4c_ : Nat) (sf5p_ : Option Addr) (sf5n_ sf5c_ : Nat) (table_ : ByteArray) (ef0p_ : Option Addr) (ef0n_ ef0c_ : Nat) (ef1_ : Int) (ef2_ : ByteArray) (ef3p_ : Option Addr) (ef3n_ ef3c_ : Nat) (h : Hp) (R : Ending → Hp → Prop) (H :
 ∀ b_ q_, b_ = h.size → q_ = h.push (.cells #[(.slice sf0p_ sf0n_ sf0c_), (.slice sf1p_ sf1n_ sf1c_), (.slice sf2p_ sf2n_ sf2c_), (.slice sf3p_ sf3n_ sf3c_), (.slice sf4p_ sf4n_ sf4c_), (.slice sf5p_ sf5n_ sf5c_)] 36) →
 ∀ b_1 q_1, b_1 = q_.size → q_1 = q_.push (.cells #[(.slice ef0p_ ef0n_ ef0c_), (.int .i64 ef1_), (.string ef2_), (.slice ef3p_ ef3n_ ef3c_)] 53) →
 ∃ (x8f0p_ : Option Addr) (x8f0n_ x8f0c_ : Nat) (x8f1p_ : Option Addr) (x8f1n_ x8f1c_ : Nat) (x8f2p_ : Option Addr) (x8f2n_ x8f2c_ : Nat) (x8f3p_ : Option Addr) (x8f3n_ x8f3c_ : Nat) (x8f4p_ : Option Addr) (x8f4n_ x8f4c_ : Nat) (x8f5p_ : Option Addr) (x8f5n_ x8f5c_ : Nat), cellsAt q_1 b_ 0 [(.slice x8f0p_ x8f0n_ x8f0c_), (.slice x8f1p_ x8f1n_ x8f1c_), (.slice x8f2p_ x8f2n_ x8f2c_), (.slice x8f3p_ x8f3n_ x8f3c_), (.slice x8f4p_ x8f4n_ x8f4c_), (.slice x8f5p_ x8f5n_ x8f5c_)] ∧
 ∃ (x10f0p_ : Option Addr) (x10f0n_ x10f0c_ : Nat), ∃ x10f1_ : Int, ∃ x10f2_ : ByteArray, ∃ (x10f3p_ : Option Addr) (x10f3n_ x10f3c_ : Nat), cellsAt q_1 b_1 0 [(.slice x10f0p_ x10f0n_ x10f0c_), (.int .i64 x10f1_), (.string x10f2_), (.slice x10f3p_ x10f3n_ x10f3c_)] ∧
 CallsH Tryz.prog 74 #[(.agg #[(.slice x8f0p_ x8f0n_ x8f0c_), (.slice x8f1p_ x8f1n_ x8f1c_), (.slice x8f2p_ x8f2n_ x8f2c_), (.slice x8f3p_ x8f3n_ x8f3c_), (.slice x8f4p_ x8f4n_ x8f4c_), (.slice x8f5p_ x8f5n_ x8f5c_)]), (.string table_), (.agg #[(.slice x10f0p_ x10f0n_ x10f0c_), (.int .i64 x10f1_), (.string x10f2_), (.slice x10f3p_ x10f3n_ x10f3c_)])] q_1 fun en_ q_2 =>
 ∃ x11_ : Int, en_ = .returned (.int .i64 x11_) ∧
 (((decide (x11_ ≠ (0 : Int))) = true →
 R (.returned (.int .i64 x11_)) q_2) ∧
 ((decide (x11_ ≠ (0 : Int))) = false →
 ∃ (x15f0p_ : Option Addr) (x15f0n_ x15f0c_ : Nat) (x15f1p_ : Option Addr) (x15f1n_ x15f1c_ : Nat) (x15f2p_ : Option Addr) (x15f2n_ x15f2c_ : Nat) (x15f3p_ : Option Addr) (x15f3n_ x15f3c_ : Nat) (x15f4p_ : Option Addr) (x15f4n_ x15f4c_ : Nat) (x15f5p_ : Option Addr) (x15f5n_ x15f5c_ : Nat), cellsAt q_2 b_ 0 [(.slice x15f0p_ x15f0n_ x15f0c_), (.slice x15f1p_ x15f1n_ x15f1c_), (.slice x15f2p_ x15f2n_ x15f2c_), (.slice x15f3p_ x15f3n_ x15f3c_), (.slice x15f4p_ x15f4n_ x15f4c_), (.slice x15f5p_ x15f5n_ x15f5c_)] ∧
 ∃ x18f0_ : ByteArray, ∃ (x18f1p_ : Option Addr) (x18f1n_ x18f1c_ : Nat), cellsAt q_2 b_1 (0 + 2) [(.string x18f0_), (.slice x18f1p_ x18f1n_ x18f1c_)] ∧
 CallsH Tryz.prog 63 #[(.agg #[(.slice x15f0p_ x15f0n_ x15f0c_), (.slice x15f1p_ x15f1n_ x15f1c_), (.slice x15f2p_ x15f2n_ x15f2c_), (.slice x15f3p_ x15f3n_ x15f3c_), (.slice x15f4p_ x15f4n_ x15f4c_), (.slice x15f5p_ x15f5n_ x15f5c_)]), (.string table_), (.agg #[(.string x18f0_), (.slice x18f1p_ x18f1n_ x18f1c_)])] q_2 fun en_1 q_3 =>
 ∃ x19_ : Int, en_1 = .returned (.int .i64 x19_) ∧
 R (.returned (.int .i64 x19_)) q_3))) :
 CallsH Tryz.prog 73 #[(.agg #[(.slice sf0p_ sf0n_ sf0c_), (.slice sf1p_ sf1n_ sf1c_), (.slice sf2p_ sf2n_ sf2c_), (.slice sf3p_ sf3n_ sf3c_), (.slice sf4p_ sf4n_ sf4c_), (.slice sf5p_ sf5n_ sf5c_)]), (.string table_), (.agg #[(.slice ef0p_ ef0n_ ef0c_), (.int .i64 ef1_), (.string ef2_), (.slice ef3p_ ef3n_ ef3c_)])] h R := calls_vc fine false Tryz.func73 (ann := A73) (args := [(.agg #[(.slice sf0p_ sf0n_ sf0c_), (.slice sf1p_ sf1n_ sf1c_), (.slice sf2p_ sf2n_ sf2c_), (.slice sf3p_ sf3n_ sf3c_), (.slice sf4p_ sf4n_ sf4c_), (.slice sf5p_ sf5n_ sf5c_)]), (.string table_), (.agg #[(.slice ef0p_ ef0n_ ef0c_), (.int .i64 ef1_), (.string ef2_), (.slice ef3p_ ef3n_ ef3c_)])]) (by kernel_rfl) (Eq.mpr (by kernel_rfl) H)
def A74 : Ann := (.seq .nil (.seq .nil (.seq (.seq .nil (.cond (.seq .nil .nil) .nil)) (.seq .nil .nil))))
theorem V74 (sf0p_ : Option Addr) (sf0n_ sf0c_ : Nat) (sf1p_ : Option Addr) (sf1n_ sf1c_ : Nat) (sf2p_ : Option Addr) (sf2n_ sf2c_ : Nat) (sf3p_ : Option Addr) (sf3n_ sf3c_ : Nat) (sf4p_ : Option Addr) (sf4n_ sf4c_ : Nat) (sf5p_ : Option Addr) (sf5n_ sf5c_ : Nat) (table_ : ByteArray) (ef0p_ : Option Addr) (ef0n_ ef0c_ : Nat) (ef1_ : Int) (ef2_ : ByteArray) (ef3p_ : Option Addr) (ef3n_ ef3c_ : Nat) (h : Hp) (R : Ending → Hp → Prop) (H :
 ∀ b_ q_, b_ = h.size → q_ = h.push (.cells #[(.slice sf0p_ sf0n_ sf0c_), (.slice sf1p_ sf1n_ sf1c_), (.slice sf2p_ sf2n_ sf2c_), (.slice sf3p_ sf3n_ sf3c_), (.slice sf4p_ sf4n_ sf4c_), (.slice sf5p_ sf5n_ sf5c_)] 36) →
 ∀ b_1 q_1, b_1 = q_.size → q_1 = q_.push (.cells #[(.slice ef0p_ ef0n_ ef0c_), (.int .i64 ef1_), (.string ef2_), (.slice ef3p_ ef3n_ ef3c_)] 53) →
 ∃ (x10f0p_ : Option Addr) (x10f0n_ x10f0c_ : Nat) (x10f1p_ : Option Addr) (x10f1n_ x10f1c_ : Nat) (x10f2p_ : Option Addr) (x10f2n_ x10f2c_ : Nat) (x10f3p_ : Option Addr) (x10f3n_ x10f3c_ : Nat) (x10f4p_ : Option Addr) (x10f4n_ x10f4c_ : Nat) (x10f5p_ : Option Addr) (x10f5n_ x10f5c_ : Nat), cellsAt q_1 b_ 0 [(.slice x10f0p_ x10f0n_ x10f0c_), (.slice x10f1p_ x10f1n_ x10f1c_), (.slice x10f2p_ x10f2n_ x10f2c_), (.slice x10f3p_ x10f3n_ x10f3c_), (.slice x10f4p_ x10f4n_ x10f4c_), (.slice x10f5p_ x10f5n_ x10f5c_)] ∧
 CallsH Tryz.prog 94 #[(.agg #[(.slice x10f0p_ x10f0n_ x10f0c_), (.slice x10f1p_ x10f1n_ x10f1c_), (.slice x10f2p_ x10f2n_ x10f2c_), (.slice x10f3p_ x10f3n_ x10f3c_), (.slice x10f4p_ x10f4n_ x10f4c_), (.slice x10f5p_ x10f5n_ x10f5c_)]), (.string table_)] q_1 fun en_ q_2 =>
 ∃ x12r0f0_ : ByteArray, ∃ (x12r0f1p_ : Option Addr) (x12r0f1n_ x12r0f1c_ : Nat) (x12r0f2p_ : Option Addr) (x12r0f2n_ x12r0f2c_ : Nat), ∃ x12r0f3_ : Int, ∃ x12r0f4_ : ByteArray, ∃ (x12r0f5p_ : Option Addr) (x12r0f5n_ x12r0f5c_ : Nat), ∃ x12r0f6_ : Bool, ∃ (x12r0f7p_ : Option Addr) (x12r0f7n_ x12r0f7c_ : Nat), ∃ x12r0f8_ : Bool, ∃ x12r1_ : Int, en_ = .returned (.tuple #[(.agg #[(.string x12r0f0_), (.slice x12r0f1p_ x12r0f1n_ x12r0f1c_), (.slice x12r0f2p_ x12r0f2n_ x12r0f2c_), (.int .i64 x12r0f3_), (.string x12r0f4_), (.slice x12r0f5p_ x12r0f5n_ x12r0f5c_), (.bool x12r0f6_), (.slice x12r0f7p_ x12r0f7n_ x12r0f7c_), (.bool x12r0f8_)]), (.int .i64 x12r1_)]) ∧
 ∀ b_2 q_3, b_2 = q_2.size → q_3 = q_2.push (.cells (zeros Tryz.prog 195) 195) → (∃ i z, Tryz.prog.info? 195 = some i ∧ i.zero = some z) ∧
 List.length [(Value.string x12r0f0_), (.slice x12r0f1p_ x12r0f1n_ x12r0f1c_), (.slice x12r0f2p_ x12r0f2n_ x12r0f2c_), (.int .i64 x12r0f3_), (.string x12r0f4_), (.slice x12r0f5p_ x12r0f5n_ x12r0f5c_), (.bool x12r0f6_), (.slice x12r0f7p_ x12r0f7n_ x12r0f7c_), (.bool x12r0f8_)] = 9 ∧ (∀ c ∈ [(Value.string x12r0f0_), (.slice x12r0f1p_ x12r0f1n_ x12r0f1c_), (.slice x12r0f2p_ x12r0f2n_ x12r0f2c_), (.int .i64 x12r0f3_), (.string x12r0f4_), (.slice x12r0f5p_ x12r0f5n_ x12r0f5c_), (.bool x12r0f6_), (.slice x12r0f7p_ x12r0f7n_ x12r0f7c_), (.bool x12r0f8_)], c.oneCell' = true) ∧ wrAt q_3 b_2 0 9 ∧ ∀ q_4, q_4 = setsH q_3 b_2 0 [(.string x12r0f0_), (.slice x12r0f1p_ x12r0f1n_ x12r0f1c_), (.slice x12r0f2p_ x12r0f2n_ x12r0f2c_), (.int .i64 x12r0f3_), (.string x12r0f4_), (.slice x12r0f5p_ x12r0f5n_ x12r0f5c_), (.bool x12r0f6_), (.slice x12r0f7p_ x12r0f7n_ x12r0f7c_), (.bool x12r0f8_)] →
 (((decide (x12r1_ ≠ (0 : Int))) = true →
 R (.returned (.int .i64 x12r1_)) q_4) ∧
 ((decide (x12r1_ ≠ (0 : Int))) = false →
 ∃ x18f0_ : ByteArray, ∃ (x18f1p_ : Option Addr) (x18f1n_ x18f1c_ : Nat) (x18f2p_ : Option Addr) (x18f2n_ x18f2c_ : Nat), ∃ x18f3_ : Int, ∃ x18f4_ : ByteArray, ∃ (x18f5p_ : Option Addr) (x18f5n_ x18f5c_ : Nat), ∃ x18f6_ : Bool, ∃ (x18f7p_ : Option Addr) (x18f7n_ x18f7c_ : Nat), ∃ x18f8_ : Bool, cellsAt q_4 b_2 0 [(.string x18f0_), (.slice x18f1p_ x18f1n_ x18f1c_), (.slice x18f2p_ x18f2n_ x18f2c_), (.int .i64 x18f3_), (.string x18f4_), (.slice x18f5p_ x18f5n_ x18f5c_), (.bool x18f6_), (.slice x18f7p_ x18f7n_ x18f7c_), (.bool x18f8_)] ∧
 ∃ (x19f0p_ : Option Addr) (x19f0n_ x19f0c_ : Nat), ∃ x19f1_ : Int, ∃ x19f2_ : ByteArray, ∃ (x19f3p_ : Option Addr) (x19f3n_ x19f3c_ : Nat), cellsAt q_4 b_1 0 [(.slice x19f0p_ x19f0n_ x19f0c_), (.int .i64 x19f1_), (.string x19f2_), (.slice x19f3p_ x19f3n_ x19f3c_)] ∧
 CallsH Tryz.prog 95 #[(.agg #[(.string x18f0_), (.slice x18f1p_ x18f1n_ x18f1c_), (.slice x18f2p_ x18f2n_ x18f2c_), (.int .i64 x18f3_), (.string x18f4_), (.slice x18f5p_ x18f5n_ x18f5c_), (.bool x18f6_), (.slice x18f7p_ x18f7n_ x18f7c_), (.bool x18f8_)]), (.agg #[(.slice x19f0p_ x19f0n_ x19f0c_), (.int .i64 x19f1_), (.string x19f2_), (.slice x19f3p_ x19f3n_ x19f3c_)])] q_4 fun en_1 q_5 =>
 ∃ x20_ : Int, en_1 = .returned (.int .i64 x20_) ∧
 R (.returned (.int .i64 x20_)) q_5))) :
 CallsH Tryz.prog 74 #[(.agg #[(.slice sf0p_ sf0n_ sf0c_), (.slice sf1p_ sf1n_ sf1c_), (.slice sf2p_ sf2n_ sf2c_), (.slice sf3p_ sf3n_ sf3c_), (.slice sf4p_ sf4n_ sf4c_), (.slice sf5p_ sf5n_ sf5c_)]), (.string table_), (.agg #[(.slice ef0p_ ef0n_ ef0c_), (.int .i64 ef1_), (.string ef2_), (.slice ef3p_ ef3n_ ef3c_)])] h R := calls_vc fine false Tryz.func74 (ann := A74) (args := [(.agg #[(.slice sf0p_ sf0n_ sf0c_), (.slice sf1p_ sf1n_ sf1c_), (.slice sf2p_ sf2n_ sf2c_), (.slice sf3p_ sf3n_ sf3c_), (.slice sf4p_ sf4n_ sf4c_), (.slice sf5p_ sf5n_ sf5c_)]), (.string table_), (.agg #[(.slice ef0p_ ef0n_ ef0c_), (.int .i64 ef1_), (.string ef2_), (.slice ef3p_ ef3n_ ef3c_)])]) (by kernel_rfl) (Eq.mpr (by kernel_rfl) H)
def A81 : Ann := (.seq .nil (.cut (.seq (.join 12) (.cond (.seq .nil .nil) .nil)) [] (.seq (.seq .nil (.block (.loop [(16, (.int .i64))] (.seq .nil (.seq (.cond .nil .nil) (.seq (.block (.seq .nil (.seq (.join 5) (.seq (.join 44) (.cond (.seq .nil .nil) .nil))))) .nil)))))) (.seq .nil .nil))))
theorem V81 (text_ : ByteArray) (h : Hp) (R : Ending → Hp → Prop) (H :
 ∃ Jv_ : List Value → Hp → Prop,
 (∃ B_ : Bool, ((((decide (text_ = (⟨#[]⟩ : ByteArray))) = true →
 h = h ∧ B_ = true) ∧
 ((decide (text_ = (⟨#[]⟩ : ByteArray))) = false →
 h = h ∧ B_ = (decide ((32 : Int) < (ByteArray.size text_ : Int)))))) ∧
 ((B_ = true →
 R (.returned (.bool false)) h) ∧
 (B_ = false →
 Jv_ [] h))) ∧
 (∀  q_, Jv_ [] q_ →
 SemH Tryz.prog (convert 9 199 (.string text_)) q_ fun v_ q_1 =>
 ∃ (x14p_ : Option Addr) (x14n_ x14c_ : Nat), v_ = (.slice x14p_ x14n_ x14c_) ∧
 ∃ (Iv_ : List Value → Hp → Prop) (m_ : List Value → Hp → Nat), Iv_ [(.int .i64 (0 : Int))] q_1 ∧
 (∀ (x16_ : Int) q_2, Iv_ [(.int .i64 x16_)] q_2 →
 (((decide (x16_ < ((x14n_ : Nat) : Int))) = true →
 ∃ b_ o_, x14p_ = some ⟨b_, o_, none⟩ ∧ 0 ≤ x16_ ∧ x16_ < (x14n_ : Int) ∧
 ∃ x20_ : Int, cellsAt q_2 b_ (o_ + Int.toNat x16_ * 1) [(.int .u8 x20_)] ∧
 ∃ B_1 : Bool, ((((decide ((97 : Int) ≤ x20_)) = true →
 q_2 = q_2 ∧ B_1 = (decide (x20_ ≤ (122 : Int)))) ∧
 ((decide ((97 : Int) ≤ x20_)) = false →
 q_2 = q_2 ∧ B_1 = false))) ∧
 ∃ B_2 : Bool, ((((!B_1) = true →
 (((decide (x16_ = (0 : Int))) = true →
 q_2 = q_2 ∧ B_2 = true) ∧
 ((decide (x16_ = (0 : Int))) = false →
 (((decide (x20_ ≠ (95 : Int))) = true →
 (((decide (x20_ < (48 : Int))) = true →
 q_2 = q_2 ∧ B_2 = true) ∧
 ((decide (x20_ < (48 : Int))) = false →
 q_2 = q_2 ∧ B_2 = (decide ((57 : Int) < x20_))))) ∧
 ((decide (x20_ ≠ (95 : Int))) = false →
 q_2 = q_2 ∧ B_2 = false))))) ∧
 ((!B_1) = false →
 q_2 = q_2 ∧ B_2 = false))) ∧
 ((B_2 = true →
 R (.returned (.bool false)) q_2) ∧
 (B_2 = false →
 ∃ x45_, IntKind.i64.wrap (x16_ + (1 : Int)) = x45_ ∧
 (Iv_ [(.int .i64 x45_)] q_2 ∧ m_ [(.int .i64 x45_)] q_2 < m_ [(.int .i64 x16_)] q_2)))) ∧
 ((decide (x16_ < ((x14n_ : Nat) : Int))) = false →
 ByteArray.size (⟨#[32]⟩ : ByteArray) + ByteArray.size text_ ≤ 9223372036854775807 ∧ ∃ x47_, (⟨#[32]⟩ : ByteArray) ++ text_ = x47_ ∧
 ByteArray.size x47_ + ByteArray.size (⟨#[32]⟩ : ByteArray) ≤ 9223372036854775807 ∧ ∃ x48_, x47_ ++ (⟨#[32]⟩ : ByteArray) = x48_ ∧
 CallsH Tryz.prog 97 #[(.string (⟨#[32, 97, 99, 99, 101, 112, 116, 32, 97, 99, 116, 105, 111, 110, 32, 97, 100, 100, 32, 97, 103, 97, 105, 110, 32, 97, 112, 112, 108, 121, 32, 99, 97, 110, 32, 99, 111, 110, 116, 114, 111, 108, 32, 100, 101, 102, 97, 117, 108, 116, 32, 100, 114, 111, 112, 32, 101, 108, 115, 101, 32, 101, 120, 97, 99, 116, 32, 101, 120, 105, 116, 32, 102, 105, 120, 101, 100, 32, 104, 101, 97, 100, 101, 114, 32, 105, 102, 32, 107, 101, 121, 32, 109, 101, 116, 97, 32, 111, 110, 32, 112, 114, 101, 102, 105, 120, 32, 114, 97, 110, 103, 101, 32, 114, 101, 106, 101, 99, 116, 32, 114, 101, 109, 111, 118, 101, 32, 115, 105, 122, 101, 32, 115, 116, 97, 116, 101, 32, 115, 117, 109, 32, 116, 97, 98, 108, 101, 32, 116, 97, 107, 101, 32, 116, 101, 114, 110, 97, 114, 121, 32, 118, 97, 108, 105, 100, 32]⟩ : ByteArray)), (.string x48_)] q_2 fun en_ q_3 =>
 ∃ x49_ : Bool, en_ = .returned (.bool x49_) ∧
 R (.returned (.bool (!x49_))) q_3))))) :
 CallsH Tryz.prog 81 #[(.string text_)] h R := calls_vc fine false Tryz.func81 (ann := A81) (args := [(.string text_)]) (by kernel_rfl) (Eq.mpr (by kernel_rfl) H)
def A84 : Ann := (.seq .nil (.seq .nil .nil))
theorem V84 (lp_ : Option Addr) (ln_ lc_ : Nat) (name_ : ByteArray) (h : Hp) (R : Ending → Hp → Prop) (H :
 ∀ b_ q_, b_ = h.size → q_ = h.push (.cells #[(.string name_)] 9) →
 CallsH Tryz.prog 99 #[(.slice lp_ ln_ lc_), (.func (.func 100) #[] #[(.pointer (some ⟨b_, 0, none⟩))])] q_ fun en_ q_1 =>
 ∃ x7_ : Int, en_ = .returned (.int .i64 x7_) ∧
 R (.returned (.int .i64 x7_)) q_1) :
 CallsH Tryz.prog 84 #[(.slice lp_ ln_ lc_), (.string name_)] h R := calls_vc fine false Tryz.func84 (ann := A84) (args := [(.slice lp_ ln_ lc_), (.string name_)]) (by kernel_rfl) (Eq.mpr (by kernel_rfl) H)
def A87 : Ann := (.seq .nil (.seq .nil .nil))
theorem V87 (kind_ : Int) (a1_ : Option Addr) (h : Hp) (R : Ending → Hp → Prop) (H :
 ∀ b_ q_, b_ = h.size → q_ = h.push (.cells #[(.int .i64 kind_)] 3) →
 ∃ b_1 o_, a1_ = some ⟨b_1, o_, none⟩ ∧
 ∃ (x5p_ : Option Addr) (x5n_ x5c_ : Nat), cellsAt q_ b_1 (o_ + 1) [(.slice x5p_ x5n_ x5c_)] ∧
 CallsH Tryz.prog 88 #[(.slice x5p_ x5n_ x5c_), (.func (.func 89) #[] #[(.pointer (some ⟨b_, 0, none⟩))])] q_ fun en_ q_1 =>
 ∃ x7_ : Bool, en_ = .returned (.bool x7_) ∧
 R (.returned (.bool x7_)) q_1) :
 CallsH Tryz.prog 87 #[(.int .i64 kind_), (.pointer a1_)] h R := calls_vc fine false Tryz.func87 (ann := A87) (args := [(.int .i64 kind_), (.pointer a1_)]) (by kernel_rfl) (Eq.mpr (by kernel_rfl) H)
def A88 : Ann := (.seq .nil (.seq .nil .nil))
theorem V88 (sp_ : Option Addr) (sn_ sc_ : Nat) (f_ : Value) (h : Hp) (R : Ending → Hp → Prop) (H :
 CallsH Tryz.prog 103 #[(.slice sp_ sn_ sc_), f_] h fun en_ q_ =>
 ∃ x7_ : Int, en_ = .returned (.int .i64 x7_) ∧
 R (.returned (.bool (decide ((0 : Int) ≤ x7_)))) q_) :
 CallsH Tryz.prog 88 #[(.slice sp_ sn_ sc_), f_] h R := calls_vc fine false Tryz.func88 (ann := A88) (args := [(.slice sp_ sn_ sc_), f_]) (by kernel_rfl) (Eq.mpr (by kernel_rfl) H)
def A89 : Ann := (.seq .nil (.seq .nil .nil))
theorem V89 (kf0_ : ByteArray) (kf1_ : ByteArray) (kf2_ : Int) (a1_ : Option Addr) (h : Hp) (R : Ending → Hp → Prop) (H :
 ∀ b_ q_, b_ = h.size → q_ = h.push (.cells #[(.string kf0_), (.string kf1_), (.int .i64 kf2_)] 94) →
 ∃ x5_ : Int, cellsAt q_ b_ (0 + 2) [(.int .i64 x5_)] ∧
 ∃ b_1 o_, a1_ = some ⟨b_1, o_, none⟩ ∧
 ∃ x6_ : Int, cellsAt q_ b_1 o_ [(.int .i64 x6_)] ∧
 R (.returned (.bool (decide (x5_ = x6_)))) q_) :
 CallsH Tryz.prog 89 #[(.agg #[(.string kf0_), (.string kf1_), (.int .i64 kf2_)]), (.pointer a1_)] h R := calls_vc fine false Tryz.func89 (ann := A89) (args := [(.agg #[(.string kf0_), (.string kf1_), (.int .i64 kf2_)]), (.pointer a1_)]) (by kernel_rfl) (Eq.mpr (by kernel_rfl) H)
def A90 : Ann := (.seq .nil (.seq .nil .nil))
theorem V90 (lp_ : Option Addr) (ln_ lc_ : Nat) (isv_ : Value) (h : Hp) (R : Ending → Hp → Prop) (H :
 CallsH Tryz.prog 104 #[(.slice lp_ ln_ lc_), isv_] h fun en_ q_ =>
 ∃ x7_ : Int, en_ = .returned (.int .i64 x7_) ∧
 R (.returned (.int .i64 x7_)) q_) :
 CallsH Tryz.prog 90 #[(.slice lp_ ln_ lc_), isv_] h R := calls_vc fine false Tryz.func90 (ann := A90) (args := [(.slice lp_ ln_ lc_), isv_]) (by kernel_rfl) (Eq.mpr (by kernel_rfl) H)
def A91 : Ann := (.seq .nil (.seq .nil .nil))
theorem V91 (af0_ : ByteArray) (af1p_ : Option Addr) (af1n_ af1c_ : Nat) (af2p_ : Option Addr) (af2n_ af2c_ : Nat) (a1_ : Option Addr) (h : Hp) (R : Ending → Hp → Prop) (H :
 ∀ b_ q_, b_ = h.size → q_ = h.push (.cells #[(.string af0_), (.slice af1p_ af1n_ af1c_), (.slice af2p_ af2n_ af2c_)] 92) →
 ∃ x5_ : ByteArray, cellsAt q_ b_ (0 + 0) [(.string x5_)] ∧
 ∃ b_1 o_, a1_ = some ⟨b_1, o_, none⟩ ∧
 ∃ x6_ : ByteArray, cellsAt q_ b_1 o_ [(.string x6_)] ∧
 R (.returned (.bool (decide (x5_ = x6_)))) q_) :
 CallsH Tryz.prog 91 #[(.agg #[(.string af0_), (.slice af1p_ af1n_ af1c_), (.slice af2p_ af2n_ af2c_)]), (.pointer a1_)] h R := calls_vc fine false Tryz.func91 (ann := A91) (args := [(.agg #[(.string af0_), (.slice af1p_ af1n_ af1c_), (.slice af2p_ af2n_ af2c_)]), (.pointer a1_)]) (by kernel_rfl) (Eq.mpr (by kernel_rfl) H)
def A92 : Ann := (.seq .nil (.seq .nil .nil))
theorem V92 (sp_ : Option Addr) (sn_ sc_ : Nat) (v_ : ByteArray) (h : Hp) (R : Ending → Hp → Prop) (H :
 CallsH Tryz.prog 105 #[(.slice sp_ sn_ sc_), (.string v_)] h fun en_ q_ =>
 ∃ x7_ : Int, en_ = .returned (.int .i64 x7_) ∧
 R (.returned (.bool (decide ((0 : Int) ≤ x7_)))) q_) :
 CallsH Tryz.prog 92 #[(.slice sp_ sn_ sc_), (.string v_)] h R := calls_vc fine false Tryz.func92 (ann := A92) (args := [(.slice sp_ sn_ sc_), (.string v_)]) (by kernel_rfl) (Eq.mpr (by kernel_rfl) H)
def A93 : Ann := (.seq .nil (.seq (.seq .nil (.block (.loop [(8, (.int .i64))] (.seq .nil (.seq (.cond .nil .nil) (.seq (.block (.seq .nil (.seq .nil (.cond (.seq .nil .nil) .nil)))) .nil)))))) (.seq .nil .nil)))
theorem V93 (sp_ : Option Addr) (sn_ sc_ : Nat) (f_ : Value) (h : Hp) (R : Ending → Hp → Prop) (H :
 ∃ (Iv_ : List Value → Hp → Prop) (m_ : List Value → Hp → Nat), Iv_ [(.int .i64 (0 : Int))] h ∧
 (∀ (x8_ : Int) q_, Iv_ [(.int .i64 x8_)] q_ →
 (((decide (x8_ < ((sn_ : Nat) : Int))) = true →
 ∃ b_ o_, sp_ = some ⟨b_, o_, none⟩ ∧ 0 ≤ x8_ ∧ x8_ < (sn_ : Int) ∧
 ∃ x15f0_ : ByteArray, ∃ (x15f1p_ : Option Addr) (x15f1n_ x15f1c_ : Nat) (x15f2p_ : Option Addr) (x15f2n_ x15f2c_ : Nat), ∃ x15f3_ : Int, ∃ x15f4_ : ByteArray, ∃ (x15f5p_ : Option Addr) (x15f5n_ x15f5c_ : Nat), ∃ x15f6_ : Bool, cellsAt q_ b_ (o_ + Int.toNat x8_ * 7) [(.string x15f0_), (.slice x15f1p_ x15f1n_ x15f1c_), (.slice x15f2p_ x15f2n_ x15f2c_), (.int .i64 x15f3_), (.string x15f4_), (.slice x15f5p_ x15f5n_ x15f5c_), (.bool x15f6_)] ∧
 ∃ fn_ fst_ cap_, f_ = Value.func (.func fn_) fst_ cap_ ∧ bodied Tryz.prog fn_ = true ∧
 CallsH Tryz.prog fn_ (fst_.toList ++ [(Value.agg #[(.string x15f0_), (.slice x15f1p_ x15f1n_ x15f1c_), (.slice x15f2p_ x15f2n_ x15f2c_), (.int .i64 x15f3_), (.string x15f4_), (.slice x15f5p_ x15f5n_ x15f5c_), (.bool x15f6_)])] ++ cap_.toList).toArray q_ fun en_ q_1 =>
 ∃ x16_ : Bool, en_ = .returned (.bool x16_) ∧
 ((x16_ = true →
 R (.returned (.int .i64 x8_)) q_1) ∧
 (x16_ = false →
 ∃ x18_, IntKind.i64.wrap (x8_ + (1 : Int)) = x18_ ∧
 (Iv_ [(.int .i64 x18_)] q_1 ∧ m_ [(.int .i64 x18_)] q_1 < m_ [(.int .i64 x8_)] q_)))) ∧
 ((decide (x8_ < ((sn_ : Nat) : Int))) = false →
 R (.returned (.int .i64 (-1 : Int))) q_)))) :
 CallsH Tryz.prog 93 #[(.slice sp_ sn_ sc_), f_] h R := calls_vc fine false Tryz.func93 (ann := A93) (args := [(.slice sp_ sn_ sc_), f_]) (by kernel_rfl) (Eq.mpr (by kernel_rfl) H)
def A94 : Ann := (.seq .nil (.seq (.seq .nil (.seq .nil (.cond (.seq .dead .dead) .nil))) (.seq .nil (.seq (.seq .nil (.cond (.seq .dead .dead) .nil)) (.cut (.orders 5 [[0, 1, 2, 3, 4, 5, 6], [0, 1, 5, 2, 3, 4, 6]] [0, 1]) [(11, .ptr)] (.seq .nil (.seq (.seq .nil (.block (.loop [(49, (.int .i64))] (.seq .nil (.seq (.cond .nil .nil) (.seq (.block (.seq .nil (.cut (.orders 8 [[0, 1, 2, 3, 4, 5, 6, 7, 8, 9], [0, 1, 2, 3, 8, 4, 5, 6, 7, 9], [0, 1, 2, 3, 4, 5, 6, 8, 7, 9]] [3, 6]) [(16, .ptr)] (.seq (.drawLast [5]) .nil)))) .nil)))))) (.seq .nil .nil))))))))
theorem V94 (sf0p_ : Option Addr) (sf0n_ sf0c_ : Nat) (sf1p_ : Option Addr) (sf1n_ sf1c_ : Nat) (sf2p_ : Option Addr) (sf2n_ sf2c_ : Nat) (sf3p_ : Option Addr) (sf3n_ sf3c_ : Nat) (sf4p_ : Option Addr) (sf4n_ sf4c_ : Nat) (sf5p_ : Option Addr) (sf5n_ sf5c_ : Nat) (name_ : ByteArray) (h : Hp) (R : Ending → Hp → Prop) (H :
 ∀ b_ q_, b_ = h.size → q_ = h.push (.cells #[(.slice sf0p_ sf0n_ sf0c_), (.slice sf1p_ sf1n_ sf1c_), (.slice sf2p_ sf2n_ sf2c_), (.slice sf3p_ sf3n_ sf3c_), (.slice sf4p_ sf4n_ sf4c_), (.slice sf5p_ sf5n_ sf5c_)] 36) →
 ∀ b_1 q_1, b_1 = q_.size → q_1 = q_.push (.cells (zeros Tryz.prog 195) 195) → (∃ i z, Tryz.prog.info? 195 = some i ∧ i.zero = some z) ∧
 ∃ (x18f0p_ : Option Addr) (x18f0n_ x18f0c_ : Nat) (x18f1p_ : Option Addr) (x18f1n_ x18f1c_ : Nat) (x18f2p_ : Option Addr) (x18f2n_ x18f2c_ : Nat) (x18f3p_ : Option Addr) (x18f3n_ x18f3c_ : Nat) (x18f4p_ : Option Addr) (x18f4n_ x18f4c_ : Nat) (x18f5p_ : Option Addr) (x18f5n_ x18f5c_ : Nat), cellsAt q_1 b_ 0 [(.slice x18f0p_ x18f0n_ x18f0c_), (.slice x18f1p_ x18f1n_ x18f1c_), (.slice x18f2p_ x18f2n_ x18f2c_), (.slice x18f3p_ x18f3n_ x18f3c_), (.slice x18f4p_ x18f4n_ x18f4c_), (.slice x18f5p_ x18f5n_ x18f5c_)] ∧
 CallsH Tryz.prog 13 #[(.agg #[(.slice x18f0p_ x18f0n_ x18f0c_), (.slice x18f1p_ x18f1n_ x18f1c_), (.slice x18f2p_ x18f2n_ x18f2c_), (.slice x18f3p_ x18f3n_ x18f3c_), (.slice x18f4p_ x18f4n_ x18f4c_), (.slice x18f5p_ x18f5n_ x18f5c_)])] q_1 fun en_ q_2 =>
 ∃ x19r0_ : Int, ∃ x19r1_ : ByteArray, en_ = .returned (.tuple #[(.int .i64 x19r0_), (.string x19r1_)]) ∧
 (((decide (x19r0_ ≠ (0 : Int))) = true →
 False) ∧
 ((decide (x19r0_ ≠ (0 : Int))) = false →
 ∃ (x26f0p_ : Option Addr) (x26f0n_ x26f0c_ : Nat) (x26f1p_ : Option Addr) (x26f1n_ x26f1c_ : Nat) (x26f2p_ : Option Addr) (x26f2n_ x26f2c_ : Nat) (x26f3p_ : Option Addr) (x26f3n_ x26f3c_ : Nat) (x26f4p_ : Option Addr) (x26f4n_ x26f4c_ : Nat) (x26f5p_ : Option Addr) (x26f5n_ x26f5c_ : Nat), cellsAt q_2 b_ 0 [(.slice x26f0p_ x26f0n_ x26f0c_), (.slice x26f1p_ x26f1n_ x26f1c_), (.slice x26f2p_ x26f2n_ x26f2c_), (.slice x26f3p_ x26f3n_ x26f3c_), (.slice x26f4p_ x26f4n_ x26f4c_), (.slice x26f5p_ x26f5n_ x26f5c_)] ∧
 CallsH Tryz.prog 47 #[(.agg #[(.slice x26f0p_ x26f0n_ x26f0c_), (.slice x26f1p_ x26f1n_ x26f1c_), (.slice x26f2p_ x26f2n_ x26f2c_), (.slice x26f3p_ x26f3n_ x26f3c_), (.slice x26f4p_ x26f4n_ x26f4c_), (.slice x26f5p_ x26f5n_ x26f5c_)]), (.string name_)] q_2 fun en_1 q_3 =>
 ∃ x28r0f0_ : ByteArray, ∃ (x28r0f1p_ : Option Addr) (x28r0f1n_ x28r0f1c_ : Nat) (x28r0f2p_ : Option Addr) (x28r0f2n_ x28r0f2c_ : Nat), ∃ x28r0f3_ : Int, ∃ x28r0f4_ : ByteArray, ∃ (x28r0f5p_ : Option Addr) (x28r0f5n_ x28r0f5c_ : Nat), ∃ x28r0f6_ : Bool, ∃ x28r1_ : Int, ∃ x28r2_ : Bool, en_1 = .returned (.tuple #[(.agg #[(.string x28r0f0_), (.slice x28r0f1p_ x28r0f1n_ x28r0f1c_), (.slice x28r0f2p_ x28r0f2n_ x28r0f2c_), (.int .i64 x28r0f3_), (.string x28r0f4_), (.slice x28r0f5p_ x28r0f5n_ x28r0f5c_), (.bool x28r0f6_)]), (.int .i64 x28r1_), (.bool x28r2_)]) ∧
 ∀ b_2 q_4, b_2 = q_3.size → q_4 = q_3.push (.cells (zeros Tryz.prog 73) 73) → (∃ i z, Tryz.prog.info? 73 = some i ∧ i.zero = some z) ∧
 List.length [(Value.string x28r0f0_), (.slice x28r0f1p_ x28r0f1n_ x28r0f1c_), (.slice x28r0f2p_ x28r0f2n_ x28r0f2c_), (.int .i64 x28r0f3_), (.string x28r0f4_), (.slice x28r0f5p_ x28r0f5n_ x28r0f5c_), (.bool x28r0f6_)] = 7 ∧ (∀ c ∈ [(Value.string x28r0f0_), (.slice x28r0f1p_ x28r0f1n_ x28r0f1c_), (.slice x28r0f2p_ x28r0f2n_ x28r0f2c_), (.int .i64 x28r0f3_), (.string x28r0f4_), (.slice x28r0f5p_ x28r0f5n_ x28r0f5c_), (.bool x28r0f6_)], c.oneCell' = true) ∧ wrAt q_4 b_2 0 7 ∧ ∀ q_5, q_5 = setsH q_4 b_2 0 [(.string x28r0f0_), (.slice x28r0f1p_ x28r0f1n_ x28r0f1c_), (.slice x28r0f2p_ x28r0f2n_ x28r0f2c_), (.int .i64 x28r0f3_), (.string x28r0f4_), (.slice x28r0f5p_ x28r0f5n_ x28r0f5c_), (.bool x28r0f6_)] →
 (((!x28r2_) = true →
 False) ∧
 ((!x28r2_) = false →
 ∃ Jv_ : List Value → Hp → Prop,
 ((∃ Cv_ : Hp → Prop, Cv_ q_5 ∧
 ∃ x35f0_ : ByteArray, ∃ (x35f1p_ : Option Addr) (x35f1n_ x35f1c_ : Nat) (x35f2p_ : Option Addr) (x35f2n_ x35f2c_ : Nat), ∃ x35f3_ : Int, ∃ x35f4_ : ByteArray, ∃ (x35f5p_ : Option Addr) (x35f5n_ x35f5c_ : Nat), ∃ x35f6_ : Bool, (∀ h', Cv_ h' → cellsAt h' b_2 0 [(.string x35f0_), (.slice x35f1p_ x35f1n_ x35f1c_), (.slice x35f2p_ x35f2n_ x35f2c_), (.int .i64 x35f3_), (.string x35f4_), (.slice x35f5p_ x35f5n_ x35f5c_), (.bool x35f6_)]) ∧
 ∃ x36f0_ : ByteArray, ∃ (x36f1p_ : Option Addr) (x36f1n_ x36f1c_ : Nat) (x36f2p_ : Option Addr) (x36f2n_ x36f2c_ : Nat), ∃ x36f3_ : Int, ∃ x36f4_ : ByteArray, ∃ (x36f5p_ : Option Addr) (x36f5n_ x36f5c_ : Nat), ∃ x36f6_ : Bool, (∀ h', Cv_ h' → cellsAt h' b_2 0 [(.string x36f0_), (.slice x36f1p_ x36f1n_ x36f1c_), (.slice x36f2p_ x36f2n_ x36f2c_), (.int .i64 x36f3_), (.string x36f4_), (.slice x36f5p_ x36f5n_ x36f5c_), (.bool x36f6_)]) ∧
 CallsH Tryz.prog 61 #[(.agg #[(.string x36f0_), (.slice x36f1p_ x36f1n_ x36f1c_), (.slice x36f2p_ x36f2n_ x36f2c_), (.int .i64 x36f3_), (.string x36f4_), (.slice x36f5p_ x36f5n_ x36f5c_), (.bool x36f6_)])] q_5 fun en_2 q_6 =>
 ∃ x37_ : Int, en_2 = .returned (.int .i64 x37_) ∧
 Cv_ q_6 ∧
 ∀ b_3 q_7, b_3 = q_6.size → q_7 = q_6.push (.cells (zeros Tryz.prog 195) 195) → (∃ i z, Tryz.prog.info? 195 = some i ∧ i.zero = some z) ∧
 Cv_ q_7 ∧
 List.length [(Value.string x35f0_), (.slice x35f1p_ x35f1n_ x35f1c_), (.slice x35f2p_ x35f2n_ x35f2c_), (.int .i64 x35f3_), (.string x35f4_), (.slice x35f5p_ x35f5n_ x35f5c_), (.bool x35f6_), (.slice none 0 0), (.bool (decide (x37_ = (3 : Int))))] = 9 ∧ (∀ c ∈ [(Value.string x35f0_), (.slice x35f1p_ x35f1n_ x35f1c_), (.slice x35f2p_ x35f2n_ x35f2c_), (.int .i64 x35f3_), (.string x35f4_), (.slice x35f5p_ x35f5n_ x35f5c_), (.bool x35f6_), (.slice none 0 0), (.bool (decide (x37_ = (3 : Int))))], c.oneCell' = true) ∧ wrAt q_7 b_3 0 9 ∧ ∀ q_8, q_8 = setsH q_7 b_3 0 [(.string x35f0_), (.slice x35f1p_ x35f1n_ x35f1c_), (.slice x35f2p_ x35f2n_ x35f2c_), (.int .i64 x35f3_), (.string x35f4_), (.slice x35f5p_ x35f5n_ x35f5c_), (.bool x35f6_), (.slice none 0 0), (.bool (decide (x37_ = (3 : Int))))] →
 Cv_ q_8 ∧
 Jv_ [(.pointer (some ⟨b_3, 0, none⟩))] q_8) ∧
 (∃ Cv_1 : Hp → Prop, Cv_1 q_5 ∧
 ∃ x35f0_1 : ByteArray, ∃ (x35f1p_1 : Option Addr) (x35f1n_1 x35f1c_1 : Nat) (x35f2p_1 : Option Addr) (x35f2n_1 x35f2c_1 : Nat), ∃ x35f3_1 : Int, ∃ x35f4_1 : ByteArray, ∃ (x35f5p_1 : Option Addr) (x35f5n_1 x35f5c_1 : Nat), ∃ x35f6_1 : Bool, (∀ h', Cv_1 h' → cellsAt h' b_2 0 [(.string x35f0_1), (.slice x35f1p_1 x35f1n_1 x35f1c_1), (.slice x35f2p_1 x35f2n_1 x35f2c_1), (.int .i64 x35f3_1), (.string x35f4_1), (.slice x35f5p_1 x35f5n_1 x35f5c_1), (.bool x35f6_1)]) ∧
 ∃ x36f0_1 : ByteArray, ∃ (x36f1p_1 : Option Addr) (x36f1n_1 x36f1c_1 : Nat) (x36f2p_1 : Option Addr) (x36f2n_1 x36f2c_1 : Nat), ∃ x36f3_1 : Int, ∃ x36f4_1 : ByteArray, ∃ (x36f5p_1 : Option Addr) (x36f5n_1 x36f5c_1 : Nat), ∃ x36f6_1 : Bool, (∀ h', Cv_1 h' → cellsAt h' b_2 0 [(.string x36f0_1), (.slice x36f1p_1 x36f1n_1 x36f1c_1), (.slice x36f2p_1 x36f2n_1 x36f2c_1), (.int .i64 x36f3_1), (.string x36f4_1), (.slice x36f5p_1 x36f5n_1 x36f5c_1), (.bool x36f6_1)]) ∧
 ∀ b_4 q_9, b_4 = q_5.size → q_9 = q_5.push (.cells (zeros Tryz.prog 195) 195) → (∃ i z, Tryz.prog.info? 195 = some i ∧ i.zero = some z) ∧
 Cv_1 q_9 ∧
 CallsH Tryz.prog 61 #[(.agg #[(.string x36f0_1), (.slice x36f1p_1 x36f1n_1 x36f1c_1), (.slice x36f2p_1 x36f2n_1 x36f2c_1), (.int .i64 x36f3_1), (.string x36f4_1), (.slice x36f5p_1 x36f5n_1 x36f5c_1), (.bool x36f6_1)])] q_9 fun en_3 q_10 =>
 ∃ x37_1 : Int, en_3 = .returned (.int .i64 x37_1) ∧
 Cv_1 q_10 ∧
 List.length [(Value.string x35f0_1), (.slice x35f1p_1 x35f1n_1 x35f1c_1), (.slice x35f2p_1 x35f2n_1 x35f2c_1), (.int .i64 x35f3_1), (.string x35f4_1), (.slice x35f5p_1 x35f5n_1 x35f5c_1), (.bool x35f6_1), (.slice none 0 0), (.bool (decide (x37_1 = (3 : Int))))] = 9 ∧ (∀ c ∈ [(Value.string x35f0_1), (.slice x35f1p_1 x35f1n_1 x35f1c_1), (.slice x35f2p_1 x35f2n_1 x35f2c_1), (.int .i64 x35f3_1), (.string x35f4_1), (.slice x35f5p_1 x35f5n_1 x35f5c_1), (.bool x35f6_1), (.slice none 0 0), (.bool (decide (x37_1 = (3 : Int))))], c.oneCell' = true) ∧ wrAt q_10 b_4 0 9 ∧ ∀ q_11, q_11 = setsH q_10 b_4 0 [(.string x35f0_1), (.slice x35f1p_1 x35f1n_1 x35f1c_1), (.slice x35f2p_1 x35f2n_1 x35f2c_1), (.int .i64 x35f3_1), (.string x35f4_1), (.slice x35f5p_1 x35f5n_1 x35f5c_1), (.bool x35f6_1), (.slice none 0 0), (.bool (decide (x37_1 = (3 : Int))))] →
 Cv_1 q_11 ∧
 Jv_ [(.pointer (some ⟨b_4, 0, none⟩))] q_11)) ∧
 (∀ (out_ : Option Addr) q_12, Jv_ [(.pointer out_)] q_12 →
 ∃ (x41f0p_ : Option Addr) (x41f0n_ x41f0c_ : Nat) (x41f1p_ : Option Addr) (x41f1n_ x41f1c_ : Nat) (x41f2p_ : Option Addr) (x41f2n_ x41f2c_ : Nat) (x41f3p_ : Option Addr) (x41f3n_ x41f3c_ : Nat) (x41f4p_ : Option Addr) (x41f4n_ x41f4c_ : Nat) (x41f5p_ : Option Addr) (x41f5n_ x41f5c_ : Nat), cellsAt q_12 b_ 0 [(.slice x41f0p_ x41f0n_ x41f0c_), (.slice x41f1p_ x41f1n_ x41f1c_), (.slice x41f2p_ x41f2n_ x41f2c_), (.slice x41f3p_ x41f3n_ x41f3c_), (.slice x41f4p_ x41f4n_ x41f4c_), (.slice x41f5p_ x41f5n_ x41f5c_)] ∧
 CallsH Tryz.prog 16 #[(.agg #[(.slice x41f0p_ x41f0n_ x41f0c_), (.slice x41f1p_ x41f1n_ x41f1c_), (.slice x41f2p_ x41f2n_ x41f2c_), (.slice x41f3p_ x41f3n_ x41f3c_), (.slice x41f4p_ x41f4n_ x41f4c_), (.slice x41f5p_ x41f5n_ x41f5c_)]), (.string name_)] q_12 fun en_4 q_13 =>
 ∃ (x43r0p_ : Option Addr) (x43r0n_ x43r0c_ : Nat), ∃ x43r1_ : Int, en_4 = .returned (.tuple #[(.slice x43r0p_ x43r0n_ x43r0c_), (.int .i64 x43r1_)]) ∧
 ∃ (x47p_ : Option Addr) (x47n_ x47c_ : Nat), cellsAt q_13 b_2 (0 + 1) [(.slice x47p_ x47n_ x47c_)] ∧
 ∃ (Iv_ : List Value → Hp → Prop) (m_ : List Value → Hp → Nat), Iv_ [(.int .i64 (0 : Int))] q_13 ∧
 (∀ (x49_ : Int) q_14, Iv_ [(.int .i64 x49_)] q_14 →
 (((decide (x49_ < ((x47n_ : Nat) : Int))) = true →
 ∃ b_5 o_, x47p_ = some ⟨b_5, o_, none⟩ ∧ 0 ≤ x49_ ∧ x49_ < (x47n_ : Int) ∧
 ∃ x53f0_ : ByteArray, ∃ x53f1_ : ByteArray, ∃ x53f2_ : Int, cellsAt q_14 b_5 (o_ + Int.toNat x49_ * 3) [(.string x53f0_), (.string x53f1_), (.int .i64 x53f2_)] ∧
 ∀ b_6 q_15, b_6 = q_14.size → q_15 = q_14.push (.cells (zeros Tryz.prog 94) 94) → (∃ i z, Tryz.prog.info? 94 = some i ∧ i.zero = some z) ∧
 List.length [(Value.string x53f0_), (.string x53f1_), (.int .i64 x53f2_)] = 3 ∧ (∀ c ∈ [(Value.string x53f0_), (.string x53f1_), (.int .i64 x53f2_)], c.oneCell' = true) ∧ wrAt q_15 b_6 0 3 ∧ ∀ q_16, q_16 = setsH q_15 b_6 0 [(.string x53f0_), (.string x53f1_), (.int .i64 x53f2_)] →
 ∃ Jv_1 : List Value → Hp → Prop,
 ((∃ Cv_2 : Hp → Prop, Cv_2 q_16 ∧
 ∃ b_7 o_1, x43r0p_ = some ⟨b_7, o_1, none⟩ ∧ 0 ≤ x49_ ∧ x49_ < (x43r0n_ : Int) ∧
 ∃ x57_ : Int, (∀ h', Cv_2 h' → cellsAt h' b_7 (o_1 + Int.toNat x49_ * 1) [(.int .i64 x57_)]) ∧
 CallsH Tryz.prog 106 #[(.int .i64 x57_)] q_16 fun en_5 q_17 =>
 ∃ x58_ : Option Nat, en_5 = .returned (.map x58_) ∧
 Cv_2 q_17 ∧
 ∃ x60_ : Int, (∀ h', Cv_2 h' → cellsAt h' b_6 (0 + 2) [(.int .i64 x60_)]) ∧
 SemH Tryz.prog (Instr.lookup 210 (.map x58_) (.int .i64 x60_) false) q_17 fun v_ q_18 =>
 ∃ x61f0_ : Int, ∃ x61f1_ : Int, ∃ x61f2_ : Value, ∃ x61f3_ : Value, ∃ x61f4_ : Value, ∃ x61f5_ : Value, v_ = (.agg #[(.int .i64 x61f0_), (.int .i64 x61f1_), x61f2_, x61f3_, x61f4_, x61f5_]) ∧
 Cv_2 q_18 ∧
 ∀ b_8 q_19, b_8 = q_18.size → q_19 = q_18.push (.cells (zeros Tryz.prog 209) 209) → (∃ i z, Tryz.prog.info? 209 = some i ∧ i.zero = some z) ∧
 Cv_2 q_19 ∧
 List.length [(Value.int .i64 x61f0_), (.int .i64 x61f1_), x61f2_, x61f3_, x61f4_, x61f5_] = 6 ∧ (∀ c ∈ [(Value.int .i64 x61f0_), (.int .i64 x61f1_), x61f2_, x61f3_, x61f4_, x61f5_], c.oneCell' = true) ∧ wrAt q_19 b_8 0 6 ∧ ∀ q_20, q_20 = setsH q_19 b_8 0 [(.int .i64 x61f0_), (.int .i64 x61f1_), x61f2_, x61f3_, x61f4_, x61f5_] →
 Cv_2 q_20 ∧
 Jv_1 [(.pointer (some ⟨b_8, 0, none⟩))] q_20) ∧
 (∃ Cv_3 : Hp → Prop, Cv_3 q_16 ∧
 ∃ b_9 o_2, x43r0p_ = some ⟨b_9, o_2, none⟩ ∧ 0 ≤ x49_ ∧ x49_ < (x43r0n_ : Int) ∧
 ∃ x57_1 : Int, (∀ h', Cv_3 h' → cellsAt h' b_9 (o_2 + Int.toNat x49_ * 1) [(.int .i64 x57_1)]) ∧
 ∀ b_10 q_21, b_10 = q_16.size → q_21 = q_16.push (.cells (zeros Tryz.prog 209) 209) → (∃ i z, Tryz.prog.info? 209 = some i ∧ i.zero = some z) ∧
 Cv_3 q_21 ∧
 CallsH Tryz.prog 106 #[(.int .i64 x57_1)] q_21 fun en_6 q_22 =>
 ∃ x58_1 : Option Nat, en_6 = .returned (.map x58_1) ∧
 Cv_3 q_22 ∧
 ∃ x60_1 : Int, (∀ h', Cv_3 h' → cellsAt h' b_6 (0 + 2) [(.int .i64 x60_1)]) ∧
 SemH Tryz.prog (Instr.lookup 210 (.map x58_1) (.int .i64 x60_1) false) q_22 fun v_1 q_23 =>
 ∃ x61f0_1 : Int, ∃ x61f1_1 : Int, ∃ x61f2_1 : Value, ∃ x61f3_1 : Value, ∃ x61f4_1 : Value, ∃ x61f5_1 : Value, v_1 = (.agg #[(.int .i64 x61f0_1), (.int .i64 x61f1_1), x61f2_1, x61f3_1, x61f4_1, x61f5_1]) ∧
 Cv_3 q_23 ∧
 List.length [(Value.int .i64 x61f0_1), (.int .i64 x61f1_1), x61f2_1, x61f3_1, x61f4_1, x61f5_1] = 6 ∧ (∀ c ∈ [(Value.int .i64 x61f0_1), (.int .i64 x61f1_1), x61f2_1, x61f3_1, x61f4_1, x61f5_1], c.oneCell' = true) ∧ wrAt q_23 b_10 0 6 ∧ ∀ q_24, q_24 = setsH q_23 b_10 0 [(.int .i64 x61f0_1), (.int .i64 x61f1_1), x61f2_1, x61f3_1, x61f4_1, x61f5_1] →
 Cv_3 q_24 ∧
 Jv_1 [(.pointer (some ⟨b_10, 0, none⟩))] q_24) ∧
 (∃ Cv_4 : Hp → Prop, Cv_4 q_16 ∧
 ∃ b_11 o_3, x43r0p_ = some ⟨b_11, o_3, none⟩ ∧ 0 ≤ x49_ ∧ x49_ < (x43r0n_ : Int) ∧
 ∃ x57_2 : Int, (∀ h', Cv_4 h' → cellsAt h' b_11 (o_3 + Int.toNat x49_ * 1) [(.int .i64 x57_2)]) ∧
 CallsH Tryz.prog 106 #[(.int .i64 x57_2)] q_16 fun en_7 q_25 =>
 ∃ x58_2 : Option Nat, en_7 = .returned (.map x58_2) ∧
 Cv_4 q_25 ∧
 ∃ x60_2 : Int, (∀ h', Cv_4 h' → cellsAt h' b_6 (0 + 2) [(.int .i64 x60_2)]) ∧
 ∀ b_12 q_26, b_12 = q_25.size → q_26 = q_25.push (.cells (zeros Tryz.prog 209) 209) → (∃ i z, Tryz.prog.info? 209 = some i ∧ i.zero = some z) ∧
 Cv_4 q_26 ∧
 SemH Tryz.prog (Instr.lookup 210 (.map x58_2) (.int .i64 x60_2) false) q_26 fun v_2 q_27 =>
 ∃ x61f0_2 : Int, ∃ x61f1_2 : Int, ∃ x61f2_2 : Value, ∃ x61f3_2 : Value, ∃ x61f4_2 : Value, ∃ x61f5_2 : Value, v_2 = (.agg #[(.int .i64 x61f0_2), (.int .i64 x61f1_2), x61f2_2, x61f3_2, x61f4_2, x61f5_2]) ∧
 Cv_4 q_27 ∧
 List.length [(Value.int .i64 x61f0_2), (.int .i64 x61f1_2), x61f2_2, x61f3_2, x61f4_2, x61f5_2] = 6 ∧ (∀ c ∈ [(Value.int .i64 x61f0_2), (.int .i64 x61f1_2), x61f2_2, x61f3_2, x61f4_2, x61f5_2], c.oneCell' = true) ∧ wrAt q_27 b_12 0 6 ∧ ∀ q_28, q_28 = setsH q_27 b_12 0 [(.int .i64 x61f0_2), (.int .i64 x61f1_2), x61f2_2, x61f3_2, x61f4_2, x61f5_2] →
 Cv_4 q_28 ∧
 Jv_1 [(.pointer (some ⟨b_12, 0, none⟩))] q_28)) ∧
 (∀ (p_ : Option Addr) q_29, Jv_1 [(.pointer p_)] q_29 →
 ∃ Cv_5 : Hp → Prop, Cv_5 q_29 ∧
 ∃ x63_ : Int, cellsAt q_29 b_6 (0 + 2) [(.int .i64 x63_)] ∧
 ∃ b_13 o_4, x43r0p_ = some ⟨b_13, o_4, none⟩ ∧ 0 ≤ x49_ ∧ x49_ < (x43r0n_ : Int) ∧
 ∃ x67_ : Int, (∀ h', Cv_5 h' → cellsAt h' b_13 (o_4 + Int.toNat x49_ * 1) [(.int .i64 x67_)]) ∧
 ∃ b_14 o_5, p_ = some ⟨b_14, o_5, none⟩ ∧
 Value.oneCell' (.int .i64 x63_) = true ∧ wrAt q_29 b_14 (o_5 + 0) 1 ∧ ∀ q_30, q_30 = setsH q_29 b_14 (o_5 + 0) [(.int .i64 x63_)] →
 Cv_5 q_30 ∧
 ∃ b_15 o_6, p_ = some ⟨b_15, o_6, none⟩ ∧
 Value.oneCell' (.int .i64 x67_) = true ∧ wrAt q_30 b_15 (o_6 + 1) 1 ∧ ∀ q_31, q_31 = setsH q_30 b_15 (o_6 + 1) [(.int .i64 x67_)] →
 ∃ b_16 o_7, out_ = some ⟨b_16, o_7, none⟩ ∧
 ∃ (x71p_ : Option Addr) (x71n_ x71c_ : Nat), cellsAt q_31 b_16 (o_7 + 7) [(.slice x71p_ x71n_ x71c_)] ∧
 ∃ b_17 o_8, p_ = some ⟨b_17, o_8, none⟩ ∧
 ∃ x72f0_ : Int, ∃ x72f1_ : Int, ∃ x72f2_ : Value, ∃ x72f3_ : Value, ∃ x72f4_ : Value, ∃ x72f5_ : Value, cellsAt q_31 b_17 o_8 [(.int .i64 x72f0_), (.int .i64 x72f1_), x72f2_, x72f3_, x72f4_, x72f5_] ∧
 SemH Tryz.prog (Instr.buildSlice 193 1 #[(0, (.agg #[(.int .i64 x72f0_), (.int .i64 x72f1_), x72f2_, x72f3_, x72f4_, x72f5_]))]) q_31 fun v_3 q_32 =>
 ∃ (x73p_ : Option Addr) (x73n_ x73c_ : Nat), v_3 = (.slice x73p_ x73n_ x73c_) ∧
 SemH Tryz.prog (Builtin.append_ #[193, 193] 193 #[(.slice x71p_ x71n_ x71c_), (.slice x73p_ x73n_ x73c_)]) q_32 fun v_4 q_33 =>
 ∃ (x74p_ : Option Addr) (x74n_ x74c_ : Nat), v_4 = (.slice x74p_ x74n_ x74c_) ∧
 ∃ b_18 o_9, out_ = some ⟨b_18, o_9, none⟩ ∧
 Value.oneCell' (.slice x74p_ x74n_ x74c_) = true ∧ wrAt q_33 b_18 (o_9 + 7) 1 ∧ ∀ q_34, q_34 = setsH q_33 b_18 (o_9 + 7) [(.slice x74p_ x74n_ x74c_)] →
 ∃ x76_, IntKind.i64.wrap (x49_ + (1 : Int)) = x76_ ∧
 (Iv_ [(.int .i64 x76_)] q_34 ∧ m_ [(.int .i64 x76_)] q_34 < m_ [(.int .i64 x49_)] q_14))) ∧
 ((decide (x49_ < ((x47n_ : Nat) : Int))) = false →
 ∃ b_19 o_10, out_ = some ⟨b_19, o_10, none⟩ ∧
 ∃ x77f0_ : ByteArray, ∃ (x77f1p_ : Option Addr) (x77f1n_ x77f1c_ : Nat) (x77f2p_ : Option Addr) (x77f2n_ x77f2c_ : Nat), ∃ x77f3_ : Int, ∃ x77f4_ : ByteArray, ∃ (x77f5p_ : Option Addr) (x77f5n_ x77f5c_ : Nat), ∃ x77f6_ : Bool, ∃ (x77f7p_ : Option Addr) (x77f7n_ x77f7c_ : Nat), ∃ x77f8_ : Bool, cellsAt q_14 b_19 o_10 [(.string x77f0_), (.slice x77f1p_ x77f1n_ x77f1c_), (.slice x77f2p_ x77f2n_ x77f2c_), (.int .i64 x77f3_), (.string x77f4_), (.slice x77f5p_ x77f5n_ x77f5c_), (.bool x77f6_), (.slice x77f7p_ x77f7n_ x77f7c_), (.bool x77f8_)] ∧
 List.length [(Value.string x77f0_), (.slice x77f1p_ x77f1n_ x77f1c_), (.slice x77f2p_ x77f2n_ x77f2c_), (.int .i64 x77f3_), (.string x77f4_), (.slice x77f5p_ x77f5n_ x77f5c_), (.bool x77f6_), (.slice x77f7p_ x77f7n_ x77f7c_), (.bool x77f8_)] = 9 ∧ (∀ c ∈ [(Value.string x77f0_), (.slice x77f1p_ x77f1n_ x77f1c_), (.slice x77f2p_ x77f2n_ x77f2c_), (.int .i64 x77f3_), (.string x77f4_), (.slice x77f5p_ x77f5n_ x77f5c_), (.bool x77f6_), (.slice x77f7p_ x77f7n_ x77f7c_), (.bool x77f8_)], c.oneCell' = true) ∧ wrAt q_14 b_1 0 9 ∧ ∀ q_35, q_35 = setsH q_14 b_1 0 [(.string x77f0_), (.slice x77f1p_ x77f1n_ x77f1c_), (.slice x77f2p_ x77f2n_ x77f2c_), (.int .i64 x77f3_), (.string x77f4_), (.slice x77f5p_ x77f5n_ x77f5c_), (.bool x77f6_), (.slice x77f7p_ x77f7n_ x77f7c_), (.bool x77f8_)] →
 ∃ resf0_ : ByteArray, ∃ (resf1p_ : Option Addr) (resf1n_ resf1c_ : Nat) (resf2p_ : Option Addr) (resf2n_ resf2c_ : Nat), ∃ resf3_ : Int, ∃ resf4_ : ByteArray, ∃ (resf5p_ : Option Addr) (resf5n_ resf5c_ : Nat), ∃ resf6_ : Bool, ∃ (resf7p_ : Option Addr) (resf7n_ resf7c_ : Nat), ∃ resf8_ : Bool, cellsAt q_35 b_1 0 [(.string resf0_), (.slice resf1p_ resf1n_ resf1c_), (.slice resf2p_ resf2n_ resf2c_), (.int .i64 resf3_), (.string resf4_), (.slice resf5p_ resf5n_ resf5c_), (.bool resf6_), (.slice resf7p_ resf7n_ resf7c_), (.bool resf8_)] ∧
 R (.returned (.tuple #[(.agg #[(.string resf0_), (.slice resf1p_ resf1n_ resf1c_), (.slice resf2p_ resf2n_ resf2c_), (.int .i64 resf3_), (.string resf4_), (.slice resf5p_ resf5n_ resf5c_), (.bool resf6_), (.slice resf7p_ resf7n_ resf7c_), (.bool resf8_)]), (.int .i64 (0 : Int))])) q_35))))))))) :
 CallsH Tryz.prog 94 #[(.agg #[(.slice sf0p_ sf0n_ sf0c_), (.slice sf1p_ sf1n_ sf1c_), (.slice sf2p_ sf2n_ sf2c_), (.slice sf3p_ sf3n_ sf3c_), (.slice sf4p_ sf4n_ sf4c_), (.slice sf5p_ sf5n_ sf5c_)]), (.string name_)] h R := calls_vc fine false Tryz.func94 (ann := A94) (args := [(.agg #[(.slice sf0p_ sf0n_ sf0c_), (.slice sf1p_ sf1n_ sf1c_), (.slice sf2p_ sf2n_ sf2c_), (.slice sf3p_ sf3n_ sf3c_), (.slice sf4p_ sf4n_ sf4c_), (.slice sf5p_ sf5n_ sf5c_)]), (.string name_)]) (by kernel_rfl) (Eq.mpr (by kernel_rfl) H)
def A95 : Ann := (.seq .nil (.seq (.seq .nil (.cond (.seq .nil .nil) .nil)) (.seq (.seq .nil (.block (.loop [(19, (.int .i64))] (.seq .nil (.seq (.cond .nil .nil) (.seq (.block (.seq .nil (.seq .nil (.cond (.seq .nil .nil) .nil)))) .nil)))))) (.seq .nil (.cut (.seq .nil (.cond .nil .nil)) [(7, (.int .i64)), (8, (.int .i64))] (.seq (.seq (.join 45) (.cond (.seq .nil .nil) .nil)) (.seq .nil .nil)))))))
theorem V95 (tf0_ : ByteArray) (tf1p_ : Option Addr) (tf1n_ tf1c_ : Nat) (tf2p_ : Option Addr) (tf2n_ tf2c_ : Nat) (tf3_ : Int) (tf4_ : ByteArray) (tf5p_ : Option Addr) (tf5n_ tf5c_ : Nat) (tf6_ : Bool) (tf7p_ : Option Addr) (tf7n_ tf7c_ : Nat) (tf8_ : Bool) (ef0p_ : Option Addr) (ef0n_ ef0c_ : Nat) (ef1_ : Int) (ef2_ : ByteArray) (ef3p_ : Option Addr) (ef3n_ ef3c_ : Nat) (h : Hp) (R : Ending → Hp → Prop) (H :
 ∀ b_ q_, b_ = h.size → q_ = h.push (.cells #[(.string tf0_), (.slice tf1p_ tf1n_ tf1c_), (.slice tf2p_ tf2n_ tf2c_), (.int .i64 tf3_), (.string tf4_), (.slice tf5p_ tf5n_ tf5c_), (.bool tf6_), (.slice tf7p_ tf7n_ tf7c_), (.bool tf8_)] 195) →
 ∀ b_1 q_1, b_1 = q_.size → q_1 = q_.push (.cells #[(.slice ef0p_ ef0n_ ef0c_), (.int .i64 ef1_), (.string ef2_), (.slice ef3p_ ef3n_ ef3c_)] 53) →
 ∃ (x10p_ : Option Addr) (x10n_ x10c_ : Nat), cellsAt q_1 b_1 (0 + 0) [(.slice x10p_ x10n_ x10c_)] ∧
 ∃ (x13p_ : Option Addr) (x13n_ x13c_ : Nat), cellsAt q_1 b_ (0 + 7) [(.slice x13p_ x13n_ x13c_)] ∧
 (((decide (((x10n_ : Nat) : Int) ≠ ((x13n_ : Nat) : Int))) = true →
 R (.returned (.int .i64 (111 : Int))) q_1) ∧
 ((decide (((x10n_ : Nat) : Int) ≠ ((x13n_ : Nat) : Int))) = false →
 ∃ (x17p_ : Option Addr) (x17n_ x17c_ : Nat), cellsAt q_1 b_ (0 + 7) [(.slice x17p_ x17n_ x17c_)] ∧
 ∃ (Iv_ : List Value → Hp → Prop) (m_ : List Value → Hp → Nat), Iv_ [(.int .i64 (0 : Int))] q_1 ∧
 (∀ (x19_ : Int) q_2, Iv_ [(.int .i64 x19_)] q_2 →
 (((decide (x19_ < ((x17n_ : Nat) : Int))) = true →
 ∃ b_2 o_, x17p_ = some ⟨b_2, o_, none⟩ ∧ 0 ≤ x19_ ∧ x19_ < (x17n_ : Int) ∧
 ∃ x23f0_ : Int, ∃ x23f1_ : Int, ∃ x23f2_ : Value, ∃ x23f3_ : Value, ∃ x23f4_ : Value, ∃ x23f5_ : Value, cellsAt q_2 b_2 (o_ + Int.toNat x19_ * 6) [(.int .i64 x23f0_), (.int .i64 x23f1_), x23f2_, x23f3_, x23f4_, x23f5_] ∧
 ∀ b_3 q_3, b_3 = q_2.size → q_3 = q_2.push (.cells (zeros Tryz.prog 209) 209) → (∃ i z, Tryz.prog.info? 209 = some i ∧ i.zero = some z) ∧
 List.length [(Value.int .i64 x23f0_), (.int .i64 x23f1_), x23f2_, x23f3_, x23f4_, x23f5_] = 6 ∧ (∀ c ∈ [(Value.int .i64 x23f0_), (.int .i64 x23f1_), x23f2_, x23f3_, x23f4_, x23f5_], c.oneCell' = true) ∧ wrAt q_3 b_3 0 6 ∧ ∀ q_4, q_4 = setsH q_3 b_3 0 [(.int .i64 x23f0_), (.int .i64 x23f1_), x23f2_, x23f3_, x23f4_, x23f5_] →
 ∃ x25_ : Value, cellsAt q_4 b_3 (0 + 2) [x25_] ∧
 ∃ (x27p_ : Option Addr) (x27n_ x27c_ : Nat), cellsAt q_4 b_1 (0 + 0) [(.slice x27p_ x27n_ x27c_)] ∧
 ∃ b_4 o_1, x27p_ = some ⟨b_4, o_1, none⟩ ∧ 0 ≤ x19_ ∧ x19_ < (x27n_ : Int) ∧
 ∃ x30f0_ : Int, ∃ x30f1_ : Int, ∃ x30f2_ : Int, ∃ x30f3_ : Int, ∃ x30f4_ : Int, cellsAt q_4 b_4 (o_1 + Int.toNat x19_ * 5) [(.int .u64 x30f0_), (.int .u64 x30f1_), (.int .u64 x30f2_), (.int .u64 x30f3_), (.int .i64 x30f4_)] ∧
 ∃ fn_ fst_ cap_, x25_ = Value.func (.func fn_) fst_ cap_ ∧ bodied Tryz.prog fn_ = true ∧
 CallsH Tryz.prog fn_ (fst_.toList ++ [(Value.agg #[(.int .u64 x30f0_), (.int .u64 x30f1_), (.int .u64 x30f2_), (.int .u64 x30f3_), (.int .i64 x30f4_)])] ++ cap_.toList).toArray q_4 fun en_ q_5 =>
 ∃ x31_ : Bool, en_ = .returned (.bool x31_) ∧
 (((!x31_) = true →
 R (.returned (.int .i64 (111 : Int))) q_5) ∧
 ((!x31_) = false →
 ∃ x33_, IntKind.i64.wrap (x19_ + (1 : Int)) = x33_ ∧
 (Iv_ [(.int .i64 x33_)] q_5 ∧ m_ [(.int .i64 x33_)] q_5 < m_ [(.int .i64 x19_)] q_2)))) ∧
 ((decide (x19_ < ((x17n_ : Nat) : Int))) = false →
 ∃ Jv_ : List Value → Hp → Prop,
 (∃ x35_ : Bool, cellsAt q_2 b_ (0 + 8) [(.bool x35_)] ∧
 ((x35_ = true →
 Jv_ [(.int .i64 (1 : Int)), (.int .i64 (16777216 : Int))] q_2) ∧
 (x35_ = false →
 Jv_ [(.int .i64 (0 : Int)), (.int .i64 (0 : Int))] q_2))) ∧
 (∀ (least_ : Int) (most_ : Int) q_6, Jv_ [(.int .i64 least_), (.int .i64 most_)] q_6 →
 ∃ B_ : Bool, (∃ x37_ : Int, cellsAt q_6 b_1 (0 + 1) [(.int .i64 x37_)] ∧
 (((decide (x37_ < least_)) = true →
 q_6 = q_6 ∧ B_ = true) ∧
 ((decide (x37_ < least_)) = false →
 ∃ x42_ : Int, cellsAt q_6 b_1 (0 + 1) [(.int .i64 x42_)] ∧
 q_6 = q_6 ∧ B_ = (decide (most_ < x42_))))) ∧
 ((B_ = true →
 R (.returned (.int .i64 (112 : Int))) q_6) ∧
 (B_ = false →
 R (.returned (.int .i64 (0 : Int))) q_6))))))))) :
 CallsH Tryz.prog 95 #[(.agg #[(.string tf0_), (.slice tf1p_ tf1n_ tf1c_), (.slice tf2p_ tf2n_ tf2c_), (.int .i64 tf3_), (.string tf4_), (.slice tf5p_ tf5n_ tf5c_), (.bool tf6_), (.slice tf7p_ tf7n_ tf7c_), (.bool tf8_)]), (.agg #[(.slice ef0p_ ef0n_ ef0c_), (.int .i64 ef1_), (.string ef2_), (.slice ef3p_ ef3n_ ef3c_)])] h R := calls_vc fine false Tryz.func95 (ann := A95) (args := [(.agg #[(.string tf0_), (.slice tf1p_ tf1n_ tf1c_), (.slice tf2p_ tf2n_ tf2c_), (.int .i64 tf3_), (.string tf4_), (.slice tf5p_ tf5n_ tf5c_), (.bool tf6_), (.slice tf7p_ tf7n_ tf7c_), (.bool tf8_)]), (.agg #[(.slice ef0p_ ef0n_ ef0c_), (.int .i64 ef1_), (.string ef2_), (.slice ef3p_ ef3n_ ef3c_)])]) (by kernel_rfl) (Eq.mpr (by kernel_rfl) H)
def A97 : Ann := (.seq .nil (.seq (.seq .nil (.block (.loop [(5, (.int .i64))] (.seq (.seq .nil (.cond .nil .nil)) (.seq (.block (.seq .nil (.cond (.seq .nil .nil) .nil))) .nil))))) (.seq .nil .nil)))
theorem V97 (s_ : ByteArray) (part_ : ByteArray) (h : Hp) (R : Ending → Hp → Prop) (H :
 ∃ (Iv_ : List Value → Hp → Prop) (m_ : List Value → Hp → Nat), Iv_ [(.int .i64 (0 : Int))] h ∧
 (∀ (i_ : Int) q_, Iv_ [(.int .i64 i_)] q_ →
 ∃ x9_, IntKind.i64.wrap (i_ + (ByteArray.size part_ : Int)) = x9_ ∧
 (((decide (x9_ ≤ (ByteArray.size s_ : Int))) = true →
 ∃ x20_, IntKind.i64.wrap (i_ + (ByteArray.size part_ : Int)) = x20_ ∧
 ∃ l_ : Nat, i_ = (l_ : Int) ∧
 ∃ u_ : Nat, x20_ = (u_ : Int) ∧
 l_ ≤ u_ ∧ u_ ≤ ByteArray.size s_ ∧ ∃ x21_, ByteArray.extract s_ l_ u_ = x21_ ∧
 (((decide (x21_ = part_)) = true →
 R (.returned (.bool true)) q_) ∧
 ((decide (x21_ = part_)) = false →
 ∃ x14_, IntKind.i64.wrap (i_ + (1 : Int)) = x14_ ∧
 (Iv_ [(.int .i64 x14_)] q_ ∧ m_ [(.int .i64 x14_)] q_ < m_ [(.int .i64 i_)] q_)))) ∧
 ((decide (x9_ ≤ (ByteArray.size s_ : Int))) = false →
 R (.returned (.bool false)) q_)))) :
 CallsH Tryz.prog 97 #[(.string s_), (.string part_)] h R := calls_vc fine false Tryz.func97 (ann := A97) (args := [(.string s_), (.string part_)]) (by kernel_rfl) (Eq.mpr (by kernel_rfl) H)
def A99 : Ann := (.seq .nil (.seq .nil .nil))
theorem V99 (lp_ : Option Addr) (ln_ lc_ : Nat) (isv_ : Value) (h : Hp) (R : Ending → Hp → Prop) (H :
 CallsH Tryz.prog 107 #[(.slice lp_ ln_ lc_), isv_] h fun en_ q_ =>
 ∃ x7_ : Int, en_ = .returned (.int .i64 x7_) ∧
 R (.returned (.int .i64 x7_)) q_) :
 CallsH Tryz.prog 99 #[(.slice lp_ ln_ lc_), isv_] h R := calls_vc fine false Tryz.func99 (ann := A99) (args := [(.slice lp_ ln_ lc_), isv_]) (by kernel_rfl) (Eq.mpr (by kernel_rfl) H)
def A100 : Ann := (.seq .nil (.seq .nil .nil))
theorem V100 (ff0_ : ByteArray) (ff1_ : Int) (a1_ : Option Addr) (h : Hp) (R : Ending → Hp → Prop) (H :
 ∀ b_ q_, b_ = h.size → q_ = h.push (.cells #[(.string ff0_), (.int .i64 ff1_)] 89) →
 ∃ x5_ : ByteArray, cellsAt q_ b_ (0 + 0) [(.string x5_)] ∧
 ∃ b_1 o_, a1_ = some ⟨b_1, o_, none⟩ ∧
 ∃ x6_ : ByteArray, cellsAt q_ b_1 o_ [(.string x6_)] ∧
 R (.returned (.bool (decide (x5_ = x6_)))) q_) :
 CallsH Tryz.prog 100 #[(.agg #[(.string ff0_), (.int .i64 ff1_)]), (.pointer a1_)] h R := calls_vc fine false Tryz.func100 (ann := A100) (args := [(.agg #[(.string ff0_), (.int .i64 ff1_)]), (.pointer a1_)]) (by kernel_rfl) (Eq.mpr (by kernel_rfl) H)
def A103 : Ann := (.seq .nil (.seq (.seq .nil (.block (.loop [(8, (.int .i64))] (.seq .nil (.seq (.cond .nil .nil) (.seq (.block (.seq .nil (.seq .nil (.cond (.seq .nil .nil) .nil)))) .nil)))))) (.seq .nil .nil)))
theorem V103 (sp_ : Option Addr) (sn_ sc_ : Nat) (f_ : Value) (h : Hp) (R : Ending → Hp → Prop) (H :
 ∃ (Iv_ : List Value → Hp → Prop) (m_ : List Value → Hp → Nat), Iv_ [(.int .i64 (0 : Int))] h ∧
 (∀ (x8_ : Int) q_, Iv_ [(.int .i64 x8_)] q_ →
 (((decide (x8_ < ((sn_ : Nat) : Int))) = true →
 ∃ b_ o_, sp_ = some ⟨b_, o_, none⟩ ∧ 0 ≤ x8_ ∧ x8_ < (sn_ : Int) ∧
 ∃ x15f0_ : ByteArray, ∃ x15f1_ : ByteArray, ∃ x15f2_ : Int, cellsAt q_ b_ (o_ + Int.toNat x8_ * 3) [(.string x15f0_), (.string x15f1_), (.int .i64 x15f2_)] ∧
 ∃ fn_ fst_ cap_, f_ = Value.func (.func fn_) fst_ cap_ ∧ bodied Tryz.prog fn_ = true ∧
 CallsH Tryz.prog fn_ (fst_.toList ++ [(Value.agg #[(.string x15f0_), (.string x15f1_), (.int .i64 x15f2_)])] ++ cap_.toList).toArray q_ fun en_ q_1 =>
 ∃ x16_ : Bool, en_ = .returned (.bool x16_) ∧
 ((x16_ = true →
 R (.returned (.int .i64 x8_)) q_1) ∧
 (x16_ = false →
 ∃ x18_, IntKind.i64.wrap (x8_ + (1 : Int)) = x18_ ∧
 (Iv_ [(.int .i64 x18_)] q_1 ∧ m_ [(.int .i64 x18_)] q_1 < m_ [(.int .i64 x8_)] q_)))) ∧
 ((decide (x8_ < ((sn_ : Nat) : Int))) = false →
 R (.returned (.int .i64 (-1 : Int))) q_)))) :
 CallsH Tryz.prog 103 #[(.slice sp_ sn_ sc_), f_] h R := calls_vc fine false Tryz.func103 (ann := A103) (args := [(.slice sp_ sn_ sc_), f_]) (by kernel_rfl) (Eq.mpr (by kernel_rfl) H)
def A104 : Ann := (.seq .nil (.seq (.seq .nil (.block (.loop [(8, (.int .i64))] (.seq .nil (.seq (.cond .nil .nil) (.seq (.block (.seq .nil (.seq .nil (.cond (.seq .nil .nil) .nil)))) .nil)))))) (.seq .nil .nil)))
theorem V104 (sp_ : Option Addr) (sn_ sc_ : Nat) (f_ : Value) (h : Hp) (R : Ending → Hp → Prop) (H :
 ∃ (Iv_ : List Value → Hp → Prop) (m_ : List Value → Hp → Nat), Iv_ [(.int .i64 (0 : Int))] h ∧
 (∀ (x8_ : Int) q_, Iv_ [(.int .i64 x8_)] q_ →
 (((decide (x8_ < ((sn_ : Nat) : Int))) = true →
 ∃ b_ o_, sp_ = some ⟨b_, o_, none⟩ ∧ 0 ≤ x8_ ∧ x8_ < (sn_ : Int) ∧
 ∃ x15f0_ : ByteArray, ∃ (x15f1p_ : Option Addr) (x15f1n_ x15f1c_ : Nat) (x15f2p_ : Option Addr) (x15f2n_ x15f2c_ : Nat), cellsAt q_ b_ (o_ + Int.toNat x8_ * 3) [(.string x15f0_), (.slice x15f1p_ x15f1n_ x15f1c_), (.slice x15f2p_ x15f2n_ x15f2c_)] ∧
 ∃ fn_ fst_ cap_, f_ = Value.func (.func fn_) fst_ cap_ ∧ bodied Tryz.prog fn_ = true ∧
 CallsH Tryz.prog fn_ (fst_.toList ++ [(Value.agg #[(.string x15f0_), (.slice x15f1p_ x15f1n_ x15f1c_), (.slice x15f2p_ x15f2n_ x15f2c_)])] ++ cap_.toList).toArray q_ fun en_ q_1 =>
 ∃ x16_ : Bool, en_ = .returned (.bool x16_) ∧
 ((x16_ = true →
 R (.returned (.int .i64 x8_)) q_1) ∧
 (x16_ = false →
 ∃ x18_, IntKind.i64.wrap (x8_ + (1 : Int)) = x18_ ∧
 (Iv_ [(.int .i64 x18_)] q_1 ∧ m_ [(.int .i64 x18_)] q_1 < m_ [(.int .i64 x8_)] q_)))) ∧
 ((decide (x8_ < ((sn_ : Nat) : Int))) = false →
 R (.returned (.int .i64 (-1 : Int))) q_)))) :
 CallsH Tryz.prog 104 #[(.slice sp_ sn_ sc_), f_] h R := calls_vc fine false Tryz.func104 (ann := A104) (args := [(.slice sp_ sn_ sc_), f_]) (by kernel_rfl) (Eq.mpr (by kernel_rfl) H)
def A105 : Ann := (.seq .nil (.seq (.seq .nil (.block (.loop [(8, (.int .i64))] (.seq .nil (.seq (.cond .nil .nil) (.seq (.block (.seq .nil (.seq .nil (.cond (.seq .nil .nil) .nil)))) .nil)))))) (.seq .nil .nil)))
theorem V105 (sp_ : Option Addr) (sn_ sc_ : Nat) (v_ : ByteArray) (h : Hp) (R : Ending → Hp → Prop) (H :
 ∃ (Iv_ : List Value → Hp → Prop) (m_ : List Value → Hp → Nat), Iv_ [(.int .i64 (0 : Int))] h ∧
 (∀ (x8_ : Int) q_, Iv_ [(.int .i64 x8_)] q_ →
 (((decide (x8_ < ((sn_ : Nat) : Int))) = true →
 ∃ b_ o_, sp_ = some ⟨b_, o_, none⟩ ∧ 0 ≤ x8_ ∧ x8_ < (sn_ : Int) ∧
 ∃ x15_ : ByteArray, cellsAt q_ b_ (o_ + Int.toNat x8_ * 1) [(.string x15_)] ∧
 (((decide (v_ = x15_)) = true →
 R (.returned (.int .i64 x8_)) q_) ∧
 ((decide (v_ = x15_)) = false →
 ∃ x18_, IntKind.i64.wrap (x8_ + (1 : Int)) = x18_ ∧
 (Iv_ [(.int .i64 x18_)] q_ ∧ m_ [(.int .i64 x18_)] q_ < m_ [(.int .i64 x8_)] q_)))) ∧
 ((decide (x8_ < ((sn_ : Nat) : Int))) = false →
 R (.returned (.int .i64 (-1 : Int))) q_)))) :
 CallsH Tryz.prog 105 #[(.slice sp_ sn_ sc_), (.string v_)] h R := calls_vc fine false Tryz.func105 (ann := A105) (args := [(.slice sp_ sn_ sc_), (.string v_)]) (by kernel_rfl) (Eq.mpr (by kernel_rfl) H)
def A106 : Ann := (.seq .nil (.seq .nil (.seq .nil (.seq .nil (.seq .nil (.seq .nil .nil))))))
theorem V106 (width_ : Int) (h : Hp) (R : Ending → Hp → Prop) (H :
 ∀ b_ q_, b_ = h.size → q_ = h.push (.cells #[(.int .i64 width_)] 3) →
 ∃ x7_ : Int, cellsAt q_ b_ 0 [(.int .i64 x7_)] ∧
 CallsH Tryz.prog 108 #[(.int .i64 x7_)] q_ fun en_ q_1 =>
 ∃ x8f0_ : Int, ∃ x8f1_ : Int, en_ = .returned (.agg #[(.int .u64 x8f0_), (.int .u64 x8f1_)]) ∧
 ∀ b_1 q_2, b_1 = q_1.size → q_2 = q_1.push (.cells (zeros Tryz.prog 40) 40) → (∃ i z, Tryz.prog.info? 40 = some i ∧ i.zero = some z) ∧
 List.length [(Value.int .u64 x8f0_), (.int .u64 x8f1_)] = 2 ∧ (∀ c ∈ [(Value.int .u64 x8f0_), (.int .u64 x8f1_)], c.oneCell' = true) ∧ wrAt q_2 b_1 0 2 ∧ ∀ q_3, q_3 = setsH q_2 b_1 0 [(.int .u64 x8f0_), (.int .u64 x8f1_)] →
 ∀ b_2 q_4, b_2 = q_3.size → q_4 = q_3.push (.cells (zeros Tryz.prog 212) 212) → (∃ i z, Tryz.prog.info? 212 = some i ∧ i.zero = some z) ∧
 Value.oneCell' (.func (.func 109) #[] #[(.pointer (some ⟨b_1, 0, none⟩))]) = true ∧ wrAt q_4 b_2 0 1 ∧ ∀ q_5, q_5 = setsH q_4 b_2 0 [(.func (.func 109) #[] #[(.pointer (some ⟨b_1, 0, none⟩))])] →
 ∀ b_3 q_6, b_3 = q_5.size → q_6 = q_5.push (.cells (zeros Tryz.prog 40) 40) → (∃ i z, Tryz.prog.info? 40 = some i ∧ i.zero = some z) ∧
 ∀ r_ q_7, r_ = q_6.size → q_7 = q_6.push (.map #[] 0) →
 SemH Tryz.prog (Instr.mapUpdate 210 (.map (some r_)) (.int .i64 (1 : Int)) (.agg #[(.int .i64 (0 : Int)), (.int .i64 (0 : Int)), (.func (.func 112) #[] #[(.pointer (some ⟨b_2, 0, none⟩))]), (.func (.func 113) #[] #[]), (.func (.func 111) #[] #[]), (.func (.func 111) #[] #[])])) q_7 fun _ q_8 =>
 SemH Tryz.prog (Instr.mapUpdate 210 (.map (some r_)) (.int .i64 (2 : Int)) (.agg #[(.int .i64 (0 : Int)), (.int .i64 (0 : Int)), (.func (.func 114) #[] #[(.pointer (some ⟨b_, 0, none⟩)), (.pointer (some ⟨b_3, 0, none⟩))]), (.func (.func 116) #[] #[(.pointer (some ⟨b_, 0, none⟩))]), (.func (.func 117) #[] #[(.pointer (some ⟨b_, 0, none⟩))]), (.func (.func 118) #[] #[(.pointer (some ⟨b_, 0, none⟩))])])) q_8 fun _ q_9 =>
 SemH Tryz.prog (Instr.mapUpdate 210 (.map (some r_)) (.int .i64 (3 : Int)) (.agg #[(.int .i64 (0 : Int)), (.int .i64 (0 : Int)), (.func (.func 119) #[] #[(.pointer (some ⟨b_2, 0, none⟩))]), (.func (.func 120) #[] #[]), (.func (.func 121) #[] #[]), (.func (.func 122) #[] #[])])) q_9 fun _ q_10 =>
 SemH Tryz.prog (Instr.mapUpdate 210 (.map (some r_)) (.int .i64 (4 : Int)) (.agg #[(.int .i64 (0 : Int)), (.int .i64 (0 : Int)), (.func (.func 123) #[] #[(.pointer (some ⟨b_2, 0, none⟩))]), (.func (.func 125) #[] #[]), (.func (.func 126) #[] #[]), (.func (.func 127) #[] #[])])) q_10 fun _ q_11 =>
 R (.returned (.map (some r_))) q_11) :
 CallsH Tryz.prog 106 #[(.int .i64 width_)] h R := calls_vc fine false Tryz.func106 (ann := A106) (args := [(.int .i64 width_)]) (by kernel_rfl) (Eq.mpr (by kernel_rfl) H)
def A107 : Ann := (.seq .nil (.seq (.seq .nil (.block (.loop [(8, (.int .i64))] (.seq .nil (.seq (.cond .nil .nil) (.seq (.block (.seq .nil (.seq .nil (.cond (.seq .nil .nil) .nil)))) .nil)))))) (.seq .nil .nil)))
theorem V107 (sp_ : Option Addr) (sn_ sc_ : Nat) (f_ : Value) (h : Hp) (R : Ending → Hp → Prop) (H :
 ∃ (Iv_ : List Value → Hp → Prop) (m_ : List Value → Hp → Nat), Iv_ [(.int .i64 (0 : Int))] h ∧
 (∀ (x8_ : Int) q_, Iv_ [(.int .i64 x8_)] q_ →
 (((decide (x8_ < ((sn_ : Nat) : Int))) = true →
 ∃ b_ o_, sp_ = some ⟨b_, o_, none⟩ ∧ 0 ≤ x8_ ∧ x8_ < (sn_ : Int) ∧
 ∃ x15f0_ : ByteArray, ∃ x15f1_ : Int, cellsAt q_ b_ (o_ + Int.toNat x8_ * 2) [(.string x15f0_), (.int .i64 x15f1_)] ∧
 ∃ fn_ fst_ cap_, f_ = Value.func (.func fn_) fst_ cap_ ∧ bodied Tryz.prog fn_ = true ∧
 CallsH Tryz.prog fn_ (fst_.toList ++ [(Value.agg #[(.string x15f0_), (.int .i64 x15f1_)])] ++ cap_.toList).toArray q_ fun en_ q_1 =>
 ∃ x16_ : Bool, en_ = .returned (.bool x16_) ∧
 ((x16_ = true →
 R (.returned (.int .i64 x8_)) q_1) ∧
 (x16_ = false →
 ∃ x18_, IntKind.i64.wrap (x8_ + (1 : Int)) = x18_ ∧
 (Iv_ [(.int .i64 x18_)] q_1 ∧ m_ [(.int .i64 x18_)] q_1 < m_ [(.int .i64 x8_)] q_)))) ∧
 ((decide (x8_ < ((sn_ : Nat) : Int))) = false →
 R (.returned (.int .i64 (-1 : Int))) q_)))) :
 CallsH Tryz.prog 107 #[(.slice sp_ sn_ sc_), f_] h R := calls_vc fine false Tryz.func107 (ann := A107) (args := [(.slice sp_ sn_ sc_), f_]) (by kernel_rfl) (Eq.mpr (by kernel_rfl) H)
def A108 : Ann := (.seq .nil (.seq (.seq .nil (.cond (.seq .nil .nil) .nil)) (.seq .nil .nil)))
theorem V108 (n_ : Int) (h : Hp) (R : Ending → Hp → Prop) (H :
 ∀ b_ q_, b_ = h.size → q_ = h.push (.cells (zeros Tryz.prog 40) 40) → (∃ i z, Tryz.prog.info? 40 = some i ∧ i.zero = some z) ∧
 (((decide ((64 : Int) < n_)) = true →
 ∃ x6_, IntKind.i64.wrap (n_ - (64 : Int)) = x6_ ∧
 0 ≤ x6_ ∧ ∃ x7_, shlI .u64 (1 : Int) x6_ = x7_ ∧
 ∃ x8_, IntKind.u64.wrap (x7_ - (1 : Int)) = x8_ ∧
 List.length [(Value.int .u64 x8_), (.int .u64 (18446744073709551615 : Int))] = 2 ∧ (∀ c ∈ [(Value.int .u64 x8_), (.int .u64 (18446744073709551615 : Int))], c.oneCell' = true) ∧ wrAt q_ b_ 0 2 ∧ ∀ q_1, q_1 = setsH q_ b_ 0 [(.int .u64 x8_), (.int .u64 (18446744073709551615 : Int))] →
 ∃ resf0_ : Int, ∃ resf1_ : Int, cellsAt q_1 b_ 0 [(.int .u64 resf0_), (.int .u64 resf1_)] ∧
 R (.returned (.agg #[(.int .u64 resf0_), (.int .u64 resf1_)])) q_1) ∧
 ((decide ((64 : Int) < n_)) = false →
 0 ≤ n_ ∧ ∃ x11_, shlI .u64 (1 : Int) n_ = x11_ ∧
 ∃ x12_, IntKind.u64.wrap (x11_ - (1 : Int)) = x12_ ∧
 List.length [(Value.int .u64 (0 : Int)), (.int .u64 x12_)] = 2 ∧ (∀ c ∈ [(Value.int .u64 (0 : Int)), (.int .u64 x12_)], c.oneCell' = true) ∧ wrAt q_ b_ 0 2 ∧ ∀ q_2, q_2 = setsH q_ b_ 0 [(.int .u64 (0 : Int)), (.int .u64 x12_)] →
 ∃ resf0_1 : Int, ∃ resf1_1 : Int, cellsAt q_2 b_ 0 [(.int .u64 resf0_1), (.int .u64 resf1_1)] ∧
 R (.returned (.agg #[(.int .u64 resf0_1), (.int .u64 resf1_1)])) q_2))) :
 CallsH Tryz.prog 108 #[(.int .i64 n_)] h R := calls_vc fine false Tryz.func108 (ann := A108) (args := [(.int .i64 n_)]) (by kernel_rfl) (Eq.mpr (by kernel_rfl) H)
def A109 : Ann := (.seq .nil (.seq (.drawLast [3]) .nil))
theorem V109 (vf0_ : Int) (vf1_ : Int) (a1_ : Option Addr) (h : Hp) (R : Ending → Hp → Prop) (H :
 ∀ b_ q_, b_ = h.size → q_ = h.push (.cells #[(.int .u64 vf0_), (.int .u64 vf1_)] 40) →
 ∃ Cv_ : Hp → Prop, Cv_ q_ ∧
 ∃ x4f0_ : Int, ∃ x4f1_ : Int, cellsAt q_ b_ 0 [(.int .u64 x4f0_), (.int .u64 x4f1_)] ∧
 ∃ b_1 o_, a1_ = some ⟨b_1, o_, none⟩ ∧
 ∃ x5f0_ : Int, ∃ x5f1_ : Int, cellsAt q_ b_1 o_ [(.int .u64 x5f0_), (.int .u64 x5f1_)] ∧
 CallsH Tryz.prog 110 #[(.agg #[(.int .u64 x4f0_), (.int .u64 x4f1_)]), (.agg #[(.int .u64 x5f0_), (.int .u64 x5f1_)])] q_ fun en_ q_1 =>
 ∃ x6f0_ : Int, ∃ x6f1_ : Int, en_ = .returned (.agg #[(.int .u64 x6f0_), (.int .u64 x6f1_)]) ∧
 Cv_ q_1 ∧
 ∃ x7f0_ : Int, ∃ x7f1_ : Int, (∀ h', Cv_ h' → cellsAt h' b_ 0 [(.int .u64 x7f0_), (.int .u64 x7f1_)]) ∧
 ∃ x8_, EqV Tryz.prog 40 (.agg #[(.int .u64 x6f0_), (.int .u64 x6f1_)]) (.agg #[(.int .u64 x7f0_), (.int .u64 x7f1_)]) x8_ ∧
 R (.returned (.bool x8_)) q_1) :
 CallsH Tryz.prog 109 #[(.agg #[(.int .u64 vf0_), (.int .u64 vf1_)]), (.pointer a1_)] h R := calls_vc fine false Tryz.func109 (ann := A109) (args := [(.agg #[(.int .u64 vf0_), (.int .u64 vf1_)]), (.pointer a1_)]) (by kernel_rfl) (Eq.mpr (by kernel_rfl) H)
def A110 : Ann := (.seq .nil (.seq .nil .nil))
theorem V110 (af0_ : Int) (af1_ : Int) (bf0_ : Int) (bf1_ : Int) (h : Hp) (R : Ending → Hp → Prop) (H :
 ∀ b_ q_, b_ = h.size → q_ = h.push (.cells #[(.int .u64 af0_), (.int .u64 af1_)] 40) →
 ∀ b_1 q_1, b_1 = q_.size → q_1 = q_.push (.cells #[(.int .u64 bf0_), (.int .u64 bf1_)] 40) →
 ∀ b_2 q_2, b_2 = q_1.size → q_2 = q_1.push (.cells (zeros Tryz.prog 40) 40) → (∃ i z, Tryz.prog.info? 40 = some i ∧ i.zero = some z) ∧
 ∃ x6_ : Int, cellsAt q_2 b_ (0 + 0) [(.int .u64 x6_)] ∧
 ∃ x8_ : Int, cellsAt q_2 b_1 (0 + 0) [(.int .u64 x8_)] ∧
 ∃ x9_, andI .u64 x6_ x8_ = x9_ ∧
 ∃ x11_ : Int, cellsAt q_2 b_ (0 + 1) [(.int .u64 x11_)] ∧
 ∃ x13_ : Int, cellsAt q_2 b_1 (0 + 1) [(.int .u64 x13_)] ∧
 ∃ x14_, andI .u64 x11_ x13_ = x14_ ∧
 List.length [(Value.int .u64 x9_), (.int .u64 x14_)] = 2 ∧ (∀ c ∈ [(Value.int .u64 x9_), (.int .u64 x14_)], c.oneCell' = true) ∧ wrAt q_2 b_2 0 2 ∧ ∀ q_3, q_3 = setsH q_2 b_2 0 [(.int .u64 x9_), (.int .u64 x14_)] →
 ∃ resf0_ : Int, ∃ resf1_ : Int, cellsAt q_3 b_2 0 [(.int .u64 resf0_), (.int .u64 resf1_)] ∧
 R (.returned (.agg #[(.int .u64 resf0_), (.int .u64 resf1_)])) q_3) :
 CallsH Tryz.prog 110 #[(.agg #[(.int .u64 af0_), (.int .u64 af1_)]), (.agg #[(.int .u64 bf0_), (.int .u64 bf1_)])] h R := calls_vc fine false Tryz.func110 (ann := A110) (args := [(.agg #[(.int .u64 af0_), (.int .u64 af1_)]), (.agg #[(.int .u64 bf0_), (.int .u64 bf1_)])]) (by kernel_rfl) (Eq.mpr (by kernel_rfl) H)
def A114 : Ann := (.seq .nil (.seq (.drawLast [17, 24]) .nil))
theorem V114 (mf0_ : Int) (mf1_ : Int) (mf2_ : Int) (mf3_ : Int) (mf4_ : Int) (a1_ : Option Addr) (a2_ : Option Addr) (h : Hp) (R : Ending → Hp → Prop) (H :
 ∀ b_ q_, b_ = h.size → q_ = h.push (.cells #[(.int .u64 mf0_), (.int .u64 mf1_), (.int .u64 mf2_), (.int .u64 mf3_), (.int .i64 mf4_)] 50) →
 ∃ Cv_ : Hp → Prop, Cv_ q_ ∧
 ∃ x6_ : Int, cellsAt q_ b_ (0 + 4) [(.int .i64 x6_)] ∧
 (((decide ((0 : Int) ≤ x6_)) = true →
 ∃ x10_ : Int, cellsAt q_ b_ (0 + 4) [(.int .i64 x10_)] ∧
 ∃ b_1 o_, a1_ = some ⟨b_1, o_, none⟩ ∧
 ∃ x11_ : Int, cellsAt q_ b_1 o_ [(.int .i64 x11_)] ∧
 (((decide (x10_ ≤ x11_)) = true →
 ∃ x16f0_ : Int, ∃ x16f1_ : Int, cellsAt q_ b_ (0 + 2) [(.int .u64 x16f0_), (.int .u64 x16f1_)] ∧
 ∃ b_2 o_1, a2_ = some ⟨b_2, o_1, none⟩ ∧
 ∃ x17f0_ : Int, ∃ x17f1_ : Int, cellsAt q_ b_2 o_1 [(.int .u64 x17f0_), (.int .u64 x17f1_)] ∧
 ∃ x18_, EqV Tryz.prog 40 (.agg #[(.int .u64 x16f0_), (.int .u64 x16f1_)]) (.agg #[(.int .u64 x17f0_), (.int .u64 x17f1_)]) x18_ ∧
 ((x18_ = true →
 ∃ x22f0_ : Int, ∃ x22f1_ : Int, (∀ h', Cv_ h' → cellsAt h' b_ (0 + 0) [(.int .u64 x22f0_), (.int .u64 x22f1_)]) ∧
 ∃ b_3 o_2, a1_ = some ⟨b_3, o_2, none⟩ ∧
 ∃ x23_ : Int, cellsAt q_ b_3 o_2 [(.int .i64 x23_)] ∧
 ∃ x25_ : Int, cellsAt q_ b_ (0 + 4) [(.int .i64 x25_)] ∧
 CallsH Tryz.prog 115 #[(.int .i64 x23_), (.int .i64 x25_)] q_ fun en_ q_1 =>
 ∃ x26f0_ : Int, ∃ x26f1_ : Int, en_ = .returned (.agg #[(.int .u64 x26f0_), (.int .u64 x26f1_)]) ∧
 Cv_ q_1 ∧
 CallsH Tryz.prog 110 #[(.agg #[(.int .u64 x22f0_), (.int .u64 x22f1_)]), (.agg #[(.int .u64 x26f0_), (.int .u64 x26f1_)])] q_1 fun en_1 q_2 =>
 ∃ x27f0_ : Int, ∃ x27f1_ : Int, en_1 = .returned (.agg #[(.int .u64 x27f0_), (.int .u64 x27f1_)]) ∧
 Cv_ q_2 ∧
 ∃ x29f0_ : Int, ∃ x29f1_ : Int, (∀ h', Cv_ h' → cellsAt h' b_ (0 + 0) [(.int .u64 x29f0_), (.int .u64 x29f1_)]) ∧
 ∃ x30_, EqV Tryz.prog 40 (.agg #[(.int .u64 x27f0_), (.int .u64 x27f1_)]) (.agg #[(.int .u64 x29f0_), (.int .u64 x29f1_)]) x30_ ∧
 R (.returned (.bool x30_)) q_2) ∧
 (x18_ = false →
 R (.returned (.bool false)) q_))) ∧
 ((decide (x10_ ≤ x11_)) = false →
 R (.returned (.bool false)) q_))) ∧
 ((decide ((0 : Int) ≤ x6_)) = false →
 R (.returned (.bool false)) q_))) :
 CallsH Tryz.prog 114 #[(.agg #[(.int .u64 mf0_), (.int .u64 mf1_), (.int .u64 mf2_), (.int .u64 mf3_), (.int .i64 mf4_)]), (.pointer a1_), (.pointer a2_)] h R := calls_vc fine false Tryz.func114 (ann := A114) (args := [(.agg #[(.int .u64 mf0_), (.int .u64 mf1_), (.int .u64 mf2_), (.int .u64 mf3_), (.int .i64 mf4_)]), (.pointer a1_), (.pointer a2_)]) (by kernel_rfl) (Eq.mpr (by kernel_rfl) H)
def A115 : Ann := (.seq .nil (.seq .nil (.seq .nil .nil)))
theorem V115 (width_ : Int) (n_ : Int) (h : Hp) (R : Ending → Hp → Prop) (H :
 ∀ b_ q_, b_ = h.size → q_ = h.push (.cells (zeros Tryz.prog 40) 40) → (∃ i z, Tryz.prog.info? 40 = some i ∧ i.zero = some z) ∧
 CallsH Tryz.prog 108 #[(.int .i64 width_)] q_ fun en_ q_1 =>
 ∃ x8f0_ : Int, ∃ x8f1_ : Int, en_ = .returned (.agg #[(.int .u64 x8f0_), (.int .u64 x8f1_)]) ∧
 ∃ x11_, IntKind.i64.wrap (width_ - n_) = x11_ ∧
 CallsH Tryz.prog 108 #[(.int .i64 x11_)] q_1 fun en_1 q_2 =>
 ∃ x12f0_ : Int, ∃ x12f1_ : Int, en_1 = .returned (.agg #[(.int .u64 x12f0_), (.int .u64 x12f1_)]) ∧
 ∀ b_1 q_3, b_1 = q_2.size → q_3 = q_2.push (.cells (zeros Tryz.prog 40) 40) → (∃ i z, Tryz.prog.info? 40 = some i ∧ i.zero = some z) ∧
 ∀ b_2 q_4, b_2 = q_3.size → q_4 = q_3.push (.cells (zeros Tryz.prog 40) 40) → (∃ i z, Tryz.prog.info? 40 = some i ∧ i.zero = some z) ∧
 List.length [(Value.int .u64 x8f0_), (.int .u64 x8f1_)] = 2 ∧ (∀ c ∈ [(Value.int .u64 x8f0_), (.int .u64 x8f1_)], c.oneCell' = true) ∧ wrAt q_4 b_1 0 2 ∧ ∀ q_5, q_5 = setsH q_4 b_1 0 [(.int .u64 x8f0_), (.int .u64 x8f1_)] →
 List.length [(Value.int .u64 x12f0_), (.int .u64 x12f1_)] = 2 ∧ (∀ c ∈ [(Value.int .u64 x12f0_), (.int .u64 x12f1_)], c.oneCell' = true) ∧ wrAt q_5 b_2 0 2 ∧ ∀ q_6, q_6 = setsH q_5 b_2 0 [(.int .u64 x12f0_), (.int .u64 x12f1_)] →
 ∃ x14_ : Int, cellsAt q_6 b_1 (0 + 0) [(.int .u64 x14_)] ∧
 ∃ x16_ : Int, cellsAt q_6 b_2 (0 + 0) [(.int .u64 x16_)] ∧
 ∃ x17_, clrI .u64 x14_ x16_ = x17_ ∧
 ∃ x19_ : Int, cellsAt q_6 b_1 (0 + 1) [(.int .u64 x19_)] ∧
 ∃ x21_ : Int, cellsAt q_6 b_2 (0 + 1) [(.int .u64 x21_)] ∧
 ∃ x22_, clrI .u64 x19_ x21_ = x22_ ∧
 List.length [(Value.int .u64 x17_), (.int .u64 x22_)] = 2 ∧ (∀ c ∈ [(Value.int .u64 x17_), (.int .u64 x22_)], c.oneCell' = true) ∧ wrAt q_6 b_ 0 2 ∧ ∀ q_7, q_7 = setsH q_6 b_ 0 [(.int .u64 x17_), (.int .u64 x22_)] →
 ∃ resf0_ : Int, ∃ resf1_ : Int, cellsAt q_7 b_ 0 [(.int .u64 resf0_), (.int .u64 resf1_)] ∧
 R (.returned (.agg #[(.int .u64 resf0_), (.int .u64 resf1_)])) q_7) :
 CallsH Tryz.prog 115 #[(.int .i64 width_), (.int .i64 n_)] h R := calls_vc fine false Tryz.func115 (ann := A115) (args := [(.int .i64 width_), (.int .i64 n_)]) (by kernel_rfl) (Eq.mpr (by kernel_rfl) H)
def A119 : Ann := (.seq .nil (.seq (.drawLast [16]) .nil))
theorem V119 (mf0_ : Int) (mf1_ : Int) (mf2_ : Int) (mf3_ : Int) (mf4_ : Int) (a1_ : Option Addr) (h : Hp) (R : Ending → Hp → Prop) (H :
 ∀ b_ q_, b_ = h.size → q_ = h.push (.cells #[(.int .u64 mf0_), (.int .u64 mf1_), (.int .u64 mf2_), (.int .u64 mf3_), (.int .i64 mf4_)] 50) →
 ∃ Cv_ : Hp → Prop, Cv_ q_ ∧
 ∃ x5_ : Int, cellsAt q_ b_ (0 + 4) [(.int .i64 x5_)] ∧
 (((decide (x5_ = (0 : Int))) = true →
 ∃ b_1 o_, a1_ = some ⟨b_1, o_, none⟩ ∧
 ∃ x8_ : Value, cellsAt q_ b_1 o_ [x8_] ∧
 ∃ x10f0_ : Int, ∃ x10f1_ : Int, cellsAt q_ b_ (0 + 2) [(.int .u64 x10f0_), (.int .u64 x10f1_)] ∧
 ∃ fn_ fst_ cap_, x8_ = Value.func (.func fn_) fst_ cap_ ∧ bodied Tryz.prog fn_ = true ∧
 CallsH Tryz.prog fn_ (fst_.toList ++ [(Value.agg #[(.int .u64 x10f0_), (.int .u64 x10f1_)])] ++ cap_.toList).toArray q_ fun en_ q_1 =>
 ∃ x11_ : Bool, en_ = .returned (.bool x11_) ∧
 Cv_ q_1 ∧
 ((x11_ = true →
 ∃ x15f0_ : Int, ∃ x15f1_ : Int, cellsAt q_1 b_ (0 + 0) [(.int .u64 x15f0_), (.int .u64 x15f1_)] ∧
 ∃ x17f0_ : Int, ∃ x17f1_ : Int, cellsAt q_1 b_ (0 + 2) [(.int .u64 x17f0_), (.int .u64 x17f1_)] ∧
 CallsH Tryz.prog 110 #[(.agg #[(.int .u64 x15f0_), (.int .u64 x15f1_)]), (.agg #[(.int .u64 x17f0_), (.int .u64 x17f1_)])] q_1 fun en_1 q_2 =>
 ∃ x18f0_ : Int, ∃ x18f1_ : Int, en_1 = .returned (.agg #[(.int .u64 x18f0_), (.int .u64 x18f1_)]) ∧
 Cv_ q_2 ∧
 ∃ x20f0_ : Int, ∃ x20f1_ : Int, (∀ h', Cv_ h' → cellsAt h' b_ (0 + 0) [(.int .u64 x20f0_), (.int .u64 x20f1_)]) ∧
 ∃ x21_, EqV Tryz.prog 40 (.agg #[(.int .u64 x18f0_), (.int .u64 x18f1_)]) (.agg #[(.int .u64 x20f0_), (.int .u64 x20f1_)]) x21_ ∧
 R (.returned (.bool x21_)) q_2) ∧
 (x11_ = false →
 R (.returned (.bool false)) q_1))) ∧
 ((decide (x5_ = (0 : Int))) = false →
 R (.returned (.bool false)) q_))) :
 CallsH Tryz.prog 119 #[(.agg #[(.int .u64 mf0_), (.int .u64 mf1_), (.int .u64 mf2_), (.int .u64 mf3_), (.int .i64 mf4_)]), (.pointer a1_)] h R := calls_vc fine false Tryz.func119 (ann := A119) (args := [(.agg #[(.int .u64 mf0_), (.int .u64 mf1_), (.int .u64 mf2_), (.int .u64 mf3_), (.int .i64 mf4_)]), (.pointer a1_)]) (by kernel_rfl) (Eq.mpr (by kernel_rfl) H)
def A149 : Ann := (.seq .nil (.seq (.seq .nil (.cond (.seq .dead .dead) .nil)) (.seq .nil (.seq (.seq .nil (.cond (.seq .nil .nil) .nil)) (.cut (.orders 9 [[0, 1, 2, 3, 4, 5, 6, 7, 8, 9, 10], [0, 1, 2, 3, 4, 9, 5, 6, 7, 8, 10]] [0, 3, 4, 8]) [(10, .ptr)] (.seq (.drawLast [0, 3, 4]) (.cut (.seq .nil (.cond .nil .nil)) [] (.seq .nil (.seq .nil (.seq (.seq .nil (.cond .nil .nil)) (.seq .nil .nil)))))))))))
theorem V149 (l_ : Option Addr) (ef0p_ : Option Addr) (ef0n_ ef0c_ : Nat) (ef1_ : Int) (ef2_ : ByteArray) (ef3p_ : Option Addr) (ef3n_ ef3c_ : Nat) (h : Hp) (R : Ending → Hp → Prop) (H :
 ∀ b_ q_, b_ = h.size → q_ = h.push (.cells #[(.slice ef0p_ ef0n_ ef0c_), (.int .i64 ef1_), (.string ef2_), (.slice ef3p_ ef3n_ ef3c_)] 53) →
 ∀ b_1 q_1, b_1 = q_.size → q_1 = q_.push (.cells (zeros Tryz.prog 53) 53) → (∃ i z, Tryz.prog.info? 53 = some i ∧ i.zero = some z) ∧
 ∃ x12_, EqV Tryz.prog 83 (.pointer l_) (.pointer none) x12_ ∧
 ((x12_ = true →
 False) ∧
 (x12_ = false →
 ∃ (x16f0p_ : Option Addr) (x16f0n_ x16f0c_ : Nat), ∃ x16f1_ : Int, ∃ x16f2_ : ByteArray, ∃ (x16f3p_ : Option Addr) (x16f3n_ x16f3c_ : Nat), cellsAt q_1 b_ 0 [(.slice x16f0p_ x16f0n_ x16f0c_), (.int .i64 x16f1_), (.string x16f2_), (.slice x16f3p_ x16f3n_ x16f3c_)] ∧
 CallsH Tryz.prog 157 #[(.pointer l_), (.agg #[(.slice x16f0p_ x16f0n_ x16f0c_), (.int .i64 x16f1_), (.string x16f2_), (.slice x16f3p_ x16f3n_ x16f3c_)])] q_1 fun en_ q_2 =>
 ∃ x17r0_ : Option Addr, ∃ x17r1f0_ : Int, ∃ x17r1f1_ : Int, ∃ x17r1f2_ : Int, ∃ x17r1f3_ : Int, ∃ x17r1f4_ : Int, ∃ x17r1f5_ : Int, ∃ x17r1f6_ : Int, ∃ x17r1f7_ : Int, ∃ x17r1f8_ : Int, ∃ x17r1f9_ : Int, ∃ x17r1f10_ : Int, ∃ x17r1f11_ : Int, ∃ x17r1f12_ : Int, ∃ x17r1f13_ : Int, ∃ x17r1f14_ : Int, ∃ x17r1f15_ : Int, ∃ x17r2_ : Int, ∃ x17r3_ : Bool, en_ = .returned (.tuple #[(.pointer x17r0_), (.agg #[(.int .u64 x17r1f0_), (.int .u64 x17r1f1_), (.int .u64 x17r1f2_), (.int .u64 x17r1f3_), (.int .u64 x17r1f4_), (.int .u64 x17r1f5_), (.int .u64 x17r1f6_), (.int .u64 x17r1f7_), (.int .u64 x17r1f8_), (.int .u64 x17r1f9_), (.int .u64 x17r1f10_), (.int .u64 x17r1f11_), (.int .u64 x17r1f12_), (.int .u64 x17r1f13_), (.int .u64 x17r1f14_), (.int .u64 x17r1f15_)]), (.int .i64 x17r2_), (.bool x17r3_)]) ∧
 ∀ b_2 q_3, b_2 = q_2.size → q_3 = q_2.push (.cells (zeros Tryz.prog 239) 239) → (∃ i z, Tryz.prog.info? 239 = some i ∧ i.zero = some z) ∧
 ∀ b_3 q_4, b_3 = q_3.size → q_4 = q_3.push (.cells (zeros Tryz.prog 241) 241) → (∃ i z, Tryz.prog.info? 241 = some i ∧ i.zero = some z) ∧
 Value.oneCell' (.pointer x17r0_) = true ∧ wrAt q_4 b_2 0 1 ∧ ∀ q_5, q_5 = setsH q_4 b_2 0 [(.pointer x17r0_)] →
 List.length [(Value.int .u64 x17r1f0_), (.int .u64 x17r1f1_), (.int .u64 x17r1f2_), (.int .u64 x17r1f3_), (.int .u64 x17r1f4_), (.int .u64 x17r1f5_), (.int .u64 x17r1f6_), (.int .u64 x17r1f7_), (.int .u64 x17r1f8_), (.int .u64 x17r1f9_), (.int .u64 x17r1f10_), (.int .u64 x17r1f11_), (.int .u64 x17r1f12_), (.int .u64 x17r1f13_), (.int .u64 x17r1f14_), (.int .u64 x17r1f15_)] = 16 ∧ (∀ c ∈ [(Value.int .u64 x17r1f0_), (.int .u64 x17r1f1_), (.int .u64 x17r1f2_), (.int .u64 x17r1f3_), (.int .u64 x17r1f4_), (.int .u64 x17r1f5_), (.int .u64 x17r1f6_), (.int .u64 x17r1f7_), (.int .u64 x17r1f8_), (.int .u64 x17r1f9_), (.int .u64 x17r1f10_), (.int .u64 x17r1f11_), (.int .u64 x17r1f12_), (.int .u64 x17r1f13_), (.int .u64 x17r1f14_), (.int .u64 x17r1f15_)], c.oneCell' = true) ∧ wrAt q_5 b_3 0 16 ∧ ∀ q_6, q_6 = setsH q_5 b_3 0 [(.int .u64 x17r1f0_), (.int .u64 x17r1f1_), (.int .u64 x17r1f2_), (.int .u64 x17r1f3_), (.int .u64 x17r1f4_), (.int .u64 x17r1f5_), (.int .u64 x17r1f6_), (.int .u64 x17r1f7_), (.int .u64 x17r1f8_), (.int .u64 x17r1f9_), (.int .u64 x17r1f10_), (.int .u64 x17r1f11_), (.int .u64 x17r1f12_), (.int .u64 x17r1f13_), (.int .u64 x17r1f14_), (.int .u64 x17r1f15_)] →
 (((!x17r3_) = true →
 List.length [(Value.slice none 0 0), (.int .i64 (0 : Int)), (.string (⟨#[]⟩ : ByteArray)), (.slice none 0 0)] = 4 ∧ (∀ c ∈ [(Value.slice none 0 0), (.int .i64 (0 : Int)), (.string (⟨#[]⟩ : ByteArray)), (.slice none 0 0)], c.oneCell' = true) ∧ wrAt q_6 b_1 0 4 ∧ ∀ q_7, q_7 = setsH q_6 b_1 0 [(.slice none 0 0), (.int .i64 (0 : Int)), (.string (⟨#[]⟩ : ByteArray)), (.slice none 0 0)] →
 ∃ (resf0p_ : Option Addr) (resf0n_ resf0c_ : Nat), ∃ resf1_ : Int, ∃ resf2_ : ByteArray, ∃ (resf3p_ : Option Addr) (resf3n_ resf3c_ : Nat), cellsAt q_7 b_1 0 [(.slice resf0p_ resf0n_ resf0c_), (.int .i64 resf1_), (.string resf2_), (.slice resf3p_ resf3n_ resf3c_)] ∧
 R (.returned (.tuple #[(.agg #[(.slice resf0p_ resf0n_ resf0c_), (.int .i64 resf1_), (.string resf2_), (.slice resf3p_ resf3n_ resf3c_)]), (.bool false)])) q_7) ∧
 ((!x17r3_) = false →
 ∃ Jv_ : List Value → Hp → Prop,
 ((∃ Cv_ : Hp → Prop, Cv_ q_6 ∧
 ∃ x25_ : Option Addr, (∀ h', Cv_ h' → cellsAt h' b_2 0 [(.pointer x25_)]) ∧
 ∃ b_4 o_, x25_ = some ⟨b_4, o_, none⟩ ∧
 ∃ x28_ : Option Nat, (∀ h', Cv_ h' → cellsAt h' b_4 (o_ + 1) [(.map x28_)]) ∧
 ∃ x29f0_ : Int, ∃ x29f1_ : Int, ∃ x29f2_ : Int, ∃ x29f3_ : Int, ∃ x29f4_ : Int, ∃ x29f5_ : Int, ∃ x29f6_ : Int, ∃ x29f7_ : Int, ∃ x29f8_ : Int, ∃ x29f9_ : Int, ∃ x29f10_ : Int, ∃ x29f11_ : Int, ∃ x29f12_ : Int, ∃ x29f13_ : Int, ∃ x29f14_ : Int, ∃ x29f15_ : Int, (∀ h', Cv_ h' → cellsAt h' b_3 0 [(.int .u64 x29f0_), (.int .u64 x29f1_), (.int .u64 x29f2_), (.int .u64 x29f3_), (.int .u64 x29f4_), (.int .u64 x29f5_), (.int .u64 x29f6_), (.int .u64 x29f7_), (.int .u64 x29f8_), (.int .u64 x29f9_), (.int .u64 x29f10_), (.int .u64 x29f11_), (.int .u64 x29f12_), (.int .u64 x29f13_), (.int .u64 x29f14_), (.int .u64 x29f15_)]) ∧
 SemH Tryz.prog (Instr.lookup 244 (.map x28_) (.agg #[(.int .u64 x29f0_), (.int .u64 x29f1_), (.int .u64 x29f2_), (.int .u64 x29f3_), (.int .u64 x29f4_), (.int .u64 x29f5_), (.int .u64 x29f6_), (.int .u64 x29f7_), (.int .u64 x29f8_), (.int .u64 x29f9_), (.int .u64 x29f10_), (.int .u64 x29f11_), (.int .u64 x29f12_), (.int .u64 x29f13_), (.int .u64 x29f14_), (.int .u64 x29f15_)]) false) q_6 fun v_ q_8 =>
 ∃ (x30p_ : Option Addr) (x30n_ x30c_ : Nat), v_ = (.slice x30p_ x30n_ x30c_) ∧
 Cv_ q_8 ∧
 ∃ b_5 o_1, x30p_ = some ⟨b_5, o_1, none⟩ ∧ 0 ≤ x17r2_ ∧ x17r2_ < (x30n_ : Int) ∧
 ∃ (x33f0p_ : Option Addr) (x33f0n_ x33f0c_ : Nat), ∃ x33f1_ : Int, ∃ x33f2_ : ByteArray, ∃ (x33f3p_ : Option Addr) (x33f3n_ x33f3c_ : Nat), (∀ h', Cv_ h' → cellsAt h' b_5 (o_1 + Int.toNat x17r2_ * 4) [(.slice x33f0p_ x33f0n_ x33f0c_), (.int .i64 x33f1_), (.string x33f2_), (.slice x33f3p_ x33f3n_ x33f3c_)]) ∧
 ∀ b_6 q_9, b_6 = q_8.size → q_9 = q_8.push (.cells (zeros Tryz.prog 53) 53) → (∃ i z, Tryz.prog.info? 53 = some i ∧ i.zero = some z) ∧
 Cv_ q_9 ∧
 List.length [(Value.slice x33f0p_ x33f0n_ x33f0c_), (.int .i64 x33f1_), (.string x33f2_), (.slice x33f3p_ x33f3n_ x33f3c_)] = 4 ∧ (∀ c ∈ [(Value.slice x33f0p_ x33f0n_ x33f0c_), (.int .i64 x33f1_), (.string x33f2_), (.slice x33f3p_ x33f3n_ x33f3c_)], c.oneCell' = true) ∧ wrAt q_9 b_6 0 4 ∧ ∀ q_10, q_10 = setsH q_9 b_6 0 [(.slice x33f0p_ x33f0n_ x33f0c_), (.int .i64 x33f1_), (.string x33f2_), (.slice x33f3p_ x33f3n_ x33f3c_)] →
 Cv_ q_10 ∧
 Jv_ [(.pointer (some ⟨b_6, 0, none⟩))] q_10) ∧
 (∃ Cv_1 : Hp → Prop, Cv_1 q_6 ∧
 ∃ x25_1 : Option Addr, (∀ h', Cv_1 h' → cellsAt h' b_2 0 [(.pointer x25_1)]) ∧
 ∃ b_7 o_2, x25_1 = some ⟨b_7, o_2, none⟩ ∧
 ∃ x28_1 : Option Nat, (∀ h', Cv_1 h' → cellsAt h' b_7 (o_2 + 1) [(.map x28_1)]) ∧
 ∃ x29f0_1 : Int, ∃ x29f1_1 : Int, ∃ x29f2_1 : Int, ∃ x29f3_1 : Int, ∃ x29f4_1 : Int, ∃ x29f5_1 : Int, ∃ x29f6_1 : Int, ∃ x29f7_1 : Int, ∃ x29f8_1 : Int, ∃ x29f9_1 : Int, ∃ x29f10_1 : Int, ∃ x29f11_1 : Int, ∃ x29f12_1 : Int, ∃ x29f13_1 : Int, ∃ x29f14_1 : Int, ∃ x29f15_1 : Int, (∀ h', Cv_1 h' → cellsAt h' b_3 0 [(.int .u64 x29f0_1), (.int .u64 x29f1_1), (.int .u64 x29f2_1), (.int .u64 x29f3_1), (.int .u64 x29f4_1), (.int .u64 x29f5_1), (.int .u64 x29f6_1), (.int .u64 x29f7_1), (.int .u64 x29f8_1), (.int .u64 x29f9_1), (.int .u64 x29f10_1), (.int .u64 x29f11_1), (.int .u64 x29f12_1), (.int .u64 x29f13_1), (.int .u64 x29f14_1), (.int .u64 x29f15_1)]) ∧
 ∀ b_8 q_11, b_8 = q_6.size → q_11 = q_6.push (.cells (zeros Tryz.prog 53) 53) → (∃ i z, Tryz.prog.info? 53 = some i ∧ i.zero = some z) ∧
 Cv_1 q_11 ∧
 SemH Tryz.prog (Instr.lookup 244 (.map x28_1) (.agg #[(.int .u64 x29f0_1), (.int .u64 x29f1_1), (.int .u64 x29f2_1), (.int .u64 x29f3_1), (.int .u64 x29f4_1), (.int .u64 x29f5_1), (.int .u64 x29f6_1), (.int .u64 x29f7_1), (.int .u64 x29f8_1), (.int .u64 x29f9_1), (.int .u64 x29f10_1), (.int .u64 x29f11_1), (.int .u64 x29f12_1), (.int .u64 x29f13_1), (.int .u64 x29f14_1), (.int .u64 x29f15_1)]) false) q_11 fun v_1 q_12 =>
 ∃ (x30p_1 : Option Addr) (x30n_1 x30c_1 : Nat), v_1 = (.slice x30p_1 x30n_1 x30c_1) ∧
 Cv_1 q_12 ∧
 ∃ b_9 o_3, x30p_1 = some ⟨b_9, o_3, none⟩ ∧ 0 ≤ x17r2_ ∧ x17r2_ < (x30n_1 : Int) ∧
 ∃ (x33f0p_1 : Option Addr) (x33f0n_1 x33f0c_1 : Nat), ∃ x33f1_1 : Int, ∃ x33f2_1 : ByteArray, ∃ (x33f3p_1 : Option Addr) (x33f3n_1 x33f3c_1 : Nat), (∀ h', Cv_1 h' → cellsAt h' b_9 (o_3 + Int.toNat x17r2_ * 4) [(.slice x33f0p_1 x33f0n_1 x33f0c_1), (.int .i64 x33f1_1), (.string x33f2_1), (.slice x33f3p_1 x33f3n_1 x33f3c_1)]) ∧
 List.length [(Value.slice x33f0p_1 x33f0n_1 x33f0c_1), (.int .i64 x33f1_1), (.string x33f2_1), (.slice x33f3p_1 x33f3n_1 x33f3c_1)] = 4 ∧ (∀ c ∈ [(Value.slice x33f0p_1 x33f0n_1 x33f0c_1), (.int .i64 x33f1_1), (.string x33f2_1), (.slice x33f3p_1 x33f3n_1 x33f3c_1)], c.oneCell' = true) ∧ wrAt q_12 b_8 0 4 ∧ ∀ q_13, q_13 = setsH q_12 b_8 0 [(.slice x33f0p_1 x33f0n_1 x33f0c_1), (.int .i64 x33f1_1), (.string x33f2_1), (.slice x33f3p_1 x33f3n_1 x33f3c_1)] →
 Cv_1 q_13 ∧
 Jv_ [(.pointer (some ⟨b_8, 0, none⟩))] q_13)) ∧
 (∀ (x_ : Option Addr) q_14, Jv_ [(.pointer x_)] q_14 →
 ∃ Cv_2 : Hp → Prop, Cv_2 q_14 ∧
 ∃ x34_ : Option Addr, (∀ h', Cv_2 h' → cellsAt h' b_2 0 [(.pointer x34_)]) ∧
 ∃ b_10 o_4, x34_ = some ⟨b_10, o_4, none⟩ ∧
 ∃ x37_ : Option Nat, (∀ h', Cv_2 h' → cellsAt h' b_10 (o_4 + 1) [(.map x37_)]) ∧
 ∃ x38f0_ : Int, ∃ x38f1_ : Int, ∃ x38f2_ : Int, ∃ x38f3_ : Int, ∃ x38f4_ : Int, ∃ x38f5_ : Int, ∃ x38f6_ : Int, ∃ x38f7_ : Int, ∃ x38f8_ : Int, ∃ x38f9_ : Int, ∃ x38f10_ : Int, ∃ x38f11_ : Int, ∃ x38f12_ : Int, ∃ x38f13_ : Int, ∃ x38f14_ : Int, ∃ x38f15_ : Int, (∀ h', Cv_2 h' → cellsAt h' b_3 0 [(.int .u64 x38f0_), (.int .u64 x38f1_), (.int .u64 x38f2_), (.int .u64 x38f3_), (.int .u64 x38f4_), (.int .u64 x38f5_), (.int .u64 x38f6_), (.int .u64 x38f7_), (.int .u64 x38f8_), (.int .u64 x38f9_), (.int .u64 x38f10_), (.int .u64 x38f11_), (.int .u64 x38f12_), (.int .u64 x38f13_), (.int .u64 x38f14_), (.int .u64 x38f15_)]) ∧
 ∃ x39_ : Option Addr, cellsAt q_14 b_2 0 [(.pointer x39_)] ∧
 ∃ b_11 o_5, x39_ = some ⟨b_11, o_5, none⟩ ∧
 ∃ x42_ : Option Nat, cellsAt q_14 b_11 (o_5 + 1) [(.map x42_)] ∧
 ∃ x43f0_ : Int, ∃ x43f1_ : Int, ∃ x43f2_ : Int, ∃ x43f3_ : Int, ∃ x43f4_ : Int, ∃ x43f5_ : Int, ∃ x43f6_ : Int, ∃ x43f7_ : Int, ∃ x43f8_ : Int, ∃ x43f9_ : Int, ∃ x43f10_ : Int, ∃ x43f11_ : Int, ∃ x43f12_ : Int, ∃ x43f13_ : Int, ∃ x43f14_ : Int, ∃ x43f15_ : Int, cellsAt q_14 b_3 0 [(.int .u64 x43f0_), (.int .u64 x43f1_), (.int .u64 x43f2_), (.int .u64 x43f3_), (.int .u64 x43f4_), (.int .u64 x43f5_), (.int .u64 x43f6_), (.int .u64 x43f7_), (.int .u64 x43f8_), (.int .u64 x43f9_), (.int .u64 x43f10_), (.int .u64 x43f11_), (.int .u64 x43f12_), (.int .u64 x43f13_), (.int .u64 x43f14_), (.int .u64 x43f15_)] ∧
 SemH Tryz.prog (Instr.lookup 244 (.map x42_) (.agg #[(.int .u64 x43f0_), (.int .u64 x43f1_), (.int .u64 x43f2_), (.int .u64 x43f3_), (.int .u64 x43f4_), (.int .u64 x43f5_), (.int .u64 x43f6_), (.int .u64 x43f7_), (.int .u64 x43f8_), (.int .u64 x43f9_), (.int .u64 x43f10_), (.int .u64 x43f11_), (.int .u64 x43f12_), (.int .u64 x43f13_), (.int .u64 x43f14_), (.int .u64 x43f15_)]) false) q_14 fun v_2 q_15 =>
 ∃ (x44p_ : Option Addr) (x44n_ x44c_ : Nat), v_2 = (.slice x44p_ x44n_ x44c_) ∧
 Cv_2 q_15 ∧
 ∃ x47_, IntKind.i64.wrap (x17r2_ + (1 : Int)) = x47_ ∧
 CallsH Tryz.prog 158 #[(.slice x44p_ x44n_ x44c_), (.int .i64 x17r2_), (.int .i64 x47_)] q_15 fun en_1 q_16 =>
 ∃ (x48p_ : Option Addr) (x48n_ x48c_ : Nat), en_1 = .returned (.slice x48p_ x48n_ x48c_) ∧
 Cv_2 q_16 ∧
 SemH Tryz.prog (Instr.mapUpdate 244 (.map x37_) (.agg #[(.int .u64 x38f0_), (.int .u64 x38f1_), (.int .u64 x38f2_), (.int .u64 x38f3_), (.int .u64 x38f4_), (.int .u64 x38f5_), (.int .u64 x38f6_), (.int .u64 x38f7_), (.int .u64 x38f8_), (.int .u64 x38f9_), (.int .u64 x38f10_), (.int .u64 x38f11_), (.int .u64 x38f12_), (.int .u64 x38f13_), (.int .u64 x38f14_), (.int .u64 x38f15_)]) (.slice x48p_ x48n_ x48c_)) q_16 fun _ q_17 =>
 ∃ Jv_1 : List Value → Hp → Prop,
 (∃ x49_ : Option Addr, cellsAt q_17 b_2 0 [(.pointer x49_)] ∧
 ∃ b_12 o_6, x49_ = some ⟨b_12, o_6, none⟩ ∧
 ∃ x52_ : Option Nat, cellsAt q_17 b_12 (o_6 + 1) [(.map x52_)] ∧
 ∃ x53f0_ : Int, ∃ x53f1_ : Int, ∃ x53f2_ : Int, ∃ x53f3_ : Int, ∃ x53f4_ : Int, ∃ x53f5_ : Int, ∃ x53f6_ : Int, ∃ x53f7_ : Int, ∃ x53f8_ : Int, ∃ x53f9_ : Int, ∃ x53f10_ : Int, ∃ x53f11_ : Int, ∃ x53f12_ : Int, ∃ x53f13_ : Int, ∃ x53f14_ : Int, ∃ x53f15_ : Int, cellsAt q_17 b_3 0 [(.int .u64 x53f0_), (.int .u64 x53f1_), (.int .u64 x53f2_), (.int .u64 x53f3_), (.int .u64 x53f4_), (.int .u64 x53f5_), (.int .u64 x53f6_), (.int .u64 x53f7_), (.int .u64 x53f8_), (.int .u64 x53f9_), (.int .u64 x53f10_), (.int .u64 x53f11_), (.int .u64 x53f12_), (.int .u64 x53f13_), (.int .u64 x53f14_), (.int .u64 x53f15_)] ∧
 SemH Tryz.prog (Instr.lookup 244 (.map x52_) (.agg #[(.int .u64 x53f0_), (.int .u64 x53f1_), (.int .u64 x53f2_), (.int .u64 x53f3_), (.int .u64 x53f4_), (.int .u64 x53f5_), (.int .u64 x53f6_), (.int .u64 x53f7_), (.int .u64 x53f8_), (.int .u64 x53f9_), (.int .u64 x53f10_), (.int .u64 x53f11_), (.int .u64 x53f12_), (.int .u64 x53f13_), (.int .u64 x53f14_), (.int .u64 x53f15_)]) false) q_17 fun v_3 q_18 =>
 ∃ (x54p_ : Option Addr) (x54n_ x54c_ : Nat), v_3 = (.slice x54p_ x54n_ x54c_) ∧
 (((decide (((x54n_ : Nat) : Int) = (0 : Int))) = true →
 ∃ x57_ : Option Addr, cellsAt q_18 b_2 0 [(.pointer x57_)] ∧
 ∃ b_13 o_7, x57_ = some ⟨b_13, o_7, none⟩ ∧
 ∃ x60_ : Option Nat, cellsAt q_18 b_13 (o_7 + 1) [(.map x60_)] ∧
 ∃ x61f0_ : Int, ∃ x61f1_ : Int, ∃ x61f2_ : Int, ∃ x61f3_ : Int, ∃ x61f4_ : Int, ∃ x61f5_ : Int, ∃ x61f6_ : Int, ∃ x61f7_ : Int, ∃ x61f8_ : Int, ∃ x61f9_ : Int, ∃ x61f10_ : Int, ∃ x61f11_ : Int, ∃ x61f12_ : Int, ∃ x61f13_ : Int, ∃ x61f14_ : Int, ∃ x61f15_ : Int, cellsAt q_18 b_3 0 [(.int .u64 x61f0_), (.int .u64 x61f1_), (.int .u64 x61f2_), (.int .u64 x61f3_), (.int .u64 x61f4_), (.int .u64 x61f5_), (.int .u64 x61f6_), (.int .u64 x61f7_), (.int .u64 x61f8_), (.int .u64 x61f9_), (.int .u64 x61f10_), (.int .u64 x61f11_), (.int .u64 x61f12_), (.int .u64 x61f13_), (.int .u64 x61f14_), (.int .u64 x61f15_)] ∧
 SemH Tryz.prog (Builtin.delete_ #[244, 241] 0 #[(.map x60_), (.agg #[(.int .u64 x61f0_), (.int .u64 x61f1_), (.int .u64 x61f2_), (.int .u64 x61f3_), (.int .u64 x61f4_), (.int .u64 x61f5_), (.int .u64 x61f6_), (.int .u64 x61f7_), (.int .u64 x61f8_), (.int .u64 x61f9_), (.int .u64 x61f10_), (.int .u64 x61f11_), (.int .u64 x61f12_), (.int .u64 x61f13_), (.int .u64 x61f14_), (.int .u64 x61f15_)])]) q_18 fun v_4 q_19 =>
 v_4 = (.tuple #[]) ∧
 Jv_1 [] q_19) ∧
 ((decide (((x54n_ : Nat) : Int) = (0 : Int))) = false →
 Jv_1 [] q_18))) ∧
 (∀  q_20, Jv_1 [] q_20 →
 ∃ x62_ : Option Addr, cellsAt q_20 b_2 0 [(.pointer x62_)] ∧
 ∃ b_14 o_8, x62_ = some ⟨b_14, o_8, none⟩ ∧
 ∃ x65_ : Int, cellsAt q_20 b_14 (o_8 + 2) [(.int .i64 x65_)] ∧
 ∃ x66_, IntKind.i64.wrap (x65_ - (1 : Int)) = x66_ ∧
 ∃ b_15 o_9, x62_ = some ⟨b_15, o_9, none⟩ ∧
 Value.oneCell' (.int .i64 x66_) = true ∧ wrAt q_20 b_15 (o_9 + 2) 1 ∧ ∀ q_21, q_21 = setsH q_20 b_15 (o_9 + 2) [(.int .i64 x66_)] →
 ∃ b_16 o_10, l_ = some ⟨b_16, o_10, none⟩ ∧
 ∃ x72_ : Int, cellsAt q_21 b_16 (o_10 + 10) [(.int .i64 x72_)] ∧
 ∃ x73_, IntKind.i64.wrap (x72_ - (1 : Int)) = x73_ ∧
 ∃ b_17 o_11, l_ = some ⟨b_17, o_11, none⟩ ∧
 Value.oneCell' (.int .i64 x73_) = true ∧ wrAt q_21 b_17 (o_11 + 10) 1 ∧ ∀ q_22, q_22 = setsH q_21 b_17 (o_11 + 10) [(.int .i64 x73_)] →
 ∃ x76_ : Option Addr, cellsAt q_22 b_2 0 [(.pointer x76_)] ∧
 ∃ b_18 o_12, x76_ = some ⟨b_18, o_12, none⟩ ∧
 ∃ x79_ : Int, cellsAt q_22 b_18 (o_12 + 2) [(.int .i64 x79_)] ∧
 (((decide (x79_ = (0 : Int))) = true →
 ∃ b_19 o_13, l_ = some ⟨b_19, o_13, none⟩ ∧
 ∃ (x85p_ : Option Addr) (x85n_ x85c_ : Nat), cellsAt q_22 b_19 (o_13 + 11) [(.slice x85p_ x85n_ x85c_)] ∧
 CallsH Tryz.prog 159 #[(.slice x85p_ x85n_ x85c_), (.func (.func 160) #[] #[(.pointer (some ⟨b_2, 0, none⟩))])] q_22 fun en_2 q_23 =>
 ∃ (x87p_ : Option Addr) (x87n_ x87c_ : Nat), en_2 = .returned (.slice x87p_ x87n_ x87c_) ∧
 ∃ b_20 o_14, l_ = some ⟨b_20, o_14, none⟩ ∧
 Value.oneCell' (.slice x87p_ x87n_ x87c_) = true ∧ wrAt q_23 b_20 (o_14 + 11) 1 ∧ ∀ q_24, q_24 = setsH q_23 b_20 (o_14 + 11) [(.slice x87p_ x87n_ x87c_)] →
 ∃ b_21 o_15, x_ = some ⟨b_21, o_15, none⟩ ∧
 ∃ (x90f0p_ : Option Addr) (x90f0n_ x90f0c_ : Nat), ∃ x90f1_ : Int, ∃ x90f2_ : ByteArray, ∃ (x90f3p_ : Option Addr) (x90f3n_ x90f3c_ : Nat), cellsAt q_24 b_21 o_15 [(.slice x90f0p_ x90f0n_ x90f0c_), (.int .i64 x90f1_), (.string x90f2_), (.slice x90f3p_ x90f3n_ x90f3c_)] ∧
 List.length [(Value.slice x90f0p_ x90f0n_ x90f0c_), (.int .i64 x90f1_), (.string x90f2_), (.slice x90f3p_ x90f3n_ x90f3c_)] = 4 ∧ (∀ c ∈ [(Value.slice x90f0p_ x90f0n_ x90f0c_), (.int .i64 x90f1_), (.string x90f2_), (.slice x90f3p_ x90f3n_ x90f3c_)], c.oneCell' = true) ∧ wrAt q_24 b_1 0 4 ∧ ∀ q_25, q_25 = setsH q_24 b_1 0 [(.slice x90f0p_ x90f0n_ x90f0c_), (.int .i64 x90f1_), (.string x90f2_), (.slice x90f3p_ x90f3n_ x90f3c_)] →
 ∃ (resf0p_1 : Option Addr) (resf0n_1 resf0c_1 : Nat), ∃ resf1_1 : Int, ∃ resf2_1 : ByteArray, ∃ (resf3p_1 : Option Addr) (resf3n_1 resf3c_1 : Nat), cellsAt q_25 b_1 0 [(.slice resf0p_1 resf0n_1 resf0c_1), (.int .i64 resf1_1), (.string resf2_1), (.slice resf3p_1 resf3n_1 resf3c_1)] ∧
 R (.returned (.tuple #[(.agg #[(.slice resf0p_1 resf0n_1 resf0c_1), (.int .i64 resf1_1), (.string resf2_1), (.slice resf3p_1 resf3n_1 resf3c_1)]), (.bool true)])) q_25) ∧
 ((decide (x79_ = (0 : Int))) = false →
 ∃ b_22 o_16, x_ = some ⟨b_22, o_16, none⟩ ∧
 ∃ (x90f0p_1 : Option Addr) (x90f0n_1 x90f0c_1 : Nat), ∃ x90f1_1 : Int, ∃ x90f2_1 : ByteArray, ∃ (x90f3p_1 : Option Addr) (x90f3n_1 x90f3c_1 : Nat), cellsAt q_22 b_22 o_16 [(.slice x90f0p_1 x90f0n_1 x90f0c_1), (.int .i64 x90f1_1), (.string x90f2_1), (.slice x90f3p_1 x90f3n_1 x90f3c_1)] ∧
 List.length [(Value.slice x90f0p_1 x90f0n_1 x90f0c_1), (.int .i64 x90f1_1), (.string x90f2_1), (.slice x90f3p_1 x90f3n_1 x90f3c_1)] = 4 ∧ (∀ c ∈ [(Value.slice x90f0p_1 x90f0n_1 x90f0c_1), (.int .i64 x90f1_1), (.string x90f2_1), (.slice x90f3p_1 x90f3n_1 x90f3c_1)], c.oneCell' = true) ∧ wrAt q_22 b_1 0 4 ∧ ∀ q_26, q_26 = setsH q_22 b_1 0 [(.slice x90f0p_1 x90f0n_1 x90f0c_1), (.int .i64 x90f1_1), (.string x90f2_1), (.slice x90f3p_1 x90f3n_1 x90f3c_1)] →
 ∃ (resf0p_2 : Option Addr) (resf0n_2 resf0c_2 : Nat), ∃ resf1_2 : Int, ∃ resf2_2 : ByteArray, ∃ (resf3p_2 : Option Addr) (resf3n_2 resf3c_2 : Nat), cellsAt q_26 b_1 0 [(.slice resf0p_2 resf0n_2 resf0c_2), (.int .i64 resf1_2), (.string resf2_2), (.slice resf3p_2 resf3n_2 resf3c_2)] ∧
 R (.returned (.tuple #[(.agg #[(.slice resf0p_2 resf0n_2 resf0c_2), (.int .i64 resf1_2), (.string resf2_2), (.slice resf3p_2 resf3n_2 resf3c_2)]), (.bool true)])) q_26))))))))) :
 CallsH Tryz.prog 149 #[(.pointer l_), (.agg #[(.slice ef0p_ ef0n_ ef0c_), (.int .i64 ef1_), (.string ef2_), (.slice ef3p_ ef3n_ ef3c_)])] h R := calls_vc fine false Tryz.func149 (ann := A149) (args := [(.pointer l_), (.agg #[(.slice ef0p_ ef0n_ ef0c_), (.int .i64 ef1_), (.string ef2_), (.slice ef3p_ ef3n_ ef3c_)])]) (by kernel_rfl) (Eq.mpr (by kernel_rfl) H)
def A150 : Ann := (.seq .nil (.cut (.seq .nil (.cond (.seq .dead .dead) .nil)) [] (.seq .nil (.cut (.seq .nil (.block (.loop [(6, .ptr), (26, (.int .i64))] (.seq .nil (.seq (.cond .nil .nil) (.seq (.block (.seq .nil (.cut (.seq (.join 42) (.cond .nil .nil)) [] (.seq .nil (.seq .nil (.seq .nil (.cond .nil .nil))))))) .nil)))))) [(6, .ptr)] (.seq (.seq .nil (.cond (.seq .nil .nil) .nil)) (.seq .nil .nil))))))
theorem V150 (l_ : Option Addr) (keyp_ : Option Addr) (keyn_ keyc_ : Nat) (h : Hp) (R : Ending → Hp → Prop) (H :
 ∀ b_ q_, b_ = h.size → q_ = h.push (.cells (zeros Tryz.prog 53) 53) → (∃ i z, Tryz.prog.info? 53 = some i ∧ i.zero = some z) ∧
 ∃ Jv_ : List Value → Hp → Prop,
 (∃ x13_, EqV Tryz.prog 83 (.pointer l_) (.pointer none) x13_ ∧
 ((x13_ = true →
 False) ∧
 (x13_ = false →
 CallsH Tryz.prog 161 #[(.pointer l_), (.slice keyp_ keyn_ keyc_)] q_ fun en_ q_1 =>
 ∃ x17_ : Bool, en_ = .returned (.bool x17_) ∧
 (((!x17_) = true →
 False) ∧
 ((!x17_) = false →
 Jv_ [] q_1))))) ∧
 (∀  q_2, Jv_ [] q_2 →
 ∃ Jv_1 : List Value → Hp → Prop,
 (∃ b_1 o_, l_ = some ⟨b_1, o_, none⟩ ∧
 ∃ (x24p_ : Option Addr) (x24n_ x24c_ : Nat), cellsAt q_2 b_1 (o_ + 11) [(.slice x24p_ x24n_ x24c_)] ∧
 ∃ (Iv_ : List Value → Hp → Prop) (m_ : List Value → Hp → Nat), Iv_ [(.pointer none), (.int .i64 (0 : Int))] q_2 ∧
 (∀ (best_ : Option Addr) (x26_ : Int) q_3, Iv_ [(.pointer best_), (.int .i64 x26_)] q_3 →
 (((decide (x26_ < ((x24n_ : Nat) : Int))) = true →
 ∃ b_2 o_1, x24p_ = some ⟨b_2, o_1, none⟩ ∧ 0 ≤ x26_ ∧ x26_ < (x24n_ : Int) ∧
 ∃ x29_ : Option Addr, cellsAt q_3 b_2 (o_1 + Int.toNat x26_ * 1) [(.pointer x29_)] ∧
 ∃ Jv_2 : List Value → Hp → Prop,
 (∃ B_ : Bool, (∃ x31_, EqV Tryz.prog 251 (.pointer best_) (.pointer none) x31_ ∧
 (((!x31_) = true →
 ∃ b_3 o_2, x29_ = some ⟨b_3, o_2, none⟩ ∧
 ∃ x36_ : Int, cellsAt q_3 b_3 (o_2 + 3) [(.int .i64 x36_)] ∧
 ∃ b_4 o_3, best_ = some ⟨b_4, o_3, none⟩ ∧
 ∃ x40_ : Int, cellsAt q_3 b_4 (o_3 + 1) [(.int .i64 x40_)] ∧
 q_3 = q_3 ∧ B_ = (decide (x36_ < x40_))) ∧
 ((!x31_) = false →
 q_3 = q_3 ∧ B_ = false))) ∧
 ((B_ = true →
 Jv_1 [(.pointer best_)] q_3) ∧
 (B_ = false →
 Jv_2 [] q_3))) ∧
 (∀  q_4, Jv_2 [] q_4 →
 ∃ b_5 o_4, x29_ = some ⟨b_5, o_4, none⟩ ∧
 ∃ (x48p_ : Option Addr) (x48n_ x48c_ : Nat), cellsAt q_4 b_5 (o_4 + 0) [(.slice x48p_ x48n_ x48c_)] ∧
 CallsH Tryz.prog 162 #[(.pointer l_), (.slice x48p_ x48n_ x48c_), (.slice keyp_ keyn_ keyc_)] q_4 fun en_1 q_5 =>
 ∃ x50r0f0_ : Int, ∃ x50r0f1_ : Int, ∃ x50r0f2_ : Int, ∃ x50r0f3_ : Int, ∃ x50r0f4_ : Int, ∃ x50r0f5_ : Int, ∃ x50r0f6_ : Int, ∃ x50r0f7_ : Int, ∃ x50r0f8_ : Int, ∃ x50r0f9_ : Int, ∃ x50r0f10_ : Int, ∃ x50r0f11_ : Int, ∃ x50r0f12_ : Int, ∃ x50r0f13_ : Int, ∃ x50r0f14_ : Int, ∃ x50r0f15_ : Int, ∃ x50r1_ : Bool, en_1 = .returned (.tuple #[(.agg #[(.int .u64 x50r0f0_), (.int .u64 x50r0f1_), (.int .u64 x50r0f2_), (.int .u64 x50r0f3_), (.int .u64 x50r0f4_), (.int .u64 x50r0f5_), (.int .u64 x50r0f6_), (.int .u64 x50r0f7_), (.int .u64 x50r0f8_), (.int .u64 x50r0f9_), (.int .u64 x50r0f10_), (.int .u64 x50r0f11_), (.int .u64 x50r0f12_), (.int .u64 x50r0f13_), (.int .u64 x50r0f14_), (.int .u64 x50r0f15_)]), (.bool x50r1_)]) ∧
 ∀ b_6 q_6, b_6 = q_5.size → q_6 = q_5.push (.cells (zeros Tryz.prog 241) 241) → (∃ i z, Tryz.prog.info? 241 = some i ∧ i.zero = some z) ∧
 List.length [(Value.int .u64 x50r0f0_), (.int .u64 x50r0f1_), (.int .u64 x50r0f2_), (.int .u64 x50r0f3_), (.int .u64 x50r0f4_), (.int .u64 x50r0f5_), (.int .u64 x50r0f6_), (.int .u64 x50r0f7_), (.int .u64 x50r0f8_), (.int .u64 x50r0f9_), (.int .u64 x50r0f10_), (.int .u64 x50r0f11_), (.int .u64 x50r0f12_), (.int .u64 x50r0f13_), (.int .u64 x50r0f14_), (.int .u64 x50r0f15_)] = 16 ∧ (∀ c ∈ [(Value.int .u64 x50r0f0_), (.int .u64 x50r0f1_), (.int .u64 x50r0f2_), (.int .u64 x50r0f3_), (.int .u64 x50r0f4_), (.int .u64 x50r0f5_), (.int .u64 x50r0f6_), (.int .u64 x50r0f7_), (.int .u64 x50r0f8_), (.int .u64 x50r0f9_), (.int .u64 x50r0f10_), (.int .u64 x50r0f11_), (.int .u64 x50r0f12_), (.int .u64 x50r0f13_), (.int .u64 x50r0f14_), (.int .u64 x50r0f15_)], c.oneCell' = true) ∧ wrAt q_6 b_6 0 16 ∧ ∀ q_7, q_7 = setsH q_6 b_6 0 [(.int .u64 x50r0f0_), (.int .u64 x50r0f1_), (.int .u64 x50r0f2_), (.int .u64 x50r0f3_), (.int .u64 x50r0f4_), (.int .u64 x50r0f5_), (.int .u64 x50r0f6_), (.int .u64 x50r0f7_), (.int .u64 x50r0f8_), (.int .u64 x50r0f9_), (.int .u64 x50r0f10_), (.int .u64 x50r0f11_), (.int .u64 x50r0f12_), (.int .u64 x50r0f13_), (.int .u64 x50r0f14_), (.int .u64 x50r0f15_)] →
 ∃ b_7 o_5, x29_ = some ⟨b_7, o_5, none⟩ ∧
 ∃ x56_ : Option Nat, cellsAt q_7 b_7 (o_5 + 1) [(.map x56_)] ∧
 ∃ x57f0_ : Int, ∃ x57f1_ : Int, ∃ x57f2_ : Int, ∃ x57f3_ : Int, ∃ x57f4_ : Int, ∃ x57f5_ : Int, ∃ x57f6_ : Int, ∃ x57f7_ : Int, ∃ x57f8_ : Int, ∃ x57f9_ : Int, ∃ x57f10_ : Int, ∃ x57f11_ : Int, ∃ x57f12_ : Int, ∃ x57f13_ : Int, ∃ x57f14_ : Int, ∃ x57f15_ : Int, cellsAt q_7 b_6 0 [(.int .u64 x57f0_), (.int .u64 x57f1_), (.int .u64 x57f2_), (.int .u64 x57f3_), (.int .u64 x57f4_), (.int .u64 x57f5_), (.int .u64 x57f6_), (.int .u64 x57f7_), (.int .u64 x57f8_), (.int .u64 x57f9_), (.int .u64 x57f10_), (.int .u64 x57f11_), (.int .u64 x57f12_), (.int .u64 x57f13_), (.int .u64 x57f14_), (.int .u64 x57f15_)] ∧
 SemH Tryz.prog (Instr.lookup 244 (.map x56_) (.agg #[(.int .u64 x57f0_), (.int .u64 x57f1_), (.int .u64 x57f2_), (.int .u64 x57f3_), (.int .u64 x57f4_), (.int .u64 x57f5_), (.int .u64 x57f6_), (.int .u64 x57f7_), (.int .u64 x57f8_), (.int .u64 x57f9_), (.int .u64 x57f10_), (.int .u64 x57f11_), (.int .u64 x57f12_), (.int .u64 x57f13_), (.int .u64 x57f14_), (.int .u64 x57f15_)]) false) q_7 fun v_ q_8 =>
 ∃ (x58p_ : Option Addr) (x58n_ x58c_ : Nat), v_ = (.slice x58p_ x58n_ x58c_) ∧
 ((x50r1_ = true →
 (((decide ((0 : Int) < ((x58n_ : Nat) : Int))) = true →
 ∃ x67_, EqV Tryz.prog 251 (.pointer best_) (.pointer none) x67_ ∧
 ((x67_ = true →
 ∃ b_8 o_6, x58p_ = some ⟨b_8, o_6, none⟩ ∧ 0 ≤ (0 : Int) ∧ (0 : Int) < (x58n_ : Int) ∧
 ∃ x81_, IntKind.i64.wrap (x26_ + (1 : Int)) = x81_ ∧
 (Iv_ [(.pointer (some ⟨b_8, (o_6 + Int.toNat (0 : Int) * 4), none⟩)), (.int .i64 x81_)] q_8 ∧ m_ [(.pointer (some ⟨b_8, (o_6 + Int.toNat (0 : Int) * 4), none⟩)), (.int .i64 x81_)] q_8 < m_ [(.pointer best_), (.int .i64 x26_)] q_3)) ∧
 (x67_ = false →
 ∃ b_9 o_7, x58p_ = some ⟨b_9, o_7, none⟩ ∧ 0 ≤ (0 : Int) ∧ (0 : Int) < (x58n_ : Int) ∧
 ∃ (x71f0p_ : Option Addr) (x71f0n_ x71f0c_ : Nat), ∃ x71f1_ : Int, ∃ x71f2_ : ByteArray, ∃ (x71f3p_ : Option Addr) (x71f3n_ x71f3c_ : Nat), cellsAt q_8 b_9 (o_7 + Int.toNat (0 : Int) * 4) [(.slice x71f0p_ x71f0n_ x71f0c_), (.int .i64 x71f1_), (.string x71f2_), (.slice x71f3p_ x71f3n_ x71f3c_)] ∧
 ∃ b_10 o_8, best_ = some ⟨b_10, o_8, none⟩ ∧
 ∃ (x74f0p_ : Option Addr) (x74f0n_ x74f0c_ : Nat), ∃ x74f1_ : Int, ∃ x74f2_ : ByteArray, ∃ (x74f3p_ : Option Addr) (x74f3n_ x74f3c_ : Nat), cellsAt q_8 b_10 o_8 [(.slice x74f0p_ x74f0n_ x74f0c_), (.int .i64 x74f1_), (.string x74f2_), (.slice x74f3p_ x74f3n_ x74f3c_)] ∧
 CallsH Tryz.prog 163 #[(.agg #[(.slice x71f0p_ x71f0n_ x71f0c_), (.int .i64 x71f1_), (.string x71f2_), (.slice x71f3p_ x71f3n_ x71f3c_)]), (.agg #[(.slice x74f0p_ x74f0n_ x74f0c_), (.int .i64 x74f1_), (.string x74f2_), (.slice x74f3p_ x74f3n_ x74f3c_)])] q_8 fun en_2 q_9 =>
 ∃ x75_ : Int, en_2 = .returned (.int .i64 x75_) ∧
 (((decide (x75_ < (0 : Int))) = true →
 ∃ b_11 o_9, x58p_ = some ⟨b_11, o_9, none⟩ ∧ 0 ≤ (0 : Int) ∧ (0 : Int) < (x58n_ : Int) ∧
 ∃ x81_1, IntKind.i64.wrap (x26_ + (1 : Int)) = x81_1 ∧
 (Iv_ [(.pointer (some ⟨b_11, (o_9 + Int.toNat (0 : Int) * 4), none⟩)), (.int .i64 x81_1)] q_9 ∧ m_ [(.pointer (some ⟨b_11, (o_9 + Int.toNat (0 : Int) * 4), none⟩)), (.int .i64 x81_1)] q_9 < m_ [(.pointer best_), (.int .i64 x26_)] q_3)) ∧
 ((decide (x75_ < (0 : Int))) = false →
 ∃ x81_2, IntKind.i64.wrap (x26_ + (1 : Int)) = x81_2 ∧
 (Iv_ [(.pointer best_), (.int .i64 x81_2)] q_9 ∧ m_ [(.pointer best_), (.int .i64 x81_2)] q_9 < m_ [(.pointer best_), (.int .i64 x26_)] q_3)))))) ∧
 ((decide ((0 : Int) < ((x58n_ : Nat) : Int))) = false →
 ∃ x81_3, IntKind.i64.wrap (x26_ + (1 : Int)) = x81_3 ∧
 (Iv_ [(.pointer best_), (.int .i64 x81_3)] q_8 ∧ m_ [(.pointer best_), (.int .i64 x81_3)] q_8 < m_ [(.pointer best_), (.int .i64 x26_)] q_3)))) ∧
 (x50r1_ = false →
 ∃ x81_4, IntKind.i64.wrap (x26_ + (1 : Int)) = x81_4 ∧
 (Iv_ [(.pointer best_), (.int .i64 x81_4)] q_8 ∧ m_ [(.pointer best_), (.int .i64 x81_4)] q_8 < m_ [(.pointer best_), (.int .i64 x26_)] q_3))))) ∧
 ((decide (x26_ < ((x24n_ : Nat) : Int))) = false →
 Jv_1 [(.pointer best_)] q_3)))) ∧
 (∀ (best_1 : Option Addr) q_10, Jv_1 [(.pointer best_1)] q_10 →
 ∃ x83_, EqV Tryz.prog 251 (.pointer best_1) (.pointer none) x83_ ∧
 ((x83_ = true →
 List.length [(Value.slice none 0 0), (.int .i64 (0 : Int)), (.string (⟨#[]⟩ : ByteArray)), (.slice none 0 0)] = 4 ∧ (∀ c ∈ [(Value.slice none 0 0), (.int .i64 (0 : Int)), (.string (⟨#[]⟩ : ByteArray)), (.slice none 0 0)], c.oneCell' = true) ∧ wrAt q_10 b_ 0 4 ∧ ∀ q_11, q_11 = setsH q_10 b_ 0 [(.slice none 0 0), (.int .i64 (0 : Int)), (.string (⟨#[]⟩ : ByteArray)), (.slice none 0 0)] →
 ∃ (resf0p_ : Option Addr) (resf0n_ resf0c_ : Nat), ∃ resf1_ : Int, ∃ resf2_ : ByteArray, ∃ (resf3p_ : Option Addr) (resf3n_ resf3c_ : Nat), cellsAt q_11 b_ 0 [(.slice resf0p_ resf0n_ resf0c_), (.int .i64 resf1_), (.string resf2_), (.slice resf3p_ resf3n_ resf3c_)] ∧
 R (.returned (.tuple #[(.agg #[(.slice resf0p_ resf0n_ resf0c_), (.int .i64 resf1_), (.string resf2_), (.slice resf3p_ resf3n_ resf3c_)]), (.bool false)])) q_11) ∧
 (x83_ = false →
 ∃ b_12 o_10, best_1 = some ⟨b_12, o_10, none⟩ ∧
 ∃ (x87f0p_ : Option Addr) (x87f0n_ x87f0c_ : Nat), ∃ x87f1_ : Int, ∃ x87f2_ : ByteArray, ∃ (x87f3p_ : Option Addr) (x87f3n_ x87f3c_ : Nat), cellsAt q_10 b_12 o_10 [(.slice x87f0p_ x87f0n_ x87f0c_), (.int .i64 x87f1_), (.string x87f2_), (.slice x87f3p_ x87f3n_ x87f3c_)] ∧
 CallsH Tryz.prog 164 #[(.agg #[(.slice x87f0p_ x87f0n_ x87f0c_), (.int .i64 x87f1_), (.string x87f2_), (.slice x87f3p_ x87f3n_ x87f3c_)])] q_10 fun en_3 q_12 =>
 ∃ (x88f0p_ : Option Addr) (x88f0n_ x88f0c_ : Nat), ∃ x88f1_ : Int, ∃ x88f2_ : ByteArray, ∃ (x88f3p_ : Option Addr) (x88f3n_ x88f3c_ : Nat), en_3 = .returned (.agg #[(.slice x88f0p_ x88f0n_ x88f0c_), (.int .i64 x88f1_), (.string x88f2_), (.slice x88f3p_ x88f3n_ x88f3c_)]) ∧
 List.length [(Value.slice x88f0p_ x88f0n_ x88f0c_), (.int .i64 x88f1_), (.string x88f2_), (.slice x88f3p_ x88f3n_ x88f3c_)] = 4 ∧ (∀ c ∈ [(Value.slice x88f0p_ x88f0n_ x88f0c_), (.int .i64 x88f1_), (.string x88f2_), (.slice x88f3p_ x88f3n_ x88f3c_)], c.oneCell' = true) ∧ wrAt q_12 b_ 0 4 ∧ ∀ q_13, q_13 = setsH q_12 b_ 0 [(.slice x88f0p_ x88f0n_ x88f0c_), (.int .i64 x88f1_), (.string x88f2_), (.slice x88f3p_ x88f3n_ x88f3c_)] →
 ∃ (resf0p_1 : Option Addr) (resf0n_1 resf0c_1 : Nat), ∃ resf1_1 : Int, ∃ resf2_1 : ByteArray, ∃ (resf3p_1 : Option Addr) (resf3n_1 resf3c_1 : Nat), cellsAt q_13 b_ 0 [(.slice resf0p_1 resf0n_1 resf0c_1), (.int .i64 resf1_1), (.string resf2_1), (.slice resf3p_1 resf3n_1 resf3c_1)] ∧
 R (.returned (.tuple #[(.agg #[(.slice resf0p_1 resf0n_1 resf0c_1), (.int .i64 resf1_1), (.string resf2_1), (.slice resf3p_1 resf3n_1 resf3c_1)]), (.bool true)])) q_13))))) :
 CallsH Tryz.prog 150 #[(.pointer l_), (.slice keyp_ keyn_ keyc_)] h R := calls_vc fine false Tryz.func150 (ann := A150) (args := [(.pointer l_), (.slice keyp_ keyn_ keyc_)]) (by kernel_rfl) (Eq.mpr (by kernel_rfl) H)
def A153 : Ann := (.seq .nil (.seq (.seq .nil (.cond (.seq .dead .dead) .nil)) (.seq (.seq .nil (.seq .nil (.cond (.seq .dead .dead) .nil))) (.seq .nil (.seq (.seq .nil (.cond (.seq .nil .nil) .nil)) (.seq (.seq .nil (.cond (.seq .dead .dead) .nil)) (.cut (.seq .nil (.cond (.seq .nil .nil) .nil)) [(6, .ptr)] (.seq (.drawLast [3, 4, 8, 9, 10]) (.seq .nil (.seq .nil (.seq .nil (.seq .nil (.seq .nil .nil)))))))))))))
theorem V153 (l_ : Option Addr) (ef0p_ : Option Addr) (ef0n_ ef0c_ : Nat) (ef1_ : Int) (ef2_ : ByteArray) (ef3p_ : Option Addr) (ef3n_ ef3c_ : Nat) (h : Hp) (R : Ending → Hp → Prop) (H :
 ∀ b_ q_, b_ = h.size → q_ = h.push (.cells #[(.slice ef0p_ ef0n_ ef0c_), (.int .i64 ef1_), (.string ef2_), (.slice ef3p_ ef3n_ ef3c_)] 53) →
 ∃ x11_, EqV Tryz.prog 83 (.pointer l_) (.pointer none) x11_ ∧
 ((x11_ = true →
 False) ∧
 (x11_ = false →
 ∃ b_1 o_, l_ = some ⟨b_1, o_, none⟩ ∧
 ∃ (x15f0p_ : Option Addr) (x15f0n_ x15f0c_ : Nat) (x15f1p_ : Option Addr) (x15f1n_ x15f1c_ : Nat) (x15f2p_ : Option Addr) (x15f2n_ x15f2c_ : Nat) (x15f3p_ : Option Addr) (x15f3n_ x15f3c_ : Nat) (x15f4p_ : Option Addr) (x15f4n_ x15f4c_ : Nat) (x15f5p_ : Option Addr) (x15f5n_ x15f5c_ : Nat), cellsAt q_ b_1 (o_ + 0) [(.slice x15f0p_ x15f0n_ x15f0c_), (.slice x15f1p_ x15f1n_ x15f1c_), (.slice x15f2p_ x15f2n_ x15f2c_), (.slice x15f3p_ x15f3n_ x15f3c_), (.slice x15f4p_ x15f4n_ x15f4c_), (.slice x15f5p_ x15f5n_ x15f5c_)] ∧
 ∃ b_2 o_1, l_ = some ⟨b_2, o_1, none⟩ ∧
 ∃ x19_ : ByteArray, cellsAt q_ b_2 (o_1 + 6) [(.string x19_)] ∧
 ∃ (x20f0p_ : Option Addr) (x20f0n_ x20f0c_ : Nat), ∃ x20f1_ : Int, ∃ x20f2_ : ByteArray, ∃ (x20f3p_ : Option Addr) (x20f3n_ x20f3c_ : Nat), cellsAt q_ b_ 0 [(.slice x20f0p_ x20f0n_ x20f0c_), (.int .i64 x20f1_), (.string x20f2_), (.slice x20f3p_ x20f3n_ x20f3c_)] ∧
 CallsH Tryz.prog 73 #[(.agg #[(.slice x15f0p_ x15f0n_ x15f0c_), (.slice x15f1p_ x15f1n_ x15f1c_), (.slice x15f2p_ x15f2n_ x15f2c_), (.slice x15f3p_ x15f3n_ x15f3c_), (.slice x15f4p_ x15f4n_ x15f4c_), (.slice x15f5p_ x15f5n_ x15f5c_)]), (.string x19_), (.agg #[(.slice x20f0p_ x20f0n_ x20f0c_), (.int .i64 x20f1_), (.string x20f2_), (.slice x20f3p_ x20f3n_ x20f3c_)])] q_ fun en_ q_1 =>
 ∃ x21_ : Int, en_ = .returned (.int .i64 x21_) ∧
 (((decide (x21_ ≠ (0 : Int))) = true →
 False) ∧
 ((decide (x21_ ≠ (0 : Int))) = false →
 ∃ (x27f0p_ : Option Addr) (x27f0n_ x27f0c_ : Nat), ∃ x27f1_ : Int, ∃ x27f2_ : ByteArray, ∃ (x27f3p_ : Option Addr) (x27f3n_ x27f3c_ : Nat), cellsAt q_1 b_ 0 [(.slice x27f0p_ x27f0n_ x27f0c_), (.int .i64 x27f1_), (.string x27f2_), (.slice x27f3p_ x27f3n_ x27f3c_)] ∧
 CallsH Tryz.prog 157 #[(.pointer l_), (.agg #[(.slice x27f0p_ x27f0n_ x27f0c_), (.int .i64 x27f1_), (.string x27f2_), (.slice x27f3p_ x27f3n_ x27f3c_)])] q_1 fun en_1 q_2 =>
 ∃ x28r0_ : Option Addr, ∃ x28r1f0_ : Int, ∃ x28r1f1_ : Int, ∃ x28r1f2_ : Int, ∃ x28r1f3_ : Int, ∃ x28r1f4_ : Int, ∃ x28r1f5_ : Int, ∃ x28r1f6_ : Int, ∃ x28r1f7_ : Int, ∃ x28r1f8_ : Int, ∃ x28r1f9_ : Int, ∃ x28r1f10_ : Int, ∃ x28r1f11_ : Int, ∃ x28r1f12_ : Int, ∃ x28r1f13_ : Int, ∃ x28r1f14_ : Int, ∃ x28r1f15_ : Int, ∃ x28r2_ : Int, ∃ x28r3_ : Bool, en_1 = .returned (.tuple #[(.pointer x28r0_), (.agg #[(.int .u64 x28r1f0_), (.int .u64 x28r1f1_), (.int .u64 x28r1f2_), (.int .u64 x28r1f3_), (.int .u64 x28r1f4_), (.int .u64 x28r1f5_), (.int .u64 x28r1f6_), (.int .u64 x28r1f7_), (.int .u64 x28r1f8_), (.int .u64 x28r1f9_), (.int .u64 x28r1f10_), (.int .u64 x28r1f11_), (.int .u64 x28r1f12_), (.int .u64 x28r1f13_), (.int .u64 x28r1f14_), (.int .u64 x28r1f15_)]), (.int .i64 x28r2_), (.bool x28r3_)]) ∧
 ∀ b_3 q_3, b_3 = q_2.size → q_3 = q_2.push (.cells (zeros Tryz.prog 241) 241) → (∃ i z, Tryz.prog.info? 241 = some i ∧ i.zero = some z) ∧
 List.length [(Value.int .u64 x28r1f0_), (.int .u64 x28r1f1_), (.int .u64 x28r1f2_), (.int .u64 x28r1f3_), (.int .u64 x28r1f4_), (.int .u64 x28r1f5_), (.int .u64 x28r1f6_), (.int .u64 x28r1f7_), (.int .u64 x28r1f8_), (.int .u64 x28r1f9_), (.int .u64 x28r1f10_), (.int .u64 x28r1f11_), (.int .u64 x28r1f12_), (.int .u64 x28r1f13_), (.int .u64 x28r1f14_), (.int .u64 x28r1f15_)] = 16 ∧ (∀ c ∈ [(Value.int .u64 x28r1f0_), (.int .u64 x28r1f1_), (.int .u64 x28r1f2_), (.int .u64 x28r1f3_), (.int .u64 x28r1f4_), (.int .u64 x28r1f5_), (.int .u64 x28r1f6_), (.int .u64 x28r1f7_), (.int .u64 x28r1f8_), (.int .u64 x28r1f9_), (.int .u64 x28r1f10_), (.int .u64 x28r1f11_), (.int .u64 x28r1f12_), (.int .u64 x28r1f13_), (.int .u64 x28r1f14_), (.int .u64 x28r1f15_)], c.oneCell' = true) ∧ wrAt q_3 b_3 0 16 ∧ ∀ q_4, q_4 = setsH q_3 b_3 0 [(.int .u64 x28r1f0_), (.int .u64 x28r1f1_), (.int .u64 x28r1f2_), (.int .u64 x28r1f3_), (.int .u64 x28r1f4_), (.int .u64 x28r1f5_), (.int .u64 x28r1f6_), (.int .u64 x28r1f7_), (.int .u64 x28r1f8_), (.int .u64 x28r1f9_), (.int .u64 x28r1f10_), (.int .u64 x28r1f11_), (.int .u64 x28r1f12_), (.int .u64 x28r1f13_), (.int .u64 x28r1f14_), (.int .u64 x28r1f15_)] →
 ((x28r3_ = true →
 R (.returned (.int .i64 (121 : Int))) q_4) ∧
 (x28r3_ = false →
 ∃ b_4 o_2, l_ = some ⟨b_4, o_2, none⟩ ∧
 ∃ x37_ : Int, cellsAt q_4 b_4 (o_2 + 10) [(.int .i64 x37_)] ∧
 ∃ b_5 o_3, l_ = some ⟨b_5, o_3, none⟩ ∧
 ∃ x41_ : Int, cellsAt q_4 b_5 (o_3 + 9) [(.int .i64 x41_)] ∧
 (((decide (x41_ ≤ x37_)) = true →
 False) ∧
 ((decide (x41_ ≤ x37_)) = false →
 ∃ Jv_ : List Value → Hp → Prop,
 (∃ x44_, EqV Tryz.prog 239 (.pointer x28r0_) (.pointer none) x44_ ∧
 ((x44_ = true →
 ∃ (x46f0p_ : Option Addr) (x46f0n_ x46f0c_ : Nat), ∃ x46f1_ : Int, ∃ x46f2_ : ByteArray, ∃ (x46f3p_ : Option Addr) (x46f3n_ x46f3c_ : Nat), cellsAt q_4 b_ 0 [(.slice x46f0p_ x46f0n_ x46f0c_), (.int .i64 x46f1_), (.string x46f2_), (.slice x46f3p_ x46f3n_ x46f3c_)] ∧
 CallsH Tryz.prog 165 #[(.pointer l_), (.agg #[(.slice x46f0p_ x46f0n_ x46f0c_), (.int .i64 x46f1_), (.string x46f2_), (.slice x46f3p_ x46f3n_ x46f3c_)])] q_4 fun en_2 q_5 =>
 ∃ (x47p_ : Option Addr) (x47n_ x47c_ : Nat), en_2 = .returned (.slice x47p_ x47n_ x47c_) ∧
 ∀ r_ q_6, r_ = q_5.size → q_6 = q_5.push (.map #[] 0) →
 ∀ b_6 q_7, b_6 = q_6.size → q_7 = q_6.push (.cells #[(.slice x47p_ x47n_ x47c_), (.map (some r_)), (.int .i64 (0 : Int)), (.int .i64 (0 : Int))] 246) →
 ∃ b_7 o_4, l_ = some ⟨b_7, o_4, none⟩ ∧
 ∃ (x55p_ : Option Addr) (x55n_ x55c_ : Nat), cellsAt q_7 b_7 (o_4 + 11) [(.slice x55p_ x55n_ x55c_)] ∧
 SemH Tryz.prog (Instr.buildSlice 142 1 #[(0, (.pointer (some ⟨b_6, 0, none⟩)))]) q_7 fun v_ q_8 =>
 ∃ (x57p_ : Option Addr) (x57n_ x57c_ : Nat), v_ = (.slice x57p_ x57n_ x57c_) ∧
 SemH Tryz.prog (Builtin.append_ #[142, 142] 142 #[(.slice x55p_ x55n_ x55c_), (.slice x57p_ x57n_ x57c_)]) q_8 fun v_1 q_9 =>
 ∃ (x58p_ : Option Addr) (x58n_ x58c_ : Nat), v_1 = (.slice x58p_ x58n_ x58c_) ∧
 ∃ b_8 o_5, l_ = some ⟨b_8, o_5, none⟩ ∧
 Value.oneCell' (.slice x58p_ x58n_ x58c_) = true ∧ wrAt q_9 b_8 (o_5 + 11) 1 ∧ ∀ q_10, q_10 = setsH q_9 b_8 (o_5 + 11) [(.slice x58p_ x58n_ x58c_)] →
 Jv_ [(.pointer (some ⟨b_6, 0, none⟩))] q_10) ∧
 (x44_ = false →
 Jv_ [(.pointer x28r0_)] q_4))) ∧
 (∀ (g_ : Option Addr) q_11, Jv_ [(.pointer g_)] q_11 →
 ∃ Cv_ : Hp → Prop, Cv_ q_11 ∧
 ∃ b_9 o_6, g_ = some ⟨b_9, o_6, none⟩ ∧
 ∃ x64_ : Option Nat, (∀ h', Cv_ h' → cellsAt h' b_9 (o_6 + 1) [(.map x64_)]) ∧
 ∃ x65f0_ : Int, ∃ x65f1_ : Int, ∃ x65f2_ : Int, ∃ x65f3_ : Int, ∃ x65f4_ : Int, ∃ x65f5_ : Int, ∃ x65f6_ : Int, ∃ x65f7_ : Int, ∃ x65f8_ : Int, ∃ x65f9_ : Int, ∃ x65f10_ : Int, ∃ x65f11_ : Int, ∃ x65f12_ : Int, ∃ x65f13_ : Int, ∃ x65f14_ : Int, ∃ x65f15_ : Int, (∀ h', Cv_ h' → cellsAt h' b_3 0 [(.int .u64 x65f0_), (.int .u64 x65f1_), (.int .u64 x65f2_), (.int .u64 x65f3_), (.int .u64 x65f4_), (.int .u64 x65f5_), (.int .u64 x65f6_), (.int .u64 x65f7_), (.int .u64 x65f8_), (.int .u64 x65f9_), (.int .u64 x65f10_), (.int .u64 x65f11_), (.int .u64 x65f12_), (.int .u64 x65f13_), (.int .u64 x65f14_), (.int .u64 x65f15_)]) ∧
 ∃ b_10 o_7, g_ = some ⟨b_10, o_7, none⟩ ∧
 ∃ x69_ : Option Nat, (∀ h', Cv_ h' → cellsAt h' b_10 (o_7 + 1) [(.map x69_)]) ∧
 ∃ x70f0_ : Int, ∃ x70f1_ : Int, ∃ x70f2_ : Int, ∃ x70f3_ : Int, ∃ x70f4_ : Int, ∃ x70f5_ : Int, ∃ x70f6_ : Int, ∃ x70f7_ : Int, ∃ x70f8_ : Int, ∃ x70f9_ : Int, ∃ x70f10_ : Int, ∃ x70f11_ : Int, ∃ x70f12_ : Int, ∃ x70f13_ : Int, ∃ x70f14_ : Int, ∃ x70f15_ : Int, (∀ h', Cv_ h' → cellsAt h' b_3 0 [(.int .u64 x70f0_), (.int .u64 x70f1_), (.int .u64 x70f2_), (.int .u64 x70f3_), (.int .u64 x70f4_), (.int .u64 x70f5_), (.int .u64 x70f6_), (.int .u64 x70f7_), (.int .u64 x70f8_), (.int .u64 x70f9_), (.int .u64 x70f10_), (.int .u64 x70f11_), (.int .u64 x70f12_), (.int .u64 x70f13_), (.int .u64 x70f14_), (.int .u64 x70f15_)]) ∧
 ∃ (x71p_ : Option Addr) (x71n_ x71c_ : Nat), (∀ w_ : World, Cv_ w_.heap → (Instr.lookup 244 (.map x69_) (.agg #[(.int .u64 x70f0_), (.int .u64 x70f1_), (.int .u64 x70f2_), (.int .u64 x70f3_), (.int .u64 x70f4_), (.int .u64 x70f5_), (.int .u64 x70f6_), (.int .u64 x70f7_), (.int .u64 x70f8_), (.int .u64 x70f9_), (.int .u64 x70f10_), (.int .u64 x70f11_), (.int .u64 x70f12_), (.int .u64 x70f13_), (.int .u64 x70f14_), (.int .u64 x70f15_)]) false).run Tryz.prog w_ = .ok (.slice x71p_ x71n_ x71c_) w_) ∧
 ∃ (x73f0p_ : Option Addr) (x73f0n_ x73f0c_ : Nat), ∃ x73f1_ : Int, ∃ x73f2_ : ByteArray, ∃ (x73f3p_ : Option Addr) (x73f3n_ x73f3c_ : Nat), cellsAt q_11 b_ 0 [(.slice x73f0p_ x73f0n_ x73f0c_), (.int .i64 x73f1_), (.string x73f2_), (.slice x73f3p_ x73f3n_ x73f3c_)] ∧
 CallsH Tryz.prog 164 #[(.agg #[(.slice x73f0p_ x73f0n_ x73f0c_), (.int .i64 x73f1_), (.string x73f2_), (.slice x73f3p_ x73f3n_ x73f3c_)])] q_11 fun en_3 q_12 =>
 ∃ (x74f0p_ : Option Addr) (x74f0n_ x74f0c_ : Nat), ∃ x74f1_ : Int, ∃ x74f2_ : ByteArray, ∃ (x74f3p_ : Option Addr) (x74f3n_ x74f3c_ : Nat), en_3 = .returned (.agg #[(.slice x74f0p_ x74f0n_ x74f0c_), (.int .i64 x74f1_), (.string x74f2_), (.slice x74f3p_ x74f3n_ x74f3c_)]) ∧
 Cv_ q_12 ∧
 SemH Tryz.prog (Instr.buildSlice 176 1 #[(0, (.agg #[(.slice x74f0p_ x74f0n_ x74f0c_), (.int .i64 x74f1_), (.string x74f2_), (.slice x74f3p_ x74f3n_ x74f3c_)]))]) q_12 fun v_2 q_13 =>
 ∃ (x75p_ : Option Addr) (x75n_ x75c_ : Nat), v_2 = (.slice x75p_ x75n_ x75c_) ∧
 Cv_ q_13 ∧
 CallsH Tryz.prog 166 #[(.slice x71p_ x71n_ x71c_), (.int .i64 x28r2_), (.slice x75p_ x75n_ x75c_)] q_13 fun en_4 q_14 =>
 ∃ (x76p_ : Option Addr) (x76n_ x76c_ : Nat), en_4 = .returned (.slice x76p_ x76n_ x76c_) ∧
 Cv_ q_14 ∧
 SemH Tryz.prog (Instr.mapUpdate 244 (.map x64_) (.agg #[(.int .u64 x65f0_), (.int .u64 x65f1_), (.int .u64 x65f2_), (.int .u64 x65f3_), (.int .u64 x65f4_), (.int .u64 x65f5_), (.int .u64 x65f6_), (.int .u64 x65f7_), (.int .u64 x65f8_), (.int .u64 x65f9_), (.int .u64 x65f10_), (.int .u64 x65f11_), (.int .u64 x65f12_), (.int .u64 x65f13_), (.int .u64 x65f14_), (.int .u64 x65f15_)]) (.slice x76p_ x76n_ x76c_)) q_14 fun _ q_15 =>
 ∃ b_11 o_8, g_ = some ⟨b_11, o_8, none⟩ ∧
 ∃ x80_ : Int, cellsAt q_15 b_11 (o_8 + 2) [(.int .i64 x80_)] ∧
 ∃ x81_, IntKind.i64.wrap (x80_ + (1 : Int)) = x81_ ∧
 ∃ b_12 o_9, g_ = some ⟨b_12, o_9, none⟩ ∧
 Value.oneCell' (.int .i64 x81_) = true ∧ wrAt q_15 b_12 (o_9 + 2) 1 ∧ ∀ q_16, q_16 = setsH q_15 b_12 (o_9 + 2) [(.int .i64 x81_)] →
 ∃ b_13 o_10, g_ = some ⟨b_13, o_10, none⟩ ∧
 ∃ x88_ : Int, cellsAt q_16 b_13 (o_10 + 3) [(.int .i64 x88_)] ∧
 ∃ x90_ : Int, cellsAt q_16 b_ (0 + 1) [(.int .i64 x90_)] ∧
 ∃ b_14 o_11, g_ = some ⟨b_14, o_11, none⟩ ∧
 Value.oneCell' (.int .i64 (max x88_ x90_)) = true ∧ wrAt q_16 b_14 (o_11 + 3) 1 ∧ ∀ q_17, q_17 = setsH q_16 b_14 (o_11 + 3) [(.int .i64 (max x88_ x90_))] →
 ∃ b_15 o_12, l_ = some ⟨b_15, o_12, none⟩ ∧
 ∃ x97_ : Int, cellsAt q_17 b_15 (o_12 + 10) [(.int .i64 x97_)] ∧
 ∃ x98_, IntKind.i64.wrap (x97_ + (1 : Int)) = x98_ ∧
 ∃ b_16 o_13, l_ = some ⟨b_16, o_13, none⟩ ∧
 Value.oneCell' (.int .i64 x98_) = true ∧ wrAt q_17 b_16 (o_13 + 10) 1 ∧ ∀ q_18, q_18 = setsH q_17 b_16 (o_13 + 10) [(.int .i64 x98_)] →
 CallsH Tryz.prog 167 #[(.pointer l_)] q_18 fun en_5 q_19 =>
 en_5 = .returned (.tuple #[]) ∧
 R (.returned (.int .i64 (0 : Int))) q_19)))))))))) :
 CallsH Tryz.prog 153 #[(.pointer l_), (.agg #[(.slice ef0p_ ef0n_ ef0c_), (.int .i64 ef1_), (.string ef2_), (.slice ef3p_ ef3n_ ef3c_)])] h R := calls_vc fine false Tryz.func153 (ann := A153) (args := [(.pointer l_), (.agg #[(.slice ef0p_ ef0n_ ef0c_), (.int .i64 ef1_), (.string ef2_), (.slice ef3p_ ef3n_ ef3c_)])]) (by kernel_rfl) (Eq.mpr (by kernel_rfl) H)
def A157 : Ann := (.seq .nil (.seq (.seq .nil (.cond (.seq .dead .dead) .nil)) (.seq .nil (.seq .nil (.seq (.seq .nil (.block (.loop [(9, .slice), (36, (.int .i64))] (.seq .nil (.seq (.cond .nil .nil) (.seq (.block (.seq .nil .nil)) .nil)))))) (.seq .nil (.seq (.seq .nil (.block (.loop [(58, (.int .i64))] (.seq .nil (.seq (.cond .nil .nil) (.seq (.block (.seq .nil (.seq .nil (.cond (.seq (.drawLast [6]) (.seq .nil .nil)) .nil)))) .nil)))))) (.seq .nil .nil))))))))
theorem V157 (l_ : Option Addr) (ef0p_ : Option Addr) (ef0n_ ef0c_ : Nat) (ef1_ : Int) (ef2_ : ByteArray) (ef3p_ : Option Addr) (ef3n_ ef3c_ : Nat) (h : Hp) (R : Ending → Hp → Prop) (H :
 ∀ b_ q_, b_ = h.size → q_ = h.push (.cells #[(.slice ef0p_ ef0n_ ef0c_), (.int .i64 ef1_), (.string ef2_), (.slice ef3p_ ef3n_ ef3c_)] 53) →
 ∀ b_1 q_1, b_1 = q_.size → q_1 = q_.push (.cells (zeros Tryz.prog 241) 241) → (∃ i z, Tryz.prog.info? 241 = some i ∧ i.zero = some z) ∧
 ∃ b_2 o_, l_ = some ⟨b_2, o_, none⟩ ∧
 ∃ (x21f0p_ : Option Addr) (x21f0n_ x21f0c_ : Nat) (x21f1p_ : Option Addr) (x21f1n_ x21f1c_ : Nat) (x21f2p_ : Option Addr) (x21f2n_ x21f2c_ : Nat) (x21f3p_ : Option Addr) (x21f3n_ x21f3c_ : Nat) (x21f4p_ : Option Addr) (x21f4n_ x21f4c_ : Nat) (x21f5p_ : Option Addr) (x21f5n_ x21f5c_ : Nat), cellsAt q_1 b_2 (o_ + 0) [(.slice x21f0p_ x21f0n_ x21f0c_), (.slice x21f1p_ x21f1n_ x21f1c_), (.slice x21f2p_ x21f2n_ x21f2c_), (.slice x21f3p_ x21f3n_ x21f3c_), (.slice x21f4p_ x21f4n_ x21f4c_), (.slice x21f5p_ x21f5n_ x21f5c_)] ∧
 ∃ b_3 o_1, l_ = some ⟨b_3, o_1, none⟩ ∧
 ∃ x25_ : ByteArray, cellsAt q_1 b_3 (o_1 + 6) [(.string x25_)] ∧
 ∃ (x26f0p_ : Option Addr) (x26f0n_ x26f0c_ : Nat), ∃ x26f1_ : Int, ∃ x26f2_ : ByteArray, ∃ (x26f3p_ : Option Addr) (x26f3n_ x26f3c_ : Nat), cellsAt q_1 b_ 0 [(.slice x26f0p_ x26f0n_ x26f0c_), (.int .i64 x26f1_), (.string x26f2_), (.slice x26f3p_ x26f3n_ x26f3c_)] ∧
 CallsH Tryz.prog 74 #[(.agg #[(.slice x21f0p_ x21f0n_ x21f0c_), (.slice x21f1p_ x21f1n_ x21f1c_), (.slice x21f2p_ x21f2n_ x21f2c_), (.slice x21f3p_ x21f3n_ x21f3c_), (.slice x21f4p_ x21f4n_ x21f4c_), (.slice x21f5p_ x21f5n_ x21f5c_)]), (.string x25_), (.agg #[(.slice x26f0p_ x26f0n_ x26f0c_), (.int .i64 x26f1_), (.string x26f2_), (.slice x26f3p_ x26f3n_ x26f3c_)])] q_1 fun en_ q_2 =>
 ∃ x27_ : Int, en_ = .returned (.int .i64 x27_) ∧
 (((decide (x27_ ≠ (0 : Int))) = true →
 False) ∧
 ((decide (x27_ ≠ (0 : Int))) = false →
 ∃ (x31f0p_ : Option Addr) (x31f0n_ x31f0c_ : Nat), ∃ x31f1_ : Int, ∃ x31f2_ : ByteArray, ∃ (x31f3p_ : Option Addr) (x31f3n_ x31f3c_ : Nat), cellsAt q_2 b_ 0 [(.slice x31f0p_ x31f0n_ x31f0c_), (.int .i64 x31f1_), (.string x31f2_), (.slice x31f3p_ x31f3n_ x31f3c_)] ∧
 CallsH Tryz.prog 165 #[(.pointer l_), (.agg #[(.slice x31f0p_ x31f0n_ x31f0c_), (.int .i64 x31f1_), (.string x31f2_), (.slice x31f3p_ x31f3n_ x31f3c_)])] q_2 fun en_1 q_3 =>
 ∃ (x32p_ : Option Addr) (x32n_ x32c_ : Nat), en_1 = .returned (.slice x32p_ x32n_ x32c_) ∧
 ∃ (x34p_ : Option Addr) (x34n_ x34c_ : Nat), cellsAt q_3 b_ (0 + 0) [(.slice x34p_ x34n_ x34c_)] ∧
 ∃ (Iv_ : List Value → Hp → Prop) (m_ : List Value → Hp → Nat), Iv_ [(.slice none 0 0), (.int .i64 (0 : Int))] q_3 ∧
 (∀ (keyp_ : Option Addr) (keyn_ keyc_ : Nat) (x36_ : Int) q_4, Iv_ [(.slice keyp_ keyn_ keyc_), (.int .i64 x36_)] q_4 →
 (((decide (x36_ < ((x34n_ : Nat) : Int))) = true →
 ∃ b_4 o_2, x34p_ = some ⟨b_4, o_2, none⟩ ∧ 0 ≤ x36_ ∧ x36_ < (x34n_ : Int) ∧
 ∃ x39f0_ : Int, ∃ x39f1_ : Int, ∃ x39f2_ : Int, ∃ x39f3_ : Int, ∃ x39f4_ : Int, cellsAt q_4 b_4 (o_2 + Int.toNat x36_ * 5) [(.int .u64 x39f0_), (.int .u64 x39f1_), (.int .u64 x39f2_), (.int .u64 x39f3_), (.int .i64 x39f4_)] ∧
 ∀ b_5 q_5, b_5 = q_4.size → q_5 = q_4.push (.cells (zeros Tryz.prog 50) 50) → (∃ i z, Tryz.prog.info? 50 = some i ∧ i.zero = some z) ∧
 List.length [(Value.int .u64 x39f0_), (.int .u64 x39f1_), (.int .u64 x39f2_), (.int .u64 x39f3_), (.int .i64 x39f4_)] = 5 ∧ (∀ c ∈ [(Value.int .u64 x39f0_), (.int .u64 x39f1_), (.int .u64 x39f2_), (.int .u64 x39f3_), (.int .i64 x39f4_)], c.oneCell' = true) ∧ wrAt q_5 b_5 0 5 ∧ ∀ q_6, q_6 = setsH q_5 b_5 0 [(.int .u64 x39f0_), (.int .u64 x39f1_), (.int .u64 x39f2_), (.int .u64 x39f3_), (.int .i64 x39f4_)] →
 ∃ x42f0_ : Int, ∃ x42f1_ : Int, cellsAt q_6 b_5 (0 + 0) [(.int .u64 x42f0_), (.int .u64 x42f1_)] ∧
 SemH Tryz.prog (Instr.buildSlice 23 1 #[(0, (.agg #[(.int .u64 x42f0_), (.int .u64 x42f1_)]))]) q_6 fun v_ q_7 =>
 ∃ (x43p_ : Option Addr) (x43n_ x43c_ : Nat), v_ = (.slice x43p_ x43n_ x43c_) ∧
 SemH Tryz.prog (Builtin.append_ #[23, 23] 23 #[(.slice keyp_ keyn_ keyc_), (.slice x43p_ x43n_ x43c_)]) q_7 fun v_1 q_8 =>
 ∃ (x44p_ : Option Addr) (x44n_ x44c_ : Nat), v_1 = (.slice x44p_ x44n_ x44c_) ∧
 ∃ x45_, IntKind.i64.wrap (x36_ + (1 : Int)) = x45_ ∧
 (Iv_ [(.slice x44p_ x44n_ x44c_), (.int .i64 x45_)] q_8 ∧ m_ [(.slice x44p_ x44n_ x44c_), (.int .i64 x45_)] q_8 < m_ [(.slice keyp_ keyn_ keyc_), (.int .i64 x36_)] q_4)) ∧
 ((decide (x36_ < ((x34n_ : Nat) : Int))) = false →
 CallsH Tryz.prog 162 #[(.pointer l_), (.slice x32p_ x32n_ x32c_), (.slice keyp_ keyn_ keyc_)] q_4 fun en_2 q_9 =>
 ∃ x50r0f0_ : Int, ∃ x50r0f1_ : Int, ∃ x50r0f2_ : Int, ∃ x50r0f3_ : Int, ∃ x50r0f4_ : Int, ∃ x50r0f5_ : Int, ∃ x50r0f6_ : Int, ∃ x50r0f7_ : Int, ∃ x50r0f8_ : Int, ∃ x50r0f9_ : Int, ∃ x50r0f10_ : Int, ∃ x50r0f11_ : Int, ∃ x50r0f12_ : Int, ∃ x50r0f13_ : Int, ∃ x50r0f14_ : Int, ∃ x50r0f15_ : Int, ∃ x50r1_ : Bool, en_2 = .returned (.tuple #[(.agg #[(.int .u64 x50r0f0_), (.int .u64 x50r0f1_), (.int .u64 x50r0f2_), (.int .u64 x50r0f3_), (.int .u64 x50r0f4_), (.int .u64 x50r0f5_), (.int .u64 x50r0f6_), (.int .u64 x50r0f7_), (.int .u64 x50r0f8_), (.int .u64 x50r0f9_), (.int .u64 x50r0f10_), (.int .u64 x50r0f11_), (.int .u64 x50r0f12_), (.int .u64 x50r0f13_), (.int .u64 x50r0f14_), (.int .u64 x50r0f15_)]), (.bool x50r1_)]) ∧
 ∀ b_6 q_10, b_6 = q_9.size → q_10 = q_9.push (.cells (zeros Tryz.prog 241) 241) → (∃ i z, Tryz.prog.info? 241 = some i ∧ i.zero = some z) ∧
 List.length [(Value.int .u64 x50r0f0_), (.int .u64 x50r0f1_), (.int .u64 x50r0f2_), (.int .u64 x50r0f3_), (.int .u64 x50r0f4_), (.int .u64 x50r0f5_), (.int .u64 x50r0f6_), (.int .u64 x50r0f7_), (.int .u64 x50r0f8_), (.int .u64 x50r0f9_), (.int .u64 x50r0f10_), (.int .u64 x50r0f11_), (.int .u64 x50r0f12_), (.int .u64 x50r0f13_), (.int .u64 x50r0f14_), (.int .u64 x50r0f15_)] = 16 ∧ (∀ c ∈ [(Value.int .u64 x50r0f0_), (.int .u64 x50r0f1_), (.int .u64 x50r0f2_), (.int .u64 x50r0f3_), (.int .u64 x50r0f4_), (.int .u64 x50r0f5_), (.int .u64 x50r0f6_), (.int .u64 x50r0f7_), (.int .u64 x50r0f8_), (.int .u64 x50r0f9_), (.int .u64 x50r0f10_), (.int .u64 x50r0f11_), (.int .u64 x50r0f12_), (.int .u64 x50r0f13_), (.int .u64 x50r0f14_), (.int .u64 x50r0f15_)], c.oneCell' = true) ∧ wrAt q_10 b_6 0 16 ∧ ∀ q_11, q_11 = setsH q_10 b_6 0 [(.int .u64 x50r0f0_), (.int .u64 x50r0f1_), (.int .u64 x50r0f2_), (.int .u64 x50r0f3_), (.int .u64 x50r0f4_), (.int .u64 x50r0f5_), (.int .u64 x50r0f6_), (.int .u64 x50r0f7_), (.int .u64 x50r0f8_), (.int .u64 x50r0f9_), (.int .u64 x50r0f10_), (.int .u64 x50r0f11_), (.int .u64 x50r0f12_), (.int .u64 x50r0f13_), (.int .u64 x50r0f14_), (.int .u64 x50r0f15_)] →
 ∃ b_7 o_3, l_ = some ⟨b_7, o_3, none⟩ ∧
 ∃ (x56p_ : Option Addr) (x56n_ x56c_ : Nat), cellsAt q_11 b_7 (o_3 + 11) [(.slice x56p_ x56n_ x56c_)] ∧
 ∃ (Iv_1 : List Value → Hp → Prop) (m_1 : List Value → Hp → Nat), Iv_1 [(.int .i64 (0 : Int))] q_11 ∧
 (∀ (x58_ : Int) q_12, Iv_1 [(.int .i64 x58_)] q_12 →
 (((decide (x58_ < ((x56n_ : Nat) : Int))) = true →
 ∃ b_8 o_4, x56p_ = some ⟨b_8, o_4, none⟩ ∧ 0 ≤ x58_ ∧ x58_ < (x56n_ : Int) ∧
 ∃ x61_ : Option Addr, cellsAt q_12 b_8 (o_4 + Int.toNat x58_ * 1) [(.pointer x61_)] ∧
 ∃ b_9 o_5, x61_ = some ⟨b_9, o_5, none⟩ ∧
 ∃ (x65p_ : Option Addr) (x65n_ x65c_ : Nat), cellsAt q_12 b_9 (o_5 + 0) [(.slice x65p_ x65n_ x65c_)] ∧
 CallsH Tryz.prog 169 #[(.slice x65p_ x65n_ x65c_), (.slice x32p_ x32n_ x32c_)] q_12 fun en_3 q_13 =>
 ∃ x67_ : Bool, en_3 = .returned (.bool x67_) ∧
 ((x67_ = true →
 ∃ Cv_ : Hp → Prop, Cv_ q_13 ∧
 ∃ b_10 o_6, x61_ = some ⟨b_10, o_6, none⟩ ∧
 ∃ x72_ : Option Nat, cellsAt q_13 b_10 (o_6 + 1) [(.map x72_)] ∧
 ∃ x73f0_ : Int, ∃ x73f1_ : Int, ∃ x73f2_ : Int, ∃ x73f3_ : Int, ∃ x73f4_ : Int, ∃ x73f5_ : Int, ∃ x73f6_ : Int, ∃ x73f7_ : Int, ∃ x73f8_ : Int, ∃ x73f9_ : Int, ∃ x73f10_ : Int, ∃ x73f11_ : Int, ∃ x73f12_ : Int, ∃ x73f13_ : Int, ∃ x73f14_ : Int, ∃ x73f15_ : Int, cellsAt q_13 b_6 0 [(.int .u64 x73f0_), (.int .u64 x73f1_), (.int .u64 x73f2_), (.int .u64 x73f3_), (.int .u64 x73f4_), (.int .u64 x73f5_), (.int .u64 x73f6_), (.int .u64 x73f7_), (.int .u64 x73f8_), (.int .u64 x73f9_), (.int .u64 x73f10_), (.int .u64 x73f11_), (.int .u64 x73f12_), (.int .u64 x73f13_), (.int .u64 x73f14_), (.int .u64 x73f15_)] ∧
 SemH Tryz.prog (Instr.lookup 244 (.map x72_) (.agg #[(.int .u64 x73f0_), (.int .u64 x73f1_), (.int .u64 x73f2_), (.int .u64 x73f3_), (.int .u64 x73f4_), (.int .u64 x73f5_), (.int .u64 x73f6_), (.int .u64 x73f7_), (.int .u64 x73f8_), (.int .u64 x73f9_), (.int .u64 x73f10_), (.int .u64 x73f11_), (.int .u64 x73f12_), (.int .u64 x73f13_), (.int .u64 x73f14_), (.int .u64 x73f15_)]) false) q_13 fun v_2 q_14 =>
 ∃ (x74p_ : Option Addr) (x74n_ x74c_ : Nat), v_2 = (.slice x74p_ x74n_ x74c_) ∧
 Cv_ q_14 ∧
 ∃ (x75f0p_ : Option Addr) (x75f0n_ x75f0c_ : Nat), ∃ x75f1_ : Int, ∃ x75f2_ : ByteArray, ∃ (x75f3p_ : Option Addr) (x75f3n_ x75f3c_ : Nat), (∀ h', Cv_ h' → cellsAt h' b_ 0 [(.slice x75f0p_ x75f0n_ x75f0c_), (.int .i64 x75f1_), (.string x75f2_), (.slice x75f3p_ x75f3n_ x75f3c_)]) ∧
 CallsH Tryz.prog 170 #[(.slice x74p_ x74n_ x74c_), (.agg #[(.slice x75f0p_ x75f0n_ x75f0c_), (.int .i64 x75f1_), (.string x75f2_), (.slice x75f3p_ x75f3n_ x75f3c_)]), (.func (.func 163) #[] #[])] q_14 fun en_4 q_15 =>
 ∃ x76r0_ : Int, ∃ x76r1_ : Bool, en_4 = .returned (.tuple #[(.int .i64 x76r0_), (.bool x76r1_)]) ∧
 Cv_ q_15 ∧
 ∃ x80f0_ : Int, ∃ x80f1_ : Int, ∃ x80f2_ : Int, ∃ x80f3_ : Int, ∃ x80f4_ : Int, ∃ x80f5_ : Int, ∃ x80f6_ : Int, ∃ x80f7_ : Int, ∃ x80f8_ : Int, ∃ x80f9_ : Int, ∃ x80f10_ : Int, ∃ x80f11_ : Int, ∃ x80f12_ : Int, ∃ x80f13_ : Int, ∃ x80f14_ : Int, ∃ x80f15_ : Int, cellsAt q_15 b_6 0 [(.int .u64 x80f0_), (.int .u64 x80f1_), (.int .u64 x80f2_), (.int .u64 x80f3_), (.int .u64 x80f4_), (.int .u64 x80f5_), (.int .u64 x80f6_), (.int .u64 x80f7_), (.int .u64 x80f8_), (.int .u64 x80f9_), (.int .u64 x80f10_), (.int .u64 x80f11_), (.int .u64 x80f12_), (.int .u64 x80f13_), (.int .u64 x80f14_), (.int .u64 x80f15_)] ∧
 List.length [(Value.int .u64 x80f0_), (.int .u64 x80f1_), (.int .u64 x80f2_), (.int .u64 x80f3_), (.int .u64 x80f4_), (.int .u64 x80f5_), (.int .u64 x80f6_), (.int .u64 x80f7_), (.int .u64 x80f8_), (.int .u64 x80f9_), (.int .u64 x80f10_), (.int .u64 x80f11_), (.int .u64 x80f12_), (.int .u64 x80f13_), (.int .u64 x80f14_), (.int .u64 x80f15_)] = 16 ∧ (∀ c ∈ [(Value.int .u64 x80f0_), (.int .u64 x80f1_), (.int .u64 x80f2_), (.int .u64 x80f3_), (.int .u64 x80f4_), (.int .u64 x80f5_), (.int .u64 x80f6_), (.int .u64 x80f7_), (.int .u64 x80f8_), (.int .u64 x80f9_), (.int .u64 x80f10_), (.int .u64 x80f11_), (.int .u64 x80f12_), (.int .u64 x80f13_), (.int .u64 x80f14_), (.int .u64 x80f15_)], c.oneCell' = true) ∧ wrAt q_15 b_1 0 16 ∧ ∀ q_16, q_16 = setsH q_15 b_1 0 [(.int .u64 x80f0_), (.int .u64 x80f1_), (.int .u64 x80f2_), (.int .u64 x80f3_), (.int .u64 x80f4_), (.int .u64 x80f5_), (.int .u64 x80f6_), (.int .u64 x80f7_), (.int .u64 x80f8_), (.int .u64 x80f9_), (.int .u64 x80f10_), (.int .u64 x80f11_), (.int .u64 x80f12_), (.int .u64 x80f13_), (.int .u64 x80f14_), (.int .u64 x80f15_)] →
 ∃ resf0_ : Int, ∃ resf1_ : Int, ∃ resf2_ : Int, ∃ resf3_ : Int, ∃ resf4_ : Int, ∃ resf5_ : Int, ∃ resf6_ : Int, ∃ resf7_ : Int, ∃ resf8_ : Int, ∃ resf9_ : Int, ∃ resf10_ : Int, ∃ resf11_ : Int, ∃ resf12_ : Int, ∃ resf13_ : Int, ∃ resf14_ : Int, ∃ resf15_ : Int, cellsAt q_16 b_1 0 [(.int .u64 resf0_), (.int .u64 resf1_), (.int .u64 resf2_), (.int .u64 resf3_), (.int .u64 resf4_), (.int .u64 resf5_), (.int .u64 resf6_), (.int .u64 resf7_), (.int .u64 resf8_), (.int .u64 resf9_), (.int .u64 resf10_), (.int .u64 resf11_), (.int .u64 resf12_), (.int .u64 resf13_), (.int .u64 resf14_), (.int .u64 resf15_)] ∧
 R (.returned (.tuple #[(.pointer x61_), (.agg #[(.int .u64 resf0_), (.int .u64 resf1_), (.int .u64 resf2_), (.int .u64 resf3_), (.int .u64 resf4_), (.int .u64 resf5_), (.int .u64 resf6_), (.int .u64 resf7_), (.int .u64 resf8_), (.int .u64 resf9_), (.int .u64 resf10_), (.int .u64 resf11_), (.int .u64 resf12_), (.int .u64 resf13_), (.int .u64 resf14_), (.int .u64 resf15_)]), (.int .i64 x76r0_), (.bool x76r1_)])) q_16) ∧
 (x67_ = false →
 ∃ x83_, IntKind.i64.wrap (x58_ + (1 : Int)) = x83_ ∧
 (Iv_1 [(.int .i64 x83_)] q_13 ∧ m_1 [(.int .i64 x83_)] q_13 < m_1 [(.int .i64 x58_)] q_12)))) ∧
 ((decide (x58_ < ((x56n_ : Nat) : Int))) = false →
 ∃ x84f0_ : Int, ∃ x84f1_ : Int, ∃ x84f2_ : Int, ∃ x84f3_ : Int, ∃ x84f4_ : Int, ∃ x84f5_ : Int, ∃ x84f6_ : Int, ∃ x84f7_ : Int, ∃ x84f8_ : Int, ∃ x84f9_ : Int, ∃ x84f10_ : Int, ∃ x84f11_ : Int, ∃ x84f12_ : Int, ∃ x84f13_ : Int, ∃ x84f14_ : Int, ∃ x84f15_ : Int, cellsAt q_12 b_6 0 [(.int .u64 x84f0_), (.int .u64 x84f1_), (.int .u64 x84f2_), (.int .u64 x84f3_), (.int .u64 x84f4_), (.int .u64 x84f5_), (.int .u64 x84f6_), (.int .u64 x84f7_), (.int .u64 x84f8_), (.int .u64 x84f9_), (.int .u64 x84f10_), (.int .u64 x84f11_), (.int .u64 x84f12_), (.int .u64 x84f13_), (.int .u64 x84f14_), (.int .u64 x84f15_)] ∧
 List.length [(Value.int .u64 x84f0_), (.int .u64 x84f1_), (.int .u64 x84f2_), (.int .u64 x84f3_), (.int .u64 x84f4_), (.int .u64 x84f5_), (.int .u64 x84f6_), (.int .u64 x84f7_), (.int .u64 x84f8_), (.int .u64 x84f9_), (.int .u64 x84f10_), (.int .u64 x84f11_), (.int .u64 x84f12_), (.int .u64 x84f13_), (.int .u64 x84f14_), (.int .u64 x84f15_)] = 16 ∧ (∀ c ∈ [(Value.int .u64 x84f0_), (.int .u64 x84f1_), (.int .u64 x84f2_), (.int .u64 x84f3_), (.int .u64 x84f4_), (.int .u64 x84f5_), (.int .u64 x84f6_), (.int .u64 x84f7_), (.int .u64 x84f8_), (.int .u64 x84f9_), (.int .u64 x84f10_), (.int .u64 x84f11_), (.int .u64 x84f12_), (.int .u64 x84f13_), (.int .u64 x84f14_), (.int .u64 x84f15_)], c.oneCell' = true) ∧ wrAt q_12 b_1 0 16 ∧ ∀ q_17, q_17 = setsH q_12 b_1 0 [(.int .u64 x84f0_), (.int .u64 x84f1_), (.int .u64 x84f2_), (.int .u64 x84f3_), (.int .u64 x84f4_), (.int .u64 x84f5_), (.int .u64 x84f6_), (.int .u64 x84f7_), (.int .u64 x84f8_), (.int .u64 x84f9_), (.int .u64 x84f10_), (.int .u64 x84f11_), (.int .u64 x84f12_), (.int .u64 x84f13_), (.int .u64 x84f14_), (.int .u64 x84f15_)] →
 ∃ resf0_1 : Int, ∃ resf1_1 : Int, ∃ resf2_1 : Int, ∃ resf3_1 : Int, ∃ resf4_1 : Int, ∃ resf5_1 : Int, ∃ resf6_1 : Int, ∃ resf7_1 : Int, ∃ resf8_1 : Int, ∃ resf9_1 : Int, ∃ resf10_1 : Int, ∃ resf11_1 : Int, ∃ resf12_1 : Int, ∃ resf13_1 : Int, ∃ resf14_1 : Int, ∃ resf15_1 : Int, cellsAt q_17 b_1 0 [(.int .u64 resf0_1), (.int .u64 resf1_1), (.int .u64 resf2_1), (.int .u64 resf3_1), (.int .u64 resf4_1), (.int .u64 resf5_1), (.int .u64 resf6_1), (.int .u64 resf7_1), (.int .u64 resf8_1), (.int .u64 resf9_1), (.int .u64 resf10_1), (.int .u64 resf11_1), (.int .u64 resf12_1), (.int .u64 resf13_1), (.int .u64 resf14_1), (.int .u64 resf15_1)] ∧
 R (.returned (.tuple #[(.pointer none), (.agg #[(.int .u64 resf0_1), (.int .u64 resf1_1), (.int .u64 resf2_1), (.int .u64 resf3_1), (.int .u64 resf4_1), (.int .u64 resf5_1), (.int .u64 resf6_1), (.int .u64 resf7_1), (.int .u64 resf8_1), (.int .u64 resf9_1), (.int .u64 resf10_1), (.int .u64 resf11_1), (.int .u64 resf12_1), (.int .u64 resf13_1), (.int .u64 resf14_1), (.int .u64 resf15_1)]), (.int .i64 (0 : Int)), (.bool false)])) q_17))))))))) :
 CallsH Tryz.prog 157 #[(.pointer l_), (.agg #[(.slice ef0p_ ef0n_ ef0c_), (.int .i64 ef1_), (.string ef2_), (.slice ef3p_ ef3n_ ef3c_)])] h R := calls_vc fine false Tryz.func157 (ann := A157) (args := [(.pointer l_), (.agg #[(.slice ef0p_ ef0n_ ef0c_), (.int .i64 ef1_), (.string ef2_), (.slice ef3p_ ef3n_ ef3c_)])]) (by kernel_rfl) (Eq.mpr (by kernel_rfl) H)
def A158 : Ann := (.seq .nil (.seq .nil (.seq (.seq .nil (.cond (.seq .nil .nil) .nil)) (.seq .nil (.seq .nil (.seq .nil (.seq .nil .nil)))))))
theorem V158 (sp_ : Option Addr) (sn_ sc_ : Nat) (i_ : Int) (j_ : Int) (h : Hp) (R : Ending → Hp → Prop) (H :
 SemH Tryz.prog (Instr.sliceAt 176 (.slice sp_ sn_ sc_) (some (.int .i64 i_)) (some (.int .i64 j_)) (some (.int .i64 ((sn_ : Nat) : Int)))) h fun v_ q_ =>
 ∃ (x13p_ : Option Addr) (x13n_ x13c_ : Nat), v_ = (.slice x13p_ x13n_ x13c_) ∧
 (((decide (i_ = j_)) = true →
 R (.returned (.slice sp_ sn_ sc_)) q_) ∧
 ((decide (i_ = j_)) = false →
 ∃ u_ : Nat, i_ = (u_ : Int) ∧
 0 ≤ u_ ∧ u_ ≤ sc_ ∧ ∃ x22p_, cutP sp_ sc_ 0 4 = x22p_ ∧
 ∃ l_ : Nat, j_ = (l_ : Int) ∧
 l_ ≤ sn_ ∧ sn_ ≤ sc_ ∧ ∃ x25p_, cutP sp_ sc_ l_ 4 = x25p_ ∧
 SemH Tryz.prog (Builtin.append_ #[176, 176] 176 #[(.slice x22p_ (u_ - 0) (sc_ - 0)), (.slice x25p_ (sn_ - l_) (sc_ - l_))]) q_ fun v_1 q_1 =>
 ∃ (x26p_ : Option Addr) (x26n_ x26c_ : Nat), v_1 = (.slice x26p_ x26n_ x26c_) ∧
 ∃ l_1 : Nat, ((x26n_ : Nat) : Int) = (l_1 : Int) ∧
 ∃ u_1 : Nat, ((sn_ : Nat) : Int) = (u_1 : Int) ∧
 l_1 ≤ u_1 ∧ u_1 ≤ x26c_ ∧ ∃ x31p_, cutP x26p_ x26c_ l_1 4 = x31p_ ∧
 SemH Tryz.prog (Builtin.clear_ #[176] 0 #[(.slice x31p_ (u_1 - l_1) (x26c_ - l_1))]) q_1 fun v_2 q_2 =>
 v_2 = (.tuple #[]) ∧
 R (.returned (.slice x26p_ x26n_ x26c_)) q_2))) :
 CallsH Tryz.prog 158 #[(.slice sp_ sn_ sc_), (.int .i64 i_), (.int .i64 j_)] h R := calls_vc fine false Tryz.func158 (ann := A158) (args := [(.slice sp_ sn_ sc_), (.int .i64 i_), (.int .i64 j_)]) (by kernel_rfl) (Eq.mpr (by kernel_rfl) H)
def A159 : Ann := (.seq .nil (.seq .nil (.seq (.seq .nil (.cond (.seq .nil .nil) .nil)) (.seq (.seq .nil (.block (.loop [(5, (.int .i64)), (6, (.int .i64))] (.seq (.seq .nil (.cond .nil .nil)) (.seq (.block (.seq .nil (.seq .nil (.cond (.seq .nil .nil) .nil)))) .nil))))) (.seq .nil (.seq .nil .nil))))))
theorem V159 (sp_ : Option Addr) (sn_ sc_ : Nat) (del_ : Value) (h : Hp) (R : Ending → Hp → Prop) (H :
 CallsH Tryz.prog 171 #[(.slice sp_ sn_ sc_), del_] h fun en_ q_ =>
 ∃ x10_ : Int, en_ = .returned (.int .i64 x10_) ∧
 (((decide (x10_ = (-1 : Int))) = true →
 R (.returned (.slice sp_ sn_ sc_)) q_) ∧
 ((decide (x10_ = (-1 : Int))) = false →
 ∃ x15_, IntKind.i64.wrap (x10_ + (1 : Int)) = x15_ ∧
 ∃ (Iv_ : List Value → Hp → Prop) (m_ : List Value → Hp → Nat), Iv_ [(.int .i64 x10_), (.int .i64 x15_)] q_ ∧
 (∀ (i_ : Int) (j_ : Int) q_1, Iv_ [(.int .i64 i_), (.int .i64 j_)] q_1 →
 (((decide (j_ < ((sn_ : Nat) : Int))) = true →
 ∃ b_ o_, sp_ = some ⟨b_, o_, none⟩ ∧ 0 ≤ j_ ∧ j_ < (sn_ : Int) ∧
 ∃ x25_ : Option Addr, cellsAt q_1 b_ (o_ + Int.toNat j_ * 1) [(.pointer x25_)] ∧
 ∃ fn_ fst_ cap_, del_ = Value.func (.func fn_) fst_ cap_ ∧ bodied Tryz.prog fn_ = true ∧
 CallsH Tryz.prog fn_ (fst_.toList ++ [(Value.pointer x25_)] ++ cap_.toList).toArray q_1 fun en_1 q_2 =>
 ∃ x28_ : Bool, en_1 = .returned (.bool x28_) ∧
 (((!x28_) = true →
 ∃ b_1 o_1, sp_ = some ⟨b_1, o_1, none⟩ ∧ 0 ≤ i_ ∧ i_ < (sn_ : Int) ∧
 Value.oneCell' (.pointer x25_) = true ∧ wrAt q_2 b_1 (o_1 + Int.toNat i_ * 1) 1 ∧ ∀ q_3, q_3 = setsH q_2 b_1 (o_1 + Int.toNat i_ * 1) [(.pointer x25_)] →
 ∃ x35_, IntKind.i64.wrap (i_ + (1 : Int)) = x35_ ∧
 ∃ x21_, IntKind.i64.wrap (j_ + (1 : Int)) = x21_ ∧
 (Iv_ [(.int .i64 x35_), (.int .i64 x21_)] q_3 ∧ m_ [(.int .i64 x35_), (.int .i64 x21_)] q_3 < m_ [(.int .i64 i_), (.int .i64 j_)] q_1)) ∧
 ((!x28_) = false →
 ∃ x21_1, IntKind.i64.wrap (j_ + (1 : Int)) = x21_1 ∧
 (Iv_ [(.int .i64 i_), (.int .i64 x21_1)] q_2 ∧ m_ [(.int .i64 i_), (.int .i64 x21_1)] q_2 < m_ [(.int .i64 i_), (.int .i64 j_)] q_1)))) ∧
 ((decide (j_ < ((sn_ : Nat) : Int))) = false →
 ∃ l_ : Nat, i_ = (l_ : Int) ∧
 l_ ≤ sn_ ∧ sn_ ≤ sc_ ∧ ∃ x38p_, cutP sp_ sc_ l_ 1 = x38p_ ∧
 SemH Tryz.prog (Builtin.clear_ #[142] 0 #[(.slice x38p_ (sn_ - l_) (sc_ - l_))]) q_1 fun v_ q_4 =>
 v_ = (.tuple #[]) ∧
 ∃ u_ : Nat, i_ = (u_ : Int) ∧
 0 ≤ u_ ∧ u_ ≤ sc_ ∧ ∃ x41p_, cutP sp_ sc_ 0 1 = x41p_ ∧
 R (.returned (.slice x41p_ (u_ - 0) (sc_ - 0))) q_4)))))) :
 CallsH Tryz.prog 159 #[(.slice sp_ sn_ sc_), del_] h R := calls_vc fine false Tryz.func159 (ann := A159) (args := [(.slice sp_ sn_ sc_), del_]) (by kernel_rfl) (Eq.mpr (by kernel_rfl) H)
def A160 : Ann := (.seq .nil (.seq .nil .nil))
theorem V160 (o_ : Option Addr) (a1_ : Option Addr) (h : Hp) (R : Ending → Hp → Prop) (H :
 ∃ b_ o_1, a1_ = some ⟨b_, o_1, none⟩ ∧
 ∃ x5_ : Option Addr, cellsAt h b_ o_1 [(.pointer x5_)] ∧
 guardFree Tryz.prog 239 (.pointer o_) (.pointer x5_) = true ∧ ∃ x6_, EqH Tryz.prog h 239 (.pointer o_) (.pointer x5_) x6_ ∧
 R (.returned (.bool x6_)) h) :
 CallsH Tryz.prog 160 #[(.pointer o_), (.pointer a1_)] h R := calls_vc fine false Tryz.func160 (ann := A160) (args := [(.pointer o_), (.pointer a1_)]) (by kernel_rfl) (Eq.mpr (by kernel_rfl) H)
def A161 : Ann := (.seq .nil (.seq (.seq .nil (.cond (.seq .nil .nil) .nil)) (.seq (.seq .nil (.block (.loop [(20, (.int .i64))] (.seq .nil (.seq (.cond .nil .nil) (.seq (.block (.seq .nil (.seq (.drawLast [3, 10]) (.cond (.seq .nil .nil) .nil)))) .nil)))))) (.seq .nil .nil))))
theorem V161 (l_ : Option Addr) (keyp_ : Option Addr) (keyn_ keyc_ : Nat) (h : Hp) (R : Ending → Hp → Prop) (H :
 ∃ b_ o_, l_ = some ⟨b_, o_, none⟩ ∧
 ∃ (x12p_ : Option Addr) (x12n_ x12c_ : Nat), cellsAt h b_ (o_ + 8) [(.slice x12p_ x12n_ x12c_)] ∧
 (((decide (((keyn_ : Nat) : Int) ≠ ((x12n_ : Nat) : Int))) = true →
 R (.returned (.bool false)) h) ∧
 ((decide (((keyn_ : Nat) : Int) ≠ ((x12n_ : Nat) : Int))) = false →
 ∃ b_1 o_1, l_ = some ⟨b_1, o_1, none⟩ ∧
 ∃ (x18p_ : Option Addr) (x18n_ x18c_ : Nat), cellsAt h b_1 (o_1 + 8) [(.slice x18p_ x18n_ x18c_)] ∧
 ∃ (Iv_ : List Value → Hp → Prop) (m_ : List Value → Hp → Nat), Iv_ [(.int .i64 (0 : Int))] h ∧
 (∀ (x20_ : Int) q_, Iv_ [(.int .i64 x20_)] q_ →
 (((decide (x20_ < ((x18n_ : Nat) : Int))) = true →
 ∃ b_2 o_2, x18p_ = some ⟨b_2, o_2, none⟩ ∧ 0 ≤ x20_ ∧ x20_ < (x18n_ : Int) ∧
 ∃ x24_ : Int, cellsAt q_ b_2 (o_2 + Int.toNat x20_ * 1) [(.int .i64 x24_)] ∧
 ∃ Cv_ : Hp → Prop, Cv_ q_ ∧
 ∃ b_3 o_3, keyp_ = some ⟨b_3, o_3, none⟩ ∧ 0 ≤ x20_ ∧ x20_ < (keyn_ : Int) ∧
 ∃ x28f0_ : Int, ∃ x28f1_ : Int, (∀ h', Cv_ h' → cellsAt h' b_3 (o_3 + Int.toNat x20_ * 2) [(.int .u64 x28f0_), (.int .u64 x28f1_)]) ∧
 CallsH Tryz.prog 173 #[(.int .i64 x24_)] q_ fun en_ q_1 =>
 ∃ x30f0_ : Int, ∃ x30f1_ : Int, en_ = .returned (.agg #[(.int .u64 x30f0_), (.int .u64 x30f1_)]) ∧
 Cv_ q_1 ∧
 CallsH Tryz.prog 172 #[(.agg #[(.int .u64 x28f0_), (.int .u64 x28f1_)]), (.agg #[(.int .u64 x30f0_), (.int .u64 x30f1_)])] q_1 fun en_1 q_2 =>
 ∃ x31f0_ : Int, ∃ x31f1_ : Int, en_1 = .returned (.agg #[(.int .u64 x31f0_), (.int .u64 x31f1_)]) ∧
 Cv_ q_2 ∧
 ∃ b_4 o_4, keyp_ = some ⟨b_4, o_4, none⟩ ∧ 0 ≤ x20_ ∧ x20_ < (keyn_ : Int) ∧
 ∃ x35f0_ : Int, ∃ x35f1_ : Int, (∀ h', Cv_ h' → cellsAt h' b_4 (o_4 + Int.toNat x20_ * 2) [(.int .u64 x35f0_), (.int .u64 x35f1_)]) ∧
 ∃ x36_, EqV Tryz.prog 40 (.agg #[(.int .u64 x31f0_), (.int .u64 x31f1_)]) (.agg #[(.int .u64 x35f0_), (.int .u64 x35f1_)]) x36_ ∧
 (((!x36_) = true →
 R (.returned (.bool false)) q_2) ∧
 ((!x36_) = false →
 ∃ x37_, IntKind.i64.wrap (x20_ + (1 : Int)) = x37_ ∧
 (Iv_ [(.int .i64 x37_)] q_2 ∧ m_ [(.int .i64 x37_)] q_2 < m_ [(.int .i64 x20_)] q_)))) ∧
 ((decide (x20_ < ((x18n_ : Nat) : Int))) = false →
 R (.returned (.bool true)) q_)))))) :
 CallsH Tryz.prog 161 #[(.pointer l_), (.slice keyp_ keyn_ keyc_)] h R := calls_vc fine false Tryz.func161 (ann := A161) (args := [(.pointer l_), (.slice keyp_ keyn_ keyc_)]) (by kernel_rfl) (Eq.mpr (by kernel_rfl) H)
def A162 : Ann := (.seq .nil (.seq .nil (.seq (.seq .nil (.block (.loop [(18, (.int .i64))] (.seq .nil (.seq (.cond .nil .nil) (.seq (.block (.seq .nil (.seq .nil (.block (.seq .nil (.cond .dead (.seq .nil (.cond (.cut (.orders 1000000 [[0, 1, 2, 3, 4, 5, 6, 8, 9, 10, 11, 12, 13, 14, 15, 16, 17, 18, 19, 20, 7, 21, 22, 23, 24, 25], [0, 1, 2, 3, 4, 5, 6, 8, 9, 10, 11, 12, 13, 14, 15, 16, 17, 18, 19, 20, 7, 21, 23, 22, 24, 25], [0, 1, 2, 3, 4, 5, 6, 8, 9, 10, 11, 12, 13, 14, 15, 16, 17, 18, 19, 20, 7, 22, 21, 23, 24, 25], [0, 1, 2, 3, 4, 5, 6, 8, 9, 10, 11, 12, 13, 14, 15, 16, 17, 18, 19, 20, 7, 22, 23, 21, 24, 25], [0, 1, 2, 3, 4, 5, 6, 8, 9, 10, 11, 12, 13, 14, 15, 16, 17, 18, 19, 20, 7, 23, 21, 22, 24, 25], [0, 1, 2, 3, 4, 5, 6, 8, 9, 10, 11, 12, 13, 14, 15, 16, 17, 18, 19, 20, 7, 23, 22, 21, 24, 25], [0, 1, 2, 3, 4, 5, 6, 8, 9, 10, 11, 12, 13, 14, 15, 16, 17, 18, 19, 20, 22, 7, 21, 23, 24, 25], [0, 1, 2, 3, 4, 5, 6, 8, 9, 10, 11, 12, 13, 14, 15, 16, 17, 18, 19, 20, 22, 7, 23, 21, 24, 25], [0, 1, 2, 3, 4, 5, 6, 8, 9, 10, 11, 12, 13, 14, 15, 16, 17, 18, 19, 20, 22, 23, 7, 21, 24, 25], [0, 1, 2, 3, 4, 5, 6, 8, 9, 10, 11, 12, 13, 14, 15, 16, 17, 18, 19, 20, 23, 7, 21, 22, 24, 25], [0, 1, 2, 3, 4, 5, 6, 8, 9, 10, 11, 12, 13, 14, 15, 16, 17, 18, 19, 20, 23, 7, 22, 21, 24, 25], [0, 1, 2, 3, 4, 5, 6, 8, 9, 10, 11, 12, 13, 14, 15, 16, 17, 18, 19, 20, 23, 22, 7, 21, 24, 25]] [3, 6, 11, 14, 19]) [(11, .ptr), (12, .ptr)] .nil) (.seq .nil (.cond .nil (.seq .dead .dead))))))))))) .nil)))))) (.seq .nil .nil))))
theorem V162 (l_ : Option Addr) (shapep_ : Option Addr) (shapen_ shapec_ : Nat) (keyp_ : Option Addr) (keyn_ keyc_ : Nat) (h : Hp) (R : Ending → Hp → Prop) (H :
 ∀ b_ q_, b_ = h.size → q_ = h.push (.cells (zeros Tryz.prog 241) 241) → (∃ i z, Tryz.prog.info? 241 = some i ∧ i.zero = some z) ∧
 ∀ b_1 q_1, b_1 = q_.size → q_1 = q_.push (.cells (zeros Tryz.prog 241) 241) → (∃ i z, Tryz.prog.info? 241 = some i ∧ i.zero = some z) ∧
 ∃ b_2 o_, l_ = some ⟨b_2, o_, none⟩ ∧
 ∃ (x16p_ : Option Addr) (x16n_ x16c_ : Nat), cellsAt q_1 b_2 (o_ + 7) [(.slice x16p_ x16n_ x16c_)] ∧
 ∃ (Iv_ : List Value → Hp → Prop) (m_ : List Value → Hp → Nat), Iv_ [(.int .i64 (0 : Int))] q_1 ∧
 (∀ (x18_ : Int) q_2, Iv_ [(.int .i64 x18_)] q_2 →
 (((decide (x18_ < ((x16n_ : Nat) : Int))) = true →
 ∃ b_3 o_1, x16p_ = some ⟨b_3, o_1, none⟩ ∧ 0 ≤ x18_ ∧ x18_ < (x16n_ : Int) ∧
 ∃ x22_ : Int, cellsAt q_2 b_3 (o_1 + Int.toNat x18_ * 1) [(.int .i64 x22_)] ∧
 (((decide (x22_ = (1 : Int))) = true →
 False) ∧
 ((decide (x22_ = (1 : Int))) = false →
 (((decide (x22_ = (2 : Int))) = true →
 ∃ Jv_ : List Value → Hp → Prop,
 ((∃ Cv_ : Hp → Prop, Cv_ q_2 ∧
 ∃ b_4 o_2, l_ = some ⟨b_4, o_2, none⟩ ∧
 ∃ (x37p_ : Option Addr) (x37n_ x37c_ : Nat), (∀ h', Cv_ h' → cellsAt h' b_4 (o_2 + 8) [(.slice x37p_ x37n_ x37c_)]) ∧
 ∃ b_5 o_3, x37p_ = some ⟨b_5, o_3, none⟩ ∧ 0 ≤ x18_ ∧ x18_ < (x37n_ : Int) ∧
 ∃ x40_ : Int, (∀ h', Cv_ h' → cellsAt h' b_5 (o_3 + Int.toNat x18_ * 1) [(.int .i64 x40_)]) ∧
 ∃ b_6 o_4, l_ = some ⟨b_6, o_4, none⟩ ∧
 ∃ (x45p_ : Option Addr) (x45n_ x45c_ : Nat), (∀ h', Cv_ h' → cellsAt h' b_6 (o_4 + 8) [(.slice x45p_ x45n_ x45c_)]) ∧
 ∃ b_7 o_5, x45p_ = some ⟨b_7, o_5, none⟩ ∧ 0 ≤ x18_ ∧ x18_ < (x45n_ : Int) ∧
 ∃ x48_ : Int, (∀ h', Cv_ h' → cellsAt h' b_7 (o_5 + Int.toNat x18_ * 1) [(.int .i64 x48_)]) ∧
 ∃ b_8 o_6, shapep_ = some ⟨b_8, o_6, none⟩ ∧ 0 ≤ x18_ ∧ x18_ < (shapen_ : Int) ∧
 ∃ x53_ : Int, (∀ h', Cv_ h' → cellsAt h' b_8 ((o_6 + Int.toNat x18_ * 5) + 4) [(.int .i64 x53_)]) ∧
 ∃ x54_, IntKind.i64.wrap (x48_ - x53_) = x54_ ∧
 CallsH Tryz.prog 173 #[(.int .i64 x40_)] q_2 fun en_ q_3 =>
 ∃ x41f0_ : Int, ∃ x41f1_ : Int, en_ = .returned (.agg #[(.int .u64 x41f0_), (.int .u64 x41f1_)]) ∧
 Cv_ q_3 ∧
 CallsH Tryz.prog 173 #[(.int .i64 x54_)] q_3 fun en_1 q_4 =>
 ∃ x55f0_ : Int, ∃ x55f1_ : Int, en_1 = .returned (.agg #[(.int .u64 x55f0_), (.int .u64 x55f1_)]) ∧
 Cv_ q_4 ∧
 ∀ b_9 q_5, b_9 = q_4.size → q_5 = q_4.push (.cells (zeros Tryz.prog 40) 40) → (∃ i z, Tryz.prog.info? 40 = some i ∧ i.zero = some z) ∧
 Cv_ q_5 ∧
 ∀ b_10 q_6, b_10 = q_5.size → q_6 = q_5.push (.cells (zeros Tryz.prog 40) 40) → (∃ i z, Tryz.prog.info? 40 = some i ∧ i.zero = some z) ∧
 Cv_ q_6 ∧
 List.length [(Value.int .u64 x41f0_), (.int .u64 x41f1_)] = 2 ∧ (∀ c ∈ [(Value.int .u64 x41f0_), (.int .u64 x41f1_)], c.oneCell' = true) ∧ wrAt q_6 b_9 0 2 ∧ ∀ q_7, q_7 = setsH q_6 b_9 0 [(.int .u64 x41f0_), (.int .u64 x41f1_)] →
 Cv_ q_7 ∧
 List.length [(Value.int .u64 x55f0_), (.int .u64 x55f1_)] = 2 ∧ (∀ c ∈ [(Value.int .u64 x55f0_), (.int .u64 x55f1_)], c.oneCell' = true) ∧ wrAt q_7 b_10 0 2 ∧ ∀ q_8, q_8 = setsH q_7 b_10 0 [(.int .u64 x55f0_), (.int .u64 x55f1_)] →
 Cv_ q_8 ∧
 Jv_ [(.pointer (some ⟨b_9, 0, none⟩)), (.pointer (some ⟨b_10, 0, none⟩))] q_8) ∧
 (∃ Cv_1 : Hp → Prop, Cv_1 q_2 ∧
 ∃ b_11 o_7, l_ = some ⟨b_11, o_7, none⟩ ∧
 ∃ (x37p_1 : Option Addr) (x37n_1 x37c_1 : Nat), (∀ h', Cv_1 h' → cellsAt h' b_11 (o_7 + 8) [(.slice x37p_1 x37n_1 x37c_1)]) ∧
 ∃ b_12 o_8, x37p_1 = some ⟨b_12, o_8, none⟩ ∧ 0 ≤ x18_ ∧ x18_ < (x37n_1 : Int) ∧
 ∃ x40_1 : Int, (∀ h', Cv_1 h' → cellsAt h' b_12 (o_8 + Int.toNat x18_ * 1) [(.int .i64 x40_1)]) ∧
 ∃ b_13 o_9, l_ = some ⟨b_13, o_9, none⟩ ∧
 ∃ (x45p_1 : Option Addr) (x45n_1 x45c_1 : Nat), (∀ h', Cv_1 h' → cellsAt h' b_13 (o_9 + 8) [(.slice x45p_1 x45n_1 x45c_1)]) ∧
 ∃ b_14 o_10, x45p_1 = some ⟨b_14, o_10, none⟩ ∧ 0 ≤ x18_ ∧ x18_ < (x45n_1 : Int) ∧
 ∃ x48_1 : Int, (∀ h', Cv_1 h' → cellsAt h' b_14 (o_10 + Int.toNat x18_ * 1) [(.int .i64 x48_1)]) ∧
 ∃ b_15 o_11, shapep_ = some ⟨b_15, o_11, none⟩ ∧ 0 ≤ x18_ ∧ x18_ < (shapen_ : Int) ∧
 ∃ x53_1 : Int, (∀ h', Cv_1 h' → cellsAt h' b_15 ((o_11 + Int.toNat x18_ * 5) + 4) [(.int .i64 x53_1)]) ∧
 ∃ x54_1, IntKind.i64.wrap (x48_1 - x53_1) = x54_1 ∧
 CallsH Tryz.prog 173 #[(.int .i64 x40_1)] q_2 fun en_2 q_9 =>
 ∃ x41f0_1 : Int, ∃ x41f1_1 : Int, en_2 = .returned (.agg #[(.int .u64 x41f0_1), (.int .u64 x41f1_1)]) ∧
 Cv_1 q_9 ∧
 CallsH Tryz.prog 173 #[(.int .i64 x54_1)] q_9 fun en_3 q_10 =>
 ∃ x55f0_1 : Int, ∃ x55f1_1 : Int, en_3 = .returned (.agg #[(.int .u64 x55f0_1), (.int .u64 x55f1_1)]) ∧
 Cv_1 q_10 ∧
 ∀ b_16 q_11, b_16 = q_10.size → q_11 = q_10.push (.cells (zeros Tryz.prog 40) 40) → (∃ i z, Tryz.prog.info? 40 = some i ∧ i.zero = some z) ∧
 Cv_1 q_11 ∧
 ∀ b_17 q_12, b_17 = q_11.size → q_12 = q_11.push (.cells (zeros Tryz.prog 40) 40) → (∃ i z, Tryz.prog.info? 40 = some i ∧ i.zero = some z) ∧
 Cv_1 q_12 ∧
 List.length [(Value.int .u64 x41f0_1), (.int .u64 x41f1_1)] = 2 ∧ (∀ c ∈ [(Value.int .u64 x41f0_1), (.int .u64 x41f1_1)], c.oneCell' = true) ∧ wrAt q_12 b_17 0 2 ∧ ∀ q_13, q_13 = setsH q_12 b_17 0 [(.int .u64 x41f0_1), (.int .u64 x41f1_1)] →
 Cv_1 q_13 ∧
 List.length [(Value.int .u64 x55f0_1), (.int .u64 x55f1_1)] = 2 ∧ (∀ c ∈ [(Value.int .u64 x55f0_1), (.int .u64 x55f1_1)], c.oneCell' = true) ∧ wrAt q_13 b_16 0 2 ∧ ∀ q_14, q_14 = setsH q_13 b_16 0 [(.int .u64 x55f0_1), (.int .u64 x55f1_1)] →
 Cv_1 q_14 ∧
 Jv_ [(.pointer (some ⟨b_17, 0, none⟩)), (.pointer (some ⟨b_16, 0, none⟩))] q_14) ∧
 (∃ Cv_2 : Hp → Prop, Cv_2 q_2 ∧
 ∃ b_18 o_12, l_ = some ⟨b_18, o_12, none⟩ ∧
 ∃ (x37p_2 : Option Addr) (x37n_2 x37c_2 : Nat), (∀ h', Cv_2 h' → cellsAt h' b_18 (o_12 + 8) [(.slice x37p_2 x37n_2 x37c_2)]) ∧
 ∃ b_19 o_13, x37p_2 = some ⟨b_19, o_13, none⟩ ∧ 0 ≤ x18_ ∧ x18_ < (x37n_2 : Int) ∧
 ∃ x40_2 : Int, (∀ h', Cv_2 h' → cellsAt h' b_19 (o_13 + Int.toNat x18_ * 1) [(.int .i64 x40_2)]) ∧
 ∃ b_20 o_14, l_ = some ⟨b_20, o_14, none⟩ ∧
 ∃ (x45p_2 : Option Addr) (x45n_2 x45c_2 : Nat), (∀ h', Cv_2 h' → cellsAt h' b_20 (o_14 + 8) [(.slice x45p_2 x45n_2 x45c_2)]) ∧
 ∃ b_21 o_15, x45p_2 = some ⟨b_21, o_15, none⟩ ∧ 0 ≤ x18_ ∧ x18_ < (x45n_2 : Int) ∧
 ∃ x48_2 : Int, (∀ h', Cv_2 h' → cellsAt h' b_21 (o_15 + Int.toNat x18_ * 1) [(.int .i64 x48_2)]) ∧
 ∃ b_22 o_16, shapep_ = some ⟨b_22, o_16, none⟩ ∧ 0 ≤ x18_ ∧ x18_ < (shapen_ : Int) ∧
 ∃ x53_2 : Int, (∀ h', Cv_2 h' → cellsAt h' b_22 ((o_16 + Int.toNat x18_ * 5) + 4) [(.int .i64 x53_2)]) ∧
 ∃ x54_2, IntKind.i64.wrap (x48_2 - x53_2) = x54_2 ∧
 CallsH Tryz.prog 173 #[(.int .i64 x40_2)] q_2 fun en_4 q_15 =>
 ∃ x41f0_2 : Int, ∃ x41f1_2 : Int, en_4 = .returned (.agg #[(.int .u64 x41f0_2), (.int .u64 x41f1_2)]) ∧
 Cv_2 q_15 ∧
 ∀ b_23 q_16, b_23 = q_15.size → q_16 = q_15.push (.cells (zeros Tryz.prog 40) 40) → (∃ i z, Tryz.prog.info? 40 = some i ∧ i.zero = some z) ∧
 Cv_2 q_16 ∧
 CallsH Tryz.prog 173 #[(.int .i64 x54_2)] q_16 fun en_5 q_17 =>
 ∃ x55f0_2 : Int, ∃ x55f1_2 : Int, en_5 = .returned (.agg #[(.int .u64 x55f0_2), (.int .u64 x55f1_2)]) ∧
 Cv_2 q_17 ∧
 ∀ b_24 q_18, b_24 = q_17.size → q_18 = q_17.push (.cells (zeros Tryz.prog 40) 40) → (∃ i z, Tryz.prog.info? 40 = some i ∧ i.zero = some z) ∧
 Cv_2 q_18 ∧
 List.length [(Value.int .u64 x41f0_2), (.int .u64 x41f1_2)] = 2 ∧ (∀ c ∈ [(Value.int .u64 x41f0_2), (.int .u64 x41f1_2)], c.oneCell' = true) ∧ wrAt q_18 b_23 0 2 ∧ ∀ q_19, q_19 = setsH q_18 b_23 0 [(.int .u64 x41f0_2), (.int .u64 x41f1_2)] →
 Cv_2 q_19 ∧
 List.length [(Value.int .u64 x55f0_2), (.int .u64 x55f1_2)] = 2 ∧ (∀ c ∈ [(Value.int .u64 x55f0_2), (.int .u64 x55f1_2)], c.oneCell' = true) ∧ wrAt q_19 b_24 0 2 ∧ ∀ q_20, q_20 = setsH q_19 b_24 0 [(.int .u64 x55f0_2), (.int .u64 x55f1_2)] →
 Cv_2 q_20 ∧
 Jv_ [(.pointer (some ⟨b_23, 0, none⟩)), (.pointer (some ⟨b_24, 0, none⟩))] q_20) ∧
 (∃ Cv_3 : Hp → Prop, Cv_3 q_2 ∧
 ∃ b_25 o_17, l_ = some ⟨b_25, o_17, none⟩ ∧
 ∃ (x37p_3 : Option Addr) (x37n_3 x37c_3 : Nat), (∀ h', Cv_3 h' → cellsAt h' b_25 (o_17 + 8) [(.slice x37p_3 x37n_3 x37c_3)]) ∧
 ∃ b_26 o_18, x37p_3 = some ⟨b_26, o_18, none⟩ ∧ 0 ≤ x18_ ∧ x18_ < (x37n_3 : Int) ∧
 ∃ x40_3 : Int, (∀ h', Cv_3 h' → cellsAt h' b_26 (o_18 + Int.toNat x18_ * 1) [(.int .i64 x40_3)]) ∧
 ∃ b_27 o_19, l_ = some ⟨b_27, o_19, none⟩ ∧
 ∃ (x45p_3 : Option Addr) (x45n_3 x45c_3 : Nat), (∀ h', Cv_3 h' → cellsAt h' b_27 (o_19 + 8) [(.slice x45p_3 x45n_3 x45c_3)]) ∧
 ∃ b_28 o_20, x45p_3 = some ⟨b_28, o_20, none⟩ ∧ 0 ≤ x18_ ∧ x18_ < (x45n_3 : Int) ∧
 ∃ x48_3 : Int, (∀ h', Cv_3 h' → cellsAt h' b_28 (o_20 + Int.toNat x18_ * 1) [(.int .i64 x48_3)]) ∧
 ∃ b_29 o_21, shapep_ = some ⟨b_29, o_21, none⟩ ∧ 0 ≤ x18_ ∧ x18_ < (shapen_ : Int) ∧
 ∃ x53_3 : Int, (∀ h', Cv_3 h' → cellsAt h' b_29 ((o_21 + Int.toNat x18_ * 5) + 4) [(.int .i64 x53_3)]) ∧
 ∃ x54_3, IntKind.i64.wrap (x48_3 - x53_3) = x54_3 ∧
 CallsH Tryz.prog 173 #[(.int .i64 x40_3)] q_2 fun en_6 q_21 =>
 ∃ x41f0_3 : Int, ∃ x41f1_3 : Int, en_6 = .returned (.agg #[(.int .u64 x41f0_3), (.int .u64 x41f1_3)]) ∧
 Cv_3 q_21 ∧
 ∀ b_30 q_22, b_30 = q_21.size → q_22 = q_21.push (.cells (zeros Tryz.prog 40) 40) → (∃ i z, Tryz.prog.info? 40 = some i ∧ i.zero = some z) ∧
 Cv_3 q_22 ∧
 ∀ b_31 q_23, b_31 = q_22.size → q_23 = q_22.push (.cells (zeros Tryz.prog 40) 40) → (∃ i z, Tryz.prog.info? 40 = some i ∧ i.zero = some z) ∧
 Cv_3 q_23 ∧
 CallsH Tryz.prog 173 #[(.int .i64 x54_3)] q_23 fun en_7 q_24 =>
 ∃ x55f0_3 : Int, ∃ x55f1_3 : Int, en_7 = .returned (.agg #[(.int .u64 x55f0_3), (.int .u64 x55f1_3)]) ∧
 Cv_3 q_24 ∧
 List.length [(Value.int .u64 x41f0_3), (.int .u64 x41f1_3)] = 2 ∧ (∀ c ∈ [(Value.int .u64 x41f0_3), (.int .u64 x41f1_3)], c.oneCell' = true) ∧ wrAt q_24 b_30 0 2 ∧ ∀ q_25, q_25 = setsH q_24 b_30 0 [(.int .u64 x41f0_3), (.int .u64 x41f1_3)] →
 Cv_3 q_25 ∧
 List.length [(Value.int .u64 x55f0_3), (.int .u64 x55f1_3)] = 2 ∧ (∀ c ∈ [(Value.int .u64 x55f0_3), (.int .u64 x55f1_3)], c.oneCell' = true) ∧ wrAt q_25 b_31 0 2 ∧ ∀ q_26, q_26 = setsH q_25 b_31 0 [(.int .u64 x55f0_3), (.int .u64 x55f1_3)] →
 Cv_3 q_26 ∧
 Jv_ [(.pointer (some ⟨b_30, 0, none⟩)), (.pointer (some ⟨b_31, 0, none⟩))] q_26) ∧
 (∃ Cv_4 : Hp → Prop, Cv_4 q_2 ∧
 ∃ b_32 o_22, l_ = some ⟨b_32, o_22, none⟩ ∧
 ∃ (x37p_4 : Option Addr) (x37n_4 x37c_4 : Nat), (∀ h', Cv_4 h' → cellsAt h' b_32 (o_22 + 8) [(.slice x37p_4 x37n_4 x37c_4)]) ∧
 ∃ b_33 o_23, x37p_4 = some ⟨b_33, o_23, none⟩ ∧ 0 ≤ x18_ ∧ x18_ < (x37n_4 : Int) ∧
 ∃ x40_4 : Int, (∀ h', Cv_4 h' → cellsAt h' b_33 (o_23 + Int.toNat x18_ * 1) [(.int .i64 x40_4)]) ∧
 ∃ b_34 o_24, l_ = some ⟨b_34, o_24, none⟩ ∧
 ∃ (x45p_4 : Option Addr) (x45n_4 x45c_4 : Nat), (∀ h', Cv_4 h' → cellsAt h' b_34 (o_24 + 8) [(.slice x45p_4 x45n_4 x45c_4)]) ∧
 ∃ b_35 o_25, x45p_4 = some ⟨b_35, o_25, none⟩ ∧ 0 ≤ x18_ ∧ x18_ < (x45n_4 : Int) ∧
 ∃ x48_4 : Int, (∀ h', Cv_4 h' → cellsAt h' b_35 (o_25 + Int.toNat x18_ * 1) [(.int .i64 x48_4)]) ∧
 ∃ b_36 o_26, shapep_ = some ⟨b_36, o_26, none⟩ ∧ 0 ≤ x18_ ∧ x18_ < (shapen_ : Int) ∧
 ∃ x53_4 : Int, (∀ h', Cv_4 h' → cellsAt h' b_36 ((o_26 + Int.toNat x18_ * 5) + 4) [(.int .i64 x53_4)]) ∧
 ∃ x54_4, IntKind.i64.wrap (x48_4 - x53_4) = x54_4 ∧
 CallsH Tryz.prog 173 #[(.int .i64 x40_4)] q_2 fun en_8 q_27 =>
 ∃ x41f0_4 : Int, ∃ x41f1_4 : Int, en_8 = .returned (.agg #[(.int .u64 x41f0_4), (.int .u64 x41f1_4)]) ∧
 Cv_4 q_27 ∧
 ∀ b_37 q_28, b_37 = q_27.size → q_28 = q_27.push (.cells (zeros Tryz.prog 40) 40) → (∃ i z, Tryz.prog.info? 40 = some i ∧ i.zero = some z) ∧
 Cv_4 q_28 ∧
 CallsH Tryz.prog 173 #[(.int .i64 x54_4)] q_28 fun en_9 q_29 =>
 ∃ x55f0_4 : Int, ∃ x55f1_4 : Int, en_9 = .returned (.agg #[(.int .u64 x55f0_4), (.int .u64 x55f1_4)]) ∧
 Cv_4 q_29 ∧
 ∀ b_38 q_30, b_38 = q_29.size → q_30 = q_29.push (.cells (zeros Tryz.prog 40) 40) → (∃ i z, Tryz.prog.info? 40 = some i ∧ i.zero = some z) ∧
 Cv_4 q_30 ∧
 List.length [(Value.int .u64 x41f0_4), (.int .u64 x41f1_4)] = 2 ∧ (∀ c ∈ [(Value.int .u64 x41f0_4), (.int .u64 x41f1_4)], c.oneCell' = true) ∧ wrAt q_30 b_38 0 2 ∧ ∀ q_31, q_31 = setsH q_30 b_38 0 [(.int .u64 x41f0_4), (.int .u64 x41f1_4)] →
 Cv_4 q_31 ∧
 List.length [(Value.int .u64 x55f0_4), (.int .u64 x55f1_4)] = 2 ∧ (∀ c ∈ [(Value.int .u64 x55f0_4), (.int .u64 x55f1_4)], c.oneCell' = true) ∧ wrAt q_31 b_37 0 2 ∧ ∀ q_32, q_32 = setsH q_31 b_37 0 [(.int .u64 x55f0_4), (.int .u64 x55f1_4)] →
 Cv_4 q_32 ∧
 Jv_ [(.pointer (some ⟨b_38, 0, none⟩)), (.pointer (some ⟨b_37, 0, none⟩))] q_32) ∧
 (∃ Cv_5 : Hp → Prop, Cv_5 q_2 ∧
 ∃ b_39 o_27, l_ = some ⟨b_39, o_27, none⟩ ∧
 ∃ (x37p_5 : Option Addr) (x37n_5 x37c_5 : Nat), (∀ h', Cv_5 h' → cellsAt h' b_39 (o_27 + 8) [(.slice x37p_5 x37n_5 x37c_5)]) ∧
 ∃ b_40 o_28, x37p_5 = some ⟨b_40, o_28, none⟩ ∧ 0 ≤ x18_ ∧ x18_ < (x37n_5 : Int) ∧
 ∃ x40_5 : Int, (∀ h', Cv_5 h' → cellsAt h' b_40 (o_28 + Int.toNat x18_ * 1) [(.int .i64 x40_5)]) ∧
 ∃ b_41 o_29, l_ = some ⟨b_41, o_29, none⟩ ∧
 ∃ (x45p_5 : Option Addr) (x45n_5 x45c_5 : Nat), (∀ h', Cv_5 h' → cellsAt h' b_41 (o_29 + 8) [(.slice x45p_5 x45n_5 x45c_5)]) ∧
 ∃ b_42 o_30, x45p_5 = some ⟨b_42, o_30, none⟩ ∧ 0 ≤ x18_ ∧ x18_ < (x45n_5 : Int) ∧
 ∃ x48_5 : Int, (∀ h', Cv_5 h' → cellsAt h' b_42 (o_30 + Int.toNat x18_ * 1) [(.int .i64 x48_5)]) ∧
 ∃ b_43 o_31, shapep_ = some ⟨b_43, o_31, none⟩ ∧ 0 ≤ x18_ ∧ x18_ < (shapen_ : Int) ∧
 ∃ x53_5 : Int, (∀ h', Cv_5 h' → cellsAt h' b_43 ((o_31 + Int.toNat x18_ * 5) + 4) [(.int .i64 x53_5)]) ∧
 ∃ x54_5, IntKind.i64.wrap (x48_5 - x53_5) = x54_5 ∧
 CallsH Tryz.prog 173 #[(.int .i64 x40_5)] q_2 fun en_10 q_33 =>
 ∃ x41f0_5 : Int, ∃ x41f1_5 : Int, en_10 = .returned (.agg #[(.int .u64 x41f0_5), (.int .u64 x41f1_5)]) ∧
 Cv_5 q_33 ∧
 ∀ b_44 q_34, b_44 = q_33.size → q_34 = q_33.push (.cells (zeros Tryz.prog 40) 40) → (∃ i z, Tryz.prog.info? 40 = some i ∧ i.zero = some z) ∧
 Cv_5 q_34 ∧
 ∀ b_45 q_35, b_45 = q_34.size → q_35 = q_34.push (.cells (zeros Tryz.prog 40) 40) → (∃ i z, Tryz.prog.info? 40 = some i ∧ i.zero = some z) ∧
 Cv_5 q_35 ∧
 CallsH Tryz.prog 173 #[(.int .i64 x54_5)] q_35 fun en_11 q_36 =>
 ∃ x55f0_5 : Int, ∃ x55f1_5 : Int, en_11 = .returned (.agg #[(.int .u64 x55f0_5), (.int .u64 x55f1_5)]) ∧
 Cv_5 q_36 ∧
 List.length [(Value.int .u64 x41f0_5), (.int .u64 x41f1_5)] = 2 ∧ (∀ c ∈ [(Value.int .u64 x41f0_5), (.int .u64 x41f1_5)], c.oneCell' = true) ∧ wrAt q_36 b_45 0 2 ∧ ∀ q_37, q_37 = setsH q_36 b_45 0 [(.int .u64 x41f0_5), (.int .u64 x41f1_5)] →
 Cv_5 q_37 ∧
 List.length [(Value.int .u64 x55f0_5), (.int .u64 x55f1_5)] = 2 ∧ (∀ c ∈ [(Value.int .u64 x55f0_5), (.int .u64 x55f1_5)], c.oneCell' = true) ∧ wrAt q_37 b_44 0 2 ∧ ∀ q_38, q_38 = setsH q_37 b_44 0 [(.int .u64 x55f0_5), (.int .u64 x55f1_5)] →
 Cv_5 q_38 ∧
 Jv_ [(.pointer (some ⟨b_45, 0, none⟩)), (.pointer (some ⟨b_44, 0, none⟩))] q_38) ∧
 (∃ Cv_6 : Hp → Prop, Cv_6 q_2 ∧
 ∃ b_46 o_32, l_ = some ⟨b_46, o_32, none⟩ ∧
 ∃ (x37p_6 : Option Addr) (x37n_6 x37c_6 : Nat), (∀ h', Cv_6 h' → cellsAt h' b_46 (o_32 + 8) [(.slice x37p_6 x37n_6 x37c_6)]) ∧
 ∃ b_47 o_33, x37p_6 = some ⟨b_47, o_33, none⟩ ∧ 0 ≤ x18_ ∧ x18_ < (x37n_6 : Int) ∧
 ∃ x40_6 : Int, (∀ h', Cv_6 h' → cellsAt h' b_47 (o_33 + Int.toNat x18_ * 1) [(.int .i64 x40_6)]) ∧
 ∃ b_48 o_34, l_ = some ⟨b_48, o_34, none⟩ ∧
 ∃ (x45p_6 : Option Addr) (x45n_6 x45c_6 : Nat), (∀ h', Cv_6 h' → cellsAt h' b_48 (o_34 + 8) [(.slice x45p_6 x45n_6 x45c_6)]) ∧
 ∃ b_49 o_35, x45p_6 = some ⟨b_49, o_35, none⟩ ∧ 0 ≤ x18_ ∧ x18_ < (x45n_6 : Int) ∧
 ∃ x48_6 : Int, (∀ h', Cv_6 h' → cellsAt h' b_49 (o_35 + Int.toNat x18_ * 1) [(.int .i64 x48_6)]) ∧
 ∃ b_50 o_36, shapep_ = some ⟨b_50, o_36, none⟩ ∧ 0 ≤ x18_ ∧ x18_ < (shapen_ : Int) ∧
 ∃ x53_6 : Int, (∀ h', Cv_6 h' → cellsAt h' b_50 ((o_36 + Int.toNat x18_ * 5) + 4) [(.int .i64 x53_6)]) ∧
 ∃ x54_6, IntKind.i64.wrap (x48_6 - x53_6) = x54_6 ∧
 ∀ b_51 q_39, b_51 = q_2.size → q_39 = q_2.push (.cells (zeros Tryz.prog 40) 40) → (∃ i z, Tryz.prog.info? 40 = some i ∧ i.zero = some z) ∧
 Cv_6 q_39 ∧
 CallsH Tryz.prog 173 #[(.int .i64 x40_6)] q_39 fun en_12 q_40 =>
 ∃ x41f0_6 : Int, ∃ x41f1_6 : Int, en_12 = .returned (.agg #[(.int .u64 x41f0_6), (.int .u64 x41f1_6)]) ∧
 Cv_6 q_40 ∧
 CallsH Tryz.prog 173 #[(.int .i64 x54_6)] q_40 fun en_13 q_41 =>
 ∃ x55f0_6 : Int, ∃ x55f1_6 : Int, en_13 = .returned (.agg #[(.int .u64 x55f0_6), (.int .u64 x55f1_6)]) ∧
 Cv_6 q_41 ∧
 ∀ b_52 q_42, b_52 = q_41.size → q_42 = q_41.push (.cells (zeros Tryz.prog 40) 40) → (∃ i z, Tryz.prog.info? 40 = some i ∧ i.zero = some z) ∧
 Cv_6 q_42 ∧
 List.length [(Value.int .u64 x41f0_6), (.int .u64 x41f1_6)] = 2 ∧ (∀ c ∈ [(Value.int .u64 x41f0_6), (.int .u64 x41f1_6)], c.oneCell' = true) ∧ wrAt q_42 b_51 0 2 ∧ ∀ q_43, q_43 = setsH q_42 b_51 0 [(.int .u64 x41f0_6), (.int .u64 x41f1_6)] →
 Cv_6 q_43 ∧
 List.length [(Value.int .u64 x55f0_6), (.int .u64 x55f1_6)] = 2 ∧ (∀ c ∈ [(Value.int .u64 x55f0_6), (.int .u64 x55f1_6)], c.oneCell' = true) ∧ wrAt q_43 b_52 0 2 ∧ ∀ q_44, q_44 = setsH q_43 b_52 0 [(.int .u64 x55f0_6), (.int .u64 x55f1_6)] →
 Cv_6 q_44 ∧
 Jv_ [(.pointer (some ⟨b_51, 0, none⟩)), (.pointer (some ⟨b_52, 0, none⟩))] q_44) ∧
 (∃ Cv_7 : Hp → Prop, Cv_7 q_2 ∧
 ∃ b_53 o_37, l_ = some ⟨b_53, o_37, none⟩ ∧
 ∃ (x37p_7 : Option Addr) (x37n_7 x37c_7 : Nat), (∀ h', Cv_7 h' → cellsAt h' b_53 (o_37 + 8) [(.slice x37p_7 x37n_7 x37c_7)]) ∧
 ∃ b_54 o_38, x37p_7 = some ⟨b_54, o_38, none⟩ ∧ 0 ≤ x18_ ∧ x18_ < (x37n_7 : Int) ∧
 ∃ x40_7 : Int, (∀ h', Cv_7 h' → cellsAt h' b_54 (o_38 + Int.toNat x18_ * 1) [(.int .i64 x40_7)]) ∧
 ∃ b_55 o_39, l_ = some ⟨b_55, o_39, none⟩ ∧
 ∃ (x45p_7 : Option Addr) (x45n_7 x45c_7 : Nat), (∀ h', Cv_7 h' → cellsAt h' b_55 (o_39 + 8) [(.slice x45p_7 x45n_7 x45c_7)]) ∧
 ∃ b_56 o_40, x45p_7 = some ⟨b_56, o_40, none⟩ ∧ 0 ≤ x18_ ∧ x18_ < (x45n_7 : Int) ∧
 ∃ x48_7 : Int, (∀ h', Cv_7 h' → cellsAt h' b_56 (o_40 + Int.toNat x18_ * 1) [(.int .i64 x48_7)]) ∧
 ∃ b_57 o_41, shapep_ = some ⟨b_57, o_41, none⟩ ∧ 0 ≤ x18_ ∧ x18_ < (shapen_ : Int) ∧
 ∃ x53_7 : Int, (∀ h', Cv_7 h' → cellsAt h' b_57 ((o_41 + Int.toNat x18_ * 5) + 4) [(.int .i64 x53_7)]) ∧
 ∃ x54_7, IntKind.i64.wrap (x48_7 - x53_7) = x54_7 ∧
 ∀ b_58 q_45, b_58 = q_2.size → q_45 = q_2.push (.cells (zeros Tryz.prog 40) 40) → (∃ i z, Tryz.prog.info? 40 = some i ∧ i.zero = some z) ∧
 Cv_7 q_45 ∧
 CallsH Tryz.prog 173 #[(.int .i64 x40_7)] q_45 fun en_14 q_46 =>
 ∃ x41f0_7 : Int, ∃ x41f1_7 : Int, en_14 = .returned (.agg #[(.int .u64 x41f0_7), (.int .u64 x41f1_7)]) ∧
 Cv_7 q_46 ∧
 ∀ b_59 q_47, b_59 = q_46.size → q_47 = q_46.push (.cells (zeros Tryz.prog 40) 40) → (∃ i z, Tryz.prog.info? 40 = some i ∧ i.zero = some z) ∧
 Cv_7 q_47 ∧
 CallsH Tryz.prog 173 #[(.int .i64 x54_7)] q_47 fun en_15 q_48 =>
 ∃ x55f0_7 : Int, ∃ x55f1_7 : Int, en_15 = .returned (.agg #[(.int .u64 x55f0_7), (.int .u64 x55f1_7)]) ∧
 Cv_7 q_48 ∧
 List.length [(Value.int .u64 x41f0_7), (.int .u64 x41f1_7)] = 2 ∧ (∀ c ∈ [(Value.int .u64 x41f0_7), (.int .u64 x41f1_7)], c.oneCell' = true) ∧ wrAt q_48 b_58 0 2 ∧ ∀ q_49, q_49 = setsH q_48 b_58 0 [(.int .u64 x41f0_7), (.int .u64 x41f1_7)] →
 Cv_7 q_49 ∧
 List.length [(Value.int .u64 x55f0_7), (.int .u64 x55f1_7)] = 2 ∧ (∀ c ∈ [(Value.int .u64 x55f0_7), (.int .u64 x55f1_7)], c.oneCell' = true) ∧ wrAt q_49 b_59 0 2 ∧ ∀ q_50, q_50 = setsH q_49 b_59 0 [(.int .u64 x55f0_7), (.int .u64 x55f1_7)] →
 Cv_7 q_50 ∧
 Jv_ [(.pointer (some ⟨b_58, 0, none⟩)), (.pointer (some ⟨b_59, 0, none⟩))] q_50) ∧
 (∃ Cv_8 : Hp → Prop, Cv_8 q_2 ∧
 ∃ b_60 o_42, l_ = some ⟨b_60, o_42, none⟩ ∧
 ∃ (x37p_8 : Option Addr) (x37n_8 x37c_8 : Nat), (∀ h', Cv_8 h' → cellsAt h' b_60 (o_42 + 8) [(.slice x37p_8 x37n_8 x37c_8)]) ∧
 ∃ b_61 o_43, x37p_8 = some ⟨b_61, o_43, none⟩ ∧ 0 ≤ x18_ ∧ x18_ < (x37n_8 : Int) ∧
 ∃ x40_8 : Int, (∀ h', Cv_8 h' → cellsAt h' b_61 (o_43 + Int.toNat x18_ * 1) [(.int .i64 x40_8)]) ∧
 ∃ b_62 o_44, l_ = some ⟨b_62, o_44, none⟩ ∧
 ∃ (x45p_8 : Option Addr) (x45n_8 x45c_8 : Nat), (∀ h', Cv_8 h' → cellsAt h' b_62 (o_44 + 8) [(.slice x45p_8 x45n_8 x45c_8)]) ∧
 ∃ b_63 o_45, x45p_8 = some ⟨b_63, o_45, none⟩ ∧ 0 ≤ x18_ ∧ x18_ < (x45n_8 : Int) ∧
 ∃ x48_8 : Int, (∀ h', Cv_8 h' → cellsAt h' b_63 (o_45 + Int.toNat x18_ * 1) [(.int .i64 x48_8)]) ∧
 ∃ b_64 o_46, shapep_ = some ⟨b_64, o_46, none⟩ ∧ 0 ≤ x18_ ∧ x18_ < (shapen_ : Int) ∧
 ∃ x53_8 : Int, (∀ h', Cv_8 h' → cellsAt h' b_64 ((o_46 + Int.toNat x18_ * 5) + 4) [(.int .i64 x53_8)]) ∧
 ∃ x54_8, IntKind.i64.wrap (x48_8 - x53_8) = x54_8 ∧
 ∀ b_65 q_51, b_65 = q_2.size → q_51 = q_2.push (.cells (zeros Tryz.prog 40) 40) → (∃ i z, Tryz.prog.info? 40 = some i ∧ i.zero = some z) ∧
 Cv_8 q_51 ∧
 ∀ b_66 q_52, b_66 = q_51.size → q_52 = q_51.push (.cells (zeros Tryz.prog 40) 40) → (∃ i z, Tryz.prog.info? 40 = some i ∧ i.zero = some z) ∧
 Cv_8 q_52 ∧
 CallsH Tryz.prog 173 #[(.int .i64 x40_8)] q_52 fun en_16 q_53 =>
 ∃ x41f0_8 : Int, ∃ x41f1_8 : Int, en_16 = .returned (.agg #[(.int .u64 x41f0_8), (.int .u64 x41f1_8)]) ∧
 Cv_8 q_53 ∧
 CallsH Tryz.prog 173 #[(.int .i64 x54_8)] q_53 fun en_17 q_54 =>
 ∃ x55f0_8 : Int, ∃ x55f1_8 : Int, en_17 = .returned (.agg #[(.int .u64 x55f0_8), (.int .u64 x55f1_8)]) ∧
 Cv_8 q_54 ∧
 List.length [(Value.int .u64 x41f0_8), (.int .u64 x41f1_8)] = 2 ∧ (∀ c ∈ [(Value.int .u64 x41f0_8), (.int .u64 x41f1_8)], c.oneCell' = true) ∧ wrAt q_54 b_65 0 2 ∧ ∀ q_55, q_55 = setsH q_54 b_65 0 [(.int .u64 x41f0_8), (.int .u64 x41f1_8)] →
 Cv_8 q_55 ∧
 List.length [(Value.int .u64 x55f0_8), (.int .u64 x55f1_8)] = 2 ∧ (∀ c ∈ [(Value.int .u64 x55f0_8), (.int .u64 x55f1_8)], c.oneCell' = true) ∧ wrAt q_55 b_66 0 2 ∧ ∀ q_56, q_56 = setsH q_55 b_66 0 [(.int .u64 x55f0_8), (.int .u64 x55f1_8)] →
 Cv_8 q_56 ∧
 Jv_ [(.pointer (some ⟨b_65, 0, none⟩)), (.pointer (some ⟨b_66, 0, none⟩))] q_56) ∧
 (∃ Cv_9 : Hp → Prop, Cv_9 q_2 ∧
 ∃ b_67 o_47, l_ = some ⟨b_67, o_47, none⟩ ∧
 ∃ (x37p_9 : Option Addr) (x37n_9 x37c_9 : Nat), (∀ h', Cv_9 h' → cellsAt h' b_67 (o_47 + 8) [(.slice x37p_9 x37n_9 x37c_9)]) ∧
 ∃ b_68 o_48, x37p_9 = some ⟨b_68, o_48, none⟩ ∧ 0 ≤ x18_ ∧ x18_ < (x37n_9 : Int) ∧
 ∃ x40_9 : Int, (∀ h', Cv_9 h' → cellsAt h' b_68 (o_48 + Int.toNat x18_ * 1) [(.int .i64 x40_9)]) ∧
 ∃ b_69 o_49, l_ = some ⟨b_69, o_49, none⟩ ∧
 ∃ (x45p_9 : Option Addr) (x45n_9 x45c_9 : Nat), (∀ h', Cv_9 h' → cellsAt h' b_69 (o_49 + 8) [(.slice x45p_9 x45n_9 x45c_9)]) ∧
 ∃ b_70 o_50, x45p_9 = some ⟨b_70, o_50, none⟩ ∧ 0 ≤ x18_ ∧ x18_ < (x45n_9 : Int) ∧
 ∃ x48_9 : Int, (∀ h', Cv_9 h' → cellsAt h' b_70 (o_50 + Int.toNat x18_ * 1) [(.int .i64 x48_9)]) ∧
 ∃ b_71 o_51, shapep_ = some ⟨b_71, o_51, none⟩ ∧ 0 ≤ x18_ ∧ x18_ < (shapen_ : Int) ∧
 ∃ x53_9 : Int, (∀ h', Cv_9 h' → cellsAt h' b_71 ((o_51 + Int.toNat x18_ * 5) + 4) [(.int .i64 x53_9)]) ∧
 ∃ x54_9, IntKind.i64.wrap (x48_9 - x53_9) = x54_9 ∧
 ∀ b_72 q_57, b_72 = q_2.size → q_57 = q_2.push (.cells (zeros Tryz.prog 40) 40) → (∃ i z, Tryz.prog.info? 40 = some i ∧ i.zero = some z) ∧
 Cv_9 q_57 ∧
 CallsH Tryz.prog 173 #[(.int .i64 x40_9)] q_57 fun en_18 q_58 =>
 ∃ x41f0_9 : Int, ∃ x41f1_9 : Int, en_18 = .returned (.agg #[(.int .u64 x41f0_9), (.int .u64 x41f1_9)]) ∧
 Cv_9 q_58 ∧
 CallsH Tryz.prog 173 #[(.int .i64 x54_9)] q_58 fun en_19 q_59 =>
 ∃ x55f0_9 : Int, ∃ x55f1_9 : Int, en_19 = .returned (.agg #[(.int .u64 x55f0_9), (.int .u64 x55f1_9)]) ∧
 Cv_9 q_59 ∧
 ∀ b_73 q_60, b_73 = q_59.size → q_60 = q_59.push (.cells (zeros Tryz.prog 40) 40) → (∃ i z, Tryz.prog.info? 40 = some i ∧ i.zero = some z) ∧
 Cv_9 q_60 ∧
 List.length [(Value.int .u64 x41f0_9), (.int .u64 x41f1_9)] = 2 ∧ (∀ c ∈ [(Value.int .u64 x41f0_9), (.int .u64 x41f1_9)], c.oneCell' = true) ∧ wrAt q_60 b_73 0 2 ∧ ∀ q_61, q_61 = setsH q_60 b_73 0 [(.int .u64 x41f0_9), (.int .u64 x41f1_9)] →
 Cv_9 q_61 ∧
 List.length [(Value.int .u64 x55f0_9), (.int .u64 x55f1_9)] = 2 ∧ (∀ c ∈ [(Value.int .u64 x55f0_9), (.int .u64 x55f1_9)], c.oneCell' = true) ∧ wrAt q_61 b_72 0 2 ∧ ∀ q_62, q_62 = setsH q_61 b_72 0 [(.int .u64 x55f0_9), (.int .u64 x55f1_9)] →
 Cv_9 q_62 ∧
 Jv_ [(.pointer (some ⟨b_73, 0, none⟩)), (.pointer (some ⟨b_72, 0, none⟩))] q_62) ∧
 (∃ Cv_10 : Hp → Prop, Cv_10 q_2 ∧
 ∃ b_74 o_52, l_ = some ⟨b_74, o_52, none⟩ ∧
 ∃ (x37p_10 : Option Addr) (x37n_10 x37c_10 : Nat), (∀ h', Cv_10 h' → cellsAt h' b_74 (o_52 + 8) [(.slice x37p_10 x37n_10 x37c_10)]) ∧
 ∃ b_75 o_53, x37p_10 = some ⟨b_75, o_53, none⟩ ∧ 0 ≤ x18_ ∧ x18_ < (x37n_10 : Int) ∧
 ∃ x40_10 : Int, (∀ h', Cv_10 h' → cellsAt h' b_75 (o_53 + Int.toNat x18_ * 1) [(.int .i64 x40_10)]) ∧
 ∃ b_76 o_54, l_ = some ⟨b_76, o_54, none⟩ ∧
 ∃ (x45p_10 : Option Addr) (x45n_10 x45c_10 : Nat), (∀ h', Cv_10 h' → cellsAt h' b_76 (o_54 + 8) [(.slice x45p_10 x45n_10 x45c_10)]) ∧
 ∃ b_77 o_55, x45p_10 = some ⟨b_77, o_55, none⟩ ∧ 0 ≤ x18_ ∧ x18_ < (x45n_10 : Int) ∧
 ∃ x48_10 : Int, (∀ h', Cv_10 h' → cellsAt h' b_77 (o_55 + Int.toNat x18_ * 1) [(.int .i64 x48_10)]) ∧
 ∃ b_78 o_56, shapep_ = some ⟨b_78, o_56, none⟩ ∧ 0 ≤ x18_ ∧ x18_ < (shapen_ : Int) ∧
 ∃ x53_10 : Int, (∀ h', Cv_10 h' → cellsAt h' b_78 ((o_56 + Int.toNat x18_ * 5) + 4) [(.int .i64 x53_10)]) ∧
 ∃ x54_10, IntKind.i64.wrap (x48_10 - x53_10) = x54_10 ∧
 ∀ b_79 q_63, b_79 = q_2.size → q_63 = q_2.push (.cells (zeros Tryz.prog 40) 40) → (∃ i z, Tryz.prog.info? 40 = some i ∧ i.zero = some z) ∧
 Cv_10 q_63 ∧
 CallsH Tryz.prog 173 #[(.int .i64 x40_10)] q_63 fun en_20 q_64 =>
 ∃ x41f0_10 : Int, ∃ x41f1_10 : Int, en_20 = .returned (.agg #[(.int .u64 x41f0_10), (.int .u64 x41f1_10)]) ∧
 Cv_10 q_64 ∧
 ∀ b_80 q_65, b_80 = q_64.size → q_65 = q_64.push (.cells (zeros Tryz.prog 40) 40) → (∃ i z, Tryz.prog.info? 40 = some i ∧ i.zero = some z) ∧
 Cv_10 q_65 ∧
 CallsH Tryz.prog 173 #[(.int .i64 x54_10)] q_65 fun en_21 q_66 =>
 ∃ x55f0_10 : Int, ∃ x55f1_10 : Int, en_21 = .returned (.agg #[(.int .u64 x55f0_10), (.int .u64 x55f1_10)]) ∧
 Cv_10 q_66 ∧
 List.length [(Value.int .u64 x41f0_10), (.int .u64 x41f1_10)] = 2 ∧ (∀ c ∈ [(Value.int .u64 x41f0_10), (.int .u64 x41f1_10)], c.oneCell' = true) ∧ wrAt q_66 b_80 0 2 ∧ ∀ q_67, q_67 = setsH q_66 b_80 0 [(.int .u64 x41f0_10), (.int .u64 x41f1_10)] →
 Cv_10 q_67 ∧
 List.length [(Value.int .u64 x55f0_10), (.int .u64 x55f1_10)] = 2 ∧ (∀ c ∈ [(Value.int .u64 x55f0_10), (.int .u64 x55f1_10)], c.oneCell' = true) ∧ wrAt q_67 b_79 0 2 ∧ ∀ q_68, q_68 = setsH q_67 b_79 0 [(.int .u64 x55f0_10), (.int .u64 x55f1_10)] →
 Cv_10 q_68 ∧
 Jv_ [(.pointer (some ⟨b_80, 0, none⟩)), (.pointer (some ⟨b_79, 0, none⟩))] q_68) ∧
 (∃ Cv_11 : Hp → Prop, Cv_11 q_2 ∧
 ∃ b_81 o_57, l_ = some ⟨b_81, o_57, none⟩ ∧
 ∃ (x37p_11 : Option Addr) (x37n_11 x37c_11 : Nat), (∀ h', Cv_11 h' → cellsAt h' b_81 (o_57 + 8) [(.slice x37p_11 x37n_11 x37c_11)]) ∧
 ∃ b_82 o_58, x37p_11 = some ⟨b_82, o_58, none⟩ ∧ 0 ≤ x18_ ∧ x18_ < (x37n_11 : Int) ∧
 ∃ x40_11 : Int, (∀ h', Cv_11 h' → cellsAt h' b_82 (o_58 + Int.toNat x18_ * 1) [(.int .i64 x40_11)]) ∧
 ∃ b_83 o_59, l_ = some ⟨b_83, o_59, none⟩ ∧
 ∃ (x45p_11 : Option Addr) (x45n_11 x45c_11 : Nat), (∀ h', Cv_11 h' → cellsAt h' b_83 (o_59 + 8) [(.slice x45p_11 x45n_11 x45c_11)]) ∧
 ∃ b_84 o_60, x45p_11 = some ⟨b_84, o_60, none⟩ ∧ 0 ≤ x18_ ∧ x18_ < (x45n_11 : Int) ∧
 ∃ x48_11 : Int, (∀ h', Cv_11 h' → cellsAt h' b_84 (o_60 + Int.toNat x18_ * 1) [(.int .i64 x48_11)]) ∧
 ∃ b_85 o_61, shapep_ = some ⟨b_85, o_61, none⟩ ∧ 0 ≤ x18_ ∧ x18_ < (shapen_ : Int) ∧
 ∃ x53_11 : Int, (∀ h', Cv_11 h' → cellsAt h' b_85 ((o_61 + Int.toNat x18_ * 5) + 4) [(.int .i64 x53_11)]) ∧
 ∃ x54_11, IntKind.i64.wrap (x48_11 - x53_11) = x54_11 ∧
 ∀ b_86 q_69, b_86 = q_2.size → q_69 = q_2.push (.cells (zeros Tryz.prog 40) 40) → (∃ i z, Tryz.prog.info? 40 = some i ∧ i.zero = some z) ∧
 Cv_11 q_69 ∧
 ∀ b_87 q_70, b_87 = q_69.size → q_70 = q_69.push (.cells (zeros Tryz.prog 40) 40) → (∃ i z, Tryz.prog.info? 40 = some i ∧ i.zero = some z) ∧
 Cv_11 q_70 ∧
 CallsH Tryz.prog 173 #[(.int .i64 x40_11)] q_70 fun en_22 q_71 =>
 ∃ x41f0_11 : Int, ∃ x41f1_11 : Int, en_22 = .returned (.agg #[(.int .u64 x41f0_11), (.int .u64 x41f1_11)]) ∧
 Cv_11 q_71 ∧
 CallsH Tryz.prog 173 #[(.int .i64 x54_11)] q_71 fun en_23 q_72 =>
 ∃ x55f0_11 : Int, ∃ x55f1_11 : Int, en_23 = .returned (.agg #[(.int .u64 x55f0_11), (.int .u64 x55f1_11)]) ∧
 Cv_11 q_72 ∧
 List.length [(Value.int .u64 x41f0_11), (.int .u64 x41f1_11)] = 2 ∧ (∀ c ∈ [(Value.int .u64 x41f0_11), (.int .u64 x41f1_11)], c.oneCell' = true) ∧ wrAt q_72 b_87 0 2 ∧ ∀ q_73, q_73 = setsH q_72 b_87 0 [(.int .u64 x41f0_11), (.int .u64 x41f1_11)] →
 Cv_11 q_73 ∧
 List.length [(Value.int .u64 x55f0_11), (.int .u64 x55f1_11)] = 2 ∧ (∀ c ∈ [(Value.int .u64 x55f0_11), (.int .u64 x55f1_11)], c.oneCell' = true) ∧ wrAt q_73 b_86 0 2 ∧ ∀ q_74, q_74 = setsH q_73 b_86 0 [(.int .u64 x55f0_11), (.int .u64 x55f1_11)] →
 Cv_11 q_74 ∧
 Jv_ [(.pointer (some ⟨b_87, 0, none⟩)), (.pointer (some ⟨b_86, 0, none⟩))] q_74)) ∧
 (∀ (a_ : Option Addr) (b_88 : Option Addr) q_75, Jv_ [(.pointer a_), (.pointer b_88)] q_75 →
 ∃ b_89 o_62, keyp_ = some ⟨b_89, o_62, none⟩ ∧ 0 ≤ x18_ ∧ x18_ < (keyn_ : Int) ∧
 ∃ x60f0_ : Int, ∃ x60f1_ : Int, cellsAt q_75 b_89 (o_62 + Int.toNat x18_ * 2) [(.int .u64 x60f0_), (.int .u64 x60f1_)] ∧
 ∃ b_90 o_63, a_ = some ⟨b_90, o_63, none⟩ ∧
 ∃ x62_ : Int, cellsAt q_75 b_90 (o_63 + 0) [(.int .u64 x62_)] ∧
 ∃ b_91 o_64, b_88 = some ⟨b_91, o_64, none⟩ ∧
 ∃ x64_ : Int, cellsAt q_75 b_91 (o_64 + 0) [(.int .u64 x64_)] ∧
 ∃ x65_, clrI .u64 x62_ x64_ = x65_ ∧
 ∃ b_92 o_65, a_ = some ⟨b_92, o_65, none⟩ ∧
 ∃ x67_ : Int, cellsAt q_75 b_92 (o_65 + 1) [(.int .u64 x67_)] ∧
 ∃ b_93 o_66, b_88 = some ⟨b_93, o_66, none⟩ ∧
 ∃ x69_ : Int, cellsAt q_75 b_93 (o_66 + 1) [(.int .u64 x69_)] ∧
 ∃ x70_, clrI .u64 x67_ x69_ = x70_ ∧
 CallsH Tryz.prog 172 #[(.agg #[(.int .u64 x60f0_), (.int .u64 x60f1_)]), (.agg #[(.int .u64 x65_), (.int .u64 x70_)])] q_75 fun en_24 q_76 =>
 ∃ x72f0_ : Int, ∃ x72f1_ : Int, en_24 = .returned (.agg #[(.int .u64 x72f0_), (.int .u64 x72f1_)]) ∧
 0 ≤ x18_ ∧ x18_ < ((8 : Nat) : Int) ∧
 List.length [(Value.int .u64 x72f0_), (.int .u64 x72f1_)] = 2 ∧ (∀ c ∈ [(Value.int .u64 x72f0_), (.int .u64 x72f1_)], c.oneCell' = true) ∧ wrAt q_76 b_1 (0 + Int.toNat x18_ * 2) 2 ∧ ∀ q_77, q_77 = setsH q_76 b_1 (0 + Int.toNat x18_ * 2) [(.int .u64 x72f0_), (.int .u64 x72f1_)] →
 ∃ x113_, IntKind.i64.wrap (x18_ + (1 : Int)) = x113_ ∧
 (Iv_ [(.int .i64 x113_)] q_77 ∧ m_ [(.int .i64 x113_)] q_77 < m_ [(.int .i64 x18_)] q_2))) ∧
 ((decide (x22_ = (2 : Int))) = false →
 (((decide (x22_ = (3 : Int))) = true →
 ∃ b_94 o_67, keyp_ = some ⟨b_94, o_67, none⟩ ∧ 0 ≤ x18_ ∧ x18_ < (keyn_ : Int) ∧
 ∃ x80f0_ : Int, ∃ x80f1_ : Int, cellsAt q_2 b_94 (o_67 + Int.toNat x18_ * 2) [(.int .u64 x80f0_), (.int .u64 x80f1_)] ∧
 ∃ b_95 o_68, shapep_ = some ⟨b_95, o_68, none⟩ ∧ 0 ≤ x18_ ∧ x18_ < (shapen_ : Int) ∧
 ∃ x85f0_ : Int, ∃ x85f1_ : Int, cellsAt q_2 b_95 ((o_68 + Int.toNat x18_ * 5) + 2) [(.int .u64 x85f0_), (.int .u64 x85f1_)] ∧
 CallsH Tryz.prog 172 #[(.agg #[(.int .u64 x80f0_), (.int .u64 x80f1_)]), (.agg #[(.int .u64 x85f0_), (.int .u64 x85f1_)])] q_2 fun en_25 q_78 =>
 ∃ x86f0_ : Int, ∃ x86f1_ : Int, en_25 = .returned (.agg #[(.int .u64 x86f0_), (.int .u64 x86f1_)]) ∧
 0 ≤ x18_ ∧ x18_ < ((8 : Nat) : Int) ∧
 List.length [(Value.int .u64 x86f0_), (.int .u64 x86f1_)] = 2 ∧ (∀ c ∈ [(Value.int .u64 x86f0_), (.int .u64 x86f1_)], c.oneCell' = true) ∧ wrAt q_78 b_1 (0 + Int.toNat x18_ * 2) 2 ∧ ∀ q_79, q_79 = setsH q_78 b_1 (0 + Int.toNat x18_ * 2) [(.int .u64 x86f0_), (.int .u64 x86f1_)] →
 ∃ x113_1, IntKind.i64.wrap (x18_ + (1 : Int)) = x113_1 ∧
 (Iv_ [(.int .i64 x113_1)] q_79 ∧ m_ [(.int .i64 x113_1)] q_79 < m_ [(.int .i64 x18_)] q_2)) ∧
 ((decide (x22_ = (3 : Int))) = false →
 False))))))) ∧
 ((decide (x18_ < ((x16n_ : Nat) : Int))) = false →
 ∃ x114f0_ : Int, ∃ x114f1_ : Int, ∃ x114f2_ : Int, ∃ x114f3_ : Int, ∃ x114f4_ : Int, ∃ x114f5_ : Int, ∃ x114f6_ : Int, ∃ x114f7_ : Int, ∃ x114f8_ : Int, ∃ x114f9_ : Int, ∃ x114f10_ : Int, ∃ x114f11_ : Int, ∃ x114f12_ : Int, ∃ x114f13_ : Int, ∃ x114f14_ : Int, ∃ x114f15_ : Int, cellsAt q_2 b_1 0 [(.int .u64 x114f0_), (.int .u64 x114f1_), (.int .u64 x114f2_), (.int .u64 x114f3_), (.int .u64 x114f4_), (.int .u64 x114f5_), (.int .u64 x114f6_), (.int .u64 x114f7_), (.int .u64 x114f8_), (.int .u64 x114f9_), (.int .u64 x114f10_), (.int .u64 x114f11_), (.int .u64 x114f12_), (.int .u64 x114f13_), (.int .u64 x114f14_), (.int .u64 x114f15_)] ∧
 List.length [(Value.int .u64 x114f0_), (.int .u64 x114f1_), (.int .u64 x114f2_), (.int .u64 x114f3_), (.int .u64 x114f4_), (.int .u64 x114f5_), (.int .u64 x114f6_), (.int .u64 x114f7_), (.int .u64 x114f8_), (.int .u64 x114f9_), (.int .u64 x114f10_), (.int .u64 x114f11_), (.int .u64 x114f12_), (.int .u64 x114f13_), (.int .u64 x114f14_), (.int .u64 x114f15_)] = 16 ∧ (∀ c ∈ [(Value.int .u64 x114f0_), (.int .u64 x114f1_), (.int .u64 x114f2_), (.int .u64 x114f3_), (.int .u64 x114f4_), (.int .u64 x114f5_), (.int .u64 x114f6_), (.int .u64 x114f7_), (.int .u64 x114f8_), (.int .u64 x114f9_), (.int .u64 x114f10_), (.int .u64 x114f11_), (.int .u64 x114f12_), (.int .u64 x114f13_), (.int .u64 x114f14_), (.int .u64 x114f15_)], c.oneCell' = true) ∧ wrAt q_2 b_ 0 16 ∧ ∀ q_80, q_80 = setsH q_2 b_ 0 [(.int .u64 x114f0_), (.int .u64 x114f1_), (.int .u64 x114f2_), (.int .u64 x114f3_), (.int .u64 x114f4_), (.int .u64 x114f5_), (.int .u64 x114f6_), (.int .u64 x114f7_), (.int .u64 x114f8_), (.int .u64 x114f9_), (.int .u64 x114f10_), (.int .u64 x114f11_), (.int .u64 x114f12_), (.int .u64 x114f13_), (.int .u64 x114f14_), (.int .u64 x114f15_)] →
 ∃ resf0_ : Int, ∃ resf1_ : Int, ∃ resf2_ : Int, ∃ resf3_ : Int, ∃ resf4_ : Int, ∃ resf5_ : Int, ∃ resf6_ : Int, ∃ resf7_ : Int, ∃ resf8_ : Int, ∃ resf9_ : Int, ∃ resf10_ : Int, ∃ resf11_ : Int, ∃ resf12_ : Int, ∃ resf13_ : Int, ∃ resf14_ : Int, ∃ resf15_ : Int, cellsAt q_80 b_ 0 [(.int .u64 resf0_), (.int .u64 resf1_), (.int .u64 resf2_), (.int .u64 resf3_), (.int .u64 resf4_), (.int .u64 resf5_), (.int .u64 resf6_), (.int .u64 resf7_), (.int .u64 resf8_), (.int .u64 resf9_), (.int .u64 resf10_), (.int .u64 resf11_), (.int .u64 resf12_), (.int .u64 resf13_), (.int .u64 resf14_), (.int .u64 resf15_)] ∧
 R (.returned (.tuple #[(.agg #[(.int .u64 resf0_), (.int .u64 resf1_), (.int .u64 resf2_), (.int .u64 resf3_), (.int .u64 resf4_), (.int .u64 resf5_), (.int .u64 resf6_), (.int .u64 resf7_), (.int .u64 resf8_), (.int .u64 resf9_), (.int .u64 resf10_), (.int .u64 resf11_), (.int .u64 resf12_), (.int .u64 resf13_), (.int .u64 resf14_), (.int .u64 resf15_)]), (.bool true)])) q_80)))) :
 CallsH Tryz.prog 162 #[(.pointer l_), (.slice shapep_ shapen_ shapec_), (.slice keyp_ keyn_ keyc_)] h R := calls_vc fine false Tryz.func162 (ann := A162) (args := [(.pointer l_), (.slice shapep_ shapen_ shapec_), (.slice keyp_ keyn_ keyc_)]) (by kernel_rfl) (Eq.mpr (by kernel_rfl) H)
def A163 : Ann := (.seq .nil (.seq (.drawLast [6, 8]) .nil))
theorem V163 (af0p_ : Option Addr) (af0n_ af0c_ : Nat) (af1_ : Int) (af2_ : ByteArray) (af3p_ : Option Addr) (af3n_ af3c_ : Nat) (bf0p_ : Option Addr) (bf0n_ bf0c_ : Nat) (bf1_ : Int) (bf2_ : ByteArray) (bf3p_ : Option Addr) (bf3n_ bf3c_ : Nat) (h : Hp) (R : Ending → Hp → Prop) (H :
 ∀ b_ q_, b_ = h.size → q_ = h.push (.cells #[(.slice af0p_ af0n_ af0c_), (.int .i64 af1_), (.string af2_), (.slice af3p_ af3n_ af3c_)] 53) →
 ∀ b_1 q_1, b_1 = q_.size → q_1 = q_.push (.cells #[(.slice bf0p_ bf0n_ bf0c_), (.int .i64 bf1_), (.string bf2_), (.slice bf3p_ bf3n_ bf3c_)] 53) →
 ∃ Cv_ : Hp → Prop, Cv_ q_1 ∧
 ∃ x6_ : Int, cellsAt q_1 b_1 (0 + 1) [(.int .i64 x6_)] ∧
 ∃ x8_ : Int, cellsAt q_1 b_ (0 + 1) [(.int .i64 x8_)] ∧
 CallsH Tryz.prog 176 #[(.int .i64 x6_), (.int .i64 x8_)] q_1 fun en_ q_2 =>
 ∃ x9_ : Int, en_ = .returned (.int .i64 x9_) ∧
 Cv_ q_2 ∧
 ∃ (x11p_ : Option Addr) (x11n_ x11c_ : Nat), (∀ h', Cv_ h' → cellsAt h' b_ (0 + 0) [(.slice x11p_ x11n_ x11c_)]) ∧
 ∃ (x13p_ : Option Addr) (x13n_ x13c_ : Nat), (∀ h', Cv_ h' → cellsAt h' b_1 (0 + 0) [(.slice x13p_ x13n_ x13c_)]) ∧
 CallsH Tryz.prog 177 #[(.slice x11p_ x11n_ x11c_), (.slice x13p_ x13n_ x13c_), (.func (.func 178) #[] #[])] q_2 fun en_1 q_3 =>
 ∃ x14_ : Int, en_1 = .returned (.int .i64 x14_) ∧
 Cv_ q_3 ∧
 SemH Tryz.prog (Instr.buildSlice 76 2 #[(0, (.int .i64 x9_)), (1, (.int .i64 x14_))]) q_3 fun v_ q_4 =>
 ∃ (x15p_ : Option Addr) (x15n_ x15c_ : Nat), v_ = (.slice x15p_ x15n_ x15c_) ∧
 Cv_ q_4 ∧
 CallsH Tryz.prog 175 #[(.slice x15p_ x15n_ x15c_)] q_4 fun en_2 q_5 =>
 ∃ x16_ : Int, en_2 = .returned (.int .i64 x16_) ∧
 Cv_ q_5 ∧
 R (.returned (.int .i64 x16_)) q_5) :
 CallsH Tryz.prog 163 #[(.agg #[(.slice af0p_ af0n_ af0c_), (.int .i64 af1_), (.string af2_), (.slice af3p_ af3n_ af3c_)]), (.agg #[(.slice bf0p_ bf0n_ bf0c_), (.int .i64 bf1_), (.string bf2_), (.slice bf3p_ bf3n_ bf3c_)])] h R := calls_vc fine false Tryz.func163 (ann := A163) (args := [(.agg #[(.slice af0p_ af0n_ af0c_), (.int .i64 af1_), (.string af2_), (.slice af3p_ af3n_ af3c_)]), (.agg #[(.slice bf0p_ bf0n_ bf0c_), (.int .i64 bf1_), (.string bf2_), (.slice bf3p_ bf3n_ bf3c_)])]) (by kernel_rfl) (Eq.mpr (by kernel_rfl) H)
def A164 : Ann := (.seq .nil (.seq .nil (.seq .nil (.seq .nil .nil))))
theorem V164 (ef0p_ : Option Addr) (ef0n_ ef0c_ : Nat) (ef1_ : Int) (ef2_ : ByteArray) (ef3p_ : Option Addr) (ef3n_ ef3c_ : Nat) (h : Hp) (R : Ending → Hp → Prop) (H :
 ∀ b_ q_, b_ = h.size → q_ = h.push (.cells #[(.slice ef0p_ ef0n_ ef0c_), (.int .i64 ef1_), (.string ef2_), (.slice ef3p_ ef3n_ ef3c_)] 53) →
 ∀ b_1 q_1, b_1 = q_.size → q_1 = q_.push (.cells (zeros Tryz.prog 53) 53) → (∃ i z, Tryz.prog.info? 53 = some i ∧ i.zero = some z) ∧
 ∃ (x4p_ : Option Addr) (x4n_ x4c_ : Nat), cellsAt q_1 b_ (0 + 0) [(.slice x4p_ x4n_ x4c_)] ∧
 CallsH Tryz.prog 180 #[(.slice x4p_ x4n_ x4c_)] q_1 fun en_ q_2 =>
 ∃ (x5p_ : Option Addr) (x5n_ x5c_ : Nat), en_ = .returned (.slice x5p_ x5n_ x5c_) ∧
 Value.oneCell' (.slice x5p_ x5n_ x5c_) = true ∧ wrAt q_2 b_ (0 + 0) 1 ∧ ∀ q_3, q_3 = setsH q_2 b_ (0 + 0) [(.slice x5p_ x5n_ x5c_)] →
 ∃ (x9p_ : Option Addr) (x9n_ x9c_ : Nat), cellsAt q_3 b_ ((0 + 2) + 1) [(.slice x9p_ x9n_ x9c_)] ∧
 CallsH Tryz.prog 44 #[(.slice x9p_ x9n_ x9c_)] q_3 fun en_1 q_4 =>
 ∃ (x10p_ : Option Addr) (x10n_ x10c_ : Nat), en_1 = .returned (.slice x10p_ x10n_ x10c_) ∧
 Value.oneCell' (.slice x10p_ x10n_ x10c_) = true ∧ wrAt q_4 b_ ((0 + 2) + 1) 1 ∧ ∀ q_5, q_5 = setsH q_4 b_ ((0 + 2) + 1) [(.slice x10p_ x10n_ x10c_)] →
 ∃ (x13f0p_ : Option Addr) (x13f0n_ x13f0c_ : Nat), ∃ x13f1_ : Int, ∃ x13f2_ : ByteArray, ∃ (x13f3p_ : Option Addr) (x13f3n_ x13f3c_ : Nat), cellsAt q_5 b_ 0 [(.slice x13f0p_ x13f0n_ x13f0c_), (.int .i64 x13f1_), (.string x13f2_), (.slice x13f3p_ x13f3n_ x13f3c_)] ∧
 List.length [(Value.slice x13f0p_ x13f0n_ x13f0c_), (.int .i64 x13f1_), (.string x13f2_), (.slice x13f3p_ x13f3n_ x13f3c_)] = 4 ∧ (∀ c ∈ [(Value.slice x13f0p_ x13f0n_ x13f0c_), (.int .i64 x13f1_), (.string x13f2_), (.slice x13f3p_ x13f3n_ x13f3c_)], c.oneCell' = true) ∧ wrAt q_5 b_1 0 4 ∧ ∀ q_6, q_6 = setsH q_5 b_1 0 [(.slice x13f0p_ x13f0n_ x13f0c_), (.int .i64 x13f1_), (.string x13f2_), (.slice x13f3p_ x13f3n_ x13f3c_)] →
 ∃ (resf0p_ : Option Addr) (resf0n_ resf0c_ : Nat), ∃ resf1_ : Int, ∃ resf2_ : ByteArray, ∃ (resf3p_ : Option Addr) (resf3n_ resf3c_ : Nat), cellsAt q_6 b_1 0 [(.slice resf0p_ resf0n_ resf0c_), (.int .i64 resf1_), (.string resf2_), (.slice resf3p_ resf3n_ resf3c_)] ∧
 R (.returned (.agg #[(.slice resf0p_ resf0n_ resf0c_), (.int .i64 resf1_), (.string resf2_), (.slice resf3p_ resf3n_ resf3c_)])) q_6) :
 CallsH Tryz.prog 164 #[(.agg #[(.slice ef0p_ ef0n_ ef0c_), (.int .i64 ef1_), (.string ef2_), (.slice ef3p_ ef3n_ ef3c_)])] h R := calls_vc fine false Tryz.func164 (ann := A164) (args := [(.agg #[(.slice ef0p_ ef0n_ ef0c_), (.int .i64 ef1_), (.string ef2_), (.slice ef3p_ ef3n_ ef3c_)])]) (by kernel_rfl) (Eq.mpr (by kernel_rfl) H)
def A165 : Ann := (.seq .nil (.seq .nil (.seq (.seq .nil (.block (.loop [(5, .slice), (14, (.int .i64))] (.seq .nil (.seq (.cond .nil .nil) (.seq (.block (.seq .nil (.seq .nil (.seq (.seq .nil (.block (.seq .nil (.cond .dead (.seq .nil (.cond .nil (.seq .nil (.cond .nil .nil)))))))) .nil)))) .nil)))))) (.seq .nil .nil))))
theorem V165 (l_ : Option Addr) (ef0p_ : Option Addr) (ef0n_ ef0c_ : Nat) (ef1_ : Int) (ef2_ : ByteArray) (ef3p_ : Option Addr) (ef3n_ ef3c_ : Nat) (h : Hp) (R : Ending → Hp → Prop) (H :
 ∀ b_ q_, b_ = h.size → q_ = h.push (.cells #[(.slice ef0p_ ef0n_ ef0c_), (.int .i64 ef1_), (.string ef2_), (.slice ef3p_ ef3n_ ef3c_)] 53) →
 ∃ b_1 o_, l_ = some ⟨b_1, o_, none⟩ ∧
 ∃ (x12p_ : Option Addr) (x12n_ x12c_ : Nat), cellsAt q_ b_1 (o_ + 7) [(.slice x12p_ x12n_ x12c_)] ∧
 ∃ (Iv_ : List Value → Hp → Prop) (m_ : List Value → Hp → Nat), Iv_ [(.slice none 0 0), (.int .i64 (0 : Int))] q_ ∧
 (∀ (outp_ : Option Addr) (outn_ outc_ : Nat) (x14_ : Int) q_1, Iv_ [(.slice outp_ outn_ outc_), (.int .i64 x14_)] q_1 →
 (((decide (x14_ < ((x12n_ : Nat) : Int))) = true →
 ∃ b_2 o_1, x12p_ = some ⟨b_2, o_1, none⟩ ∧ 0 ≤ x14_ ∧ x14_ < (x12n_ : Int) ∧
 ∃ x18_ : Int, cellsAt q_1 b_2 (o_1 + Int.toNat x14_ * 1) [(.int .i64 x18_)] ∧
 ∃ (x20p_ : Option Addr) (x20n_ x20c_ : Nat), cellsAt q_1 b_ (0 + 0) [(.slice x20p_ x20n_ x20c_)] ∧
 ∃ b_3 o_2, x20p_ = some ⟨b_3, o_2, none⟩ ∧ 0 ≤ x14_ ∧ x14_ < (x20n_ : Int) ∧
 ∃ x23f0_ : Int, ∃ x23f1_ : Int, ∃ x23f2_ : Int, ∃ x23f3_ : Int, ∃ x23f4_ : Int, cellsAt q_1 b_3 (o_2 + Int.toNat x14_ * 5) [(.int .u64 x23f0_), (.int .u64 x23f1_), (.int .u64 x23f2_), (.int .u64 x23f3_), (.int .i64 x23f4_)] ∧
 ∀ b_4 q_2, b_4 = q_1.size → q_2 = q_1.push (.cells (zeros Tryz.prog 50) 50) → (∃ i z, Tryz.prog.info? 50 = some i ∧ i.zero = some z) ∧
 List.length [(Value.int .u64 x23f0_), (.int .u64 x23f1_), (.int .u64 x23f2_), (.int .u64 x23f3_), (.int .i64 x23f4_)] = 5 ∧ (∀ c ∈ [(Value.int .u64 x23f0_), (.int .u64 x23f1_), (.int .u64 x23f2_), (.int .u64 x23f3_), (.int .i64 x23f4_)], c.oneCell' = true) ∧ wrAt q_2 b_4 0 5 ∧ ∀ q_3, q_3 = setsH q_2 b_4 0 [(.int .u64 x23f0_), (.int .u64 x23f1_), (.int .u64 x23f2_), (.int .u64 x23f3_), (.int .i64 x23f4_)] →
 (((decide (x18_ = (1 : Int))) = true →
 False) ∧
 ((decide (x18_ = (1 : Int))) = false →
 (((decide (x18_ = (2 : Int))) = true →
 List.length [(Value.int .u64 (0 : Int)), (.int .u64 (0 : Int))] = 2 ∧ (∀ c ∈ [(Value.int .u64 (0 : Int)), (.int .u64 (0 : Int))], c.oneCell' = true) ∧ wrAt q_3 b_4 (0 + 0) 2 ∧ ∀ q_4, q_4 = setsH q_3 b_4 (0 + 0) [(.int .u64 (0 : Int)), (.int .u64 (0 : Int))] →
 ∃ x37f0_ : Int, ∃ x37f1_ : Int, ∃ x37f2_ : Int, ∃ x37f3_ : Int, ∃ x37f4_ : Int, cellsAt q_4 b_4 0 [(.int .u64 x37f0_), (.int .u64 x37f1_), (.int .u64 x37f2_), (.int .u64 x37f3_), (.int .i64 x37f4_)] ∧
 SemH Tryz.prog (Instr.buildSlice 51 1 #[(0, (.agg #[(.int .u64 x37f0_), (.int .u64 x37f1_), (.int .u64 x37f2_), (.int .u64 x37f3_), (.int .i64 x37f4_)]))]) q_4 fun v_ q_5 =>
 ∃ (x38p_ : Option Addr) (x38n_ x38c_ : Nat), v_ = (.slice x38p_ x38n_ x38c_) ∧
 SemH Tryz.prog (Builtin.append_ #[51, 51] 51 #[(.slice outp_ outn_ outc_), (.slice x38p_ x38n_ x38c_)]) q_5 fun v_1 q_6 =>
 ∃ (x39p_ : Option Addr) (x39n_ x39c_ : Nat), v_1 = (.slice x39p_ x39n_ x39c_) ∧
 ∃ x40_, IntKind.i64.wrap (x14_ + (1 : Int)) = x40_ ∧
 (Iv_ [(.slice x39p_ x39n_ x39c_), (.int .i64 x40_)] q_6 ∧ m_ [(.slice x39p_ x39n_ x39c_), (.int .i64 x40_)] q_6 < m_ [(.slice outp_ outn_ outc_), (.int .i64 x14_)] q_1)) ∧
 ((decide (x18_ = (2 : Int))) = false →
 (((decide (x18_ = (3 : Int))) = true →
 List.length [(Value.int .u64 (0 : Int)), (.int .u64 (0 : Int))] = 2 ∧ (∀ c ∈ [(Value.int .u64 (0 : Int)), (.int .u64 (0 : Int))], c.oneCell' = true) ∧ wrAt q_3 b_4 (0 + 0) 2 ∧ ∀ q_7, q_7 = setsH q_3 b_4 (0 + 0) [(.int .u64 (0 : Int)), (.int .u64 (0 : Int))] →
 ∃ x37f0_1 : Int, ∃ x37f1_1 : Int, ∃ x37f2_1 : Int, ∃ x37f3_1 : Int, ∃ x37f4_1 : Int, cellsAt q_7 b_4 0 [(.int .u64 x37f0_1), (.int .u64 x37f1_1), (.int .u64 x37f2_1), (.int .u64 x37f3_1), (.int .i64 x37f4_1)] ∧
 SemH Tryz.prog (Instr.buildSlice 51 1 #[(0, (.agg #[(.int .u64 x37f0_1), (.int .u64 x37f1_1), (.int .u64 x37f2_1), (.int .u64 x37f3_1), (.int .i64 x37f4_1)]))]) q_7 fun v_2 q_8 =>
 ∃ (x38p_1 : Option Addr) (x38n_1 x38c_1 : Nat), v_2 = (.slice x38p_1 x38n_1 x38c_1) ∧
 SemH Tryz.prog (Builtin.append_ #[51, 51] 51 #[(.slice outp_ outn_ outc_), (.slice x38p_1 x38n_1 x38c_1)]) q_8 fun v_3 q_9 =>
 ∃ (x39p_1 : Option Addr) (x39n_1 x39c_1 : Nat), v_3 = (.slice x39p_1 x39n_1 x39c_1) ∧
 ∃ x40_1, IntKind.i64.wrap (x14_ + (1 : Int)) = x40_1 ∧
 (Iv_ [(.slice x39p_1 x39n_1 x39c_1), (.int .i64 x40_1)] q_9 ∧ m_ [(.slice x39p_1 x39n_1 x39c_1), (.int .i64 x40_1)] q_9 < m_ [(.slice outp_ outn_ outc_), (.int .i64 x14_)] q_1)) ∧
 ((decide (x18_ = (3 : Int))) = false →
 ∃ x37f0_2 : Int, ∃ x37f1_2 : Int, ∃ x37f2_2 : Int, ∃ x37f3_2 : Int, ∃ x37f4_2 : Int, cellsAt q_3 b_4 0 [(.int .u64 x37f0_2), (.int .u64 x37f1_2), (.int .u64 x37f2_2), (.int .u64 x37f3_2), (.int .i64 x37f4_2)] ∧
 SemH Tryz.prog (Instr.buildSlice 51 1 #[(0, (.agg #[(.int .u64 x37f0_2), (.int .u64 x37f1_2), (.int .u64 x37f2_2), (.int .u64 x37f3_2), (.int .i64 x37f4_2)]))]) q_3 fun v_4 q_10 =>
 ∃ (x38p_2 : Option Addr) (x38n_2 x38c_2 : Nat), v_4 = (.slice x38p_2 x38n_2 x38c_2) ∧
 SemH Tryz.prog (Builtin.append_ #[51, 51] 51 #[(.slice outp_ outn_ outc_), (.slice x38p_2 x38n_2 x38c_2)]) q_10 fun v_5 q_11 =>
 ∃ (x39p_2 : Option Addr) (x39n_2 x39c_2 : Nat), v_5 = (.slice x39p_2 x39n_2 x39c_2) ∧
 ∃ x40_2, IntKind.i64.wrap (x14_ + (1 : Int)) = x40_2 ∧
 (Iv_ [(.slice x39p_2 x39n_2 x39c_2), (.int .i64 x40_2)] q_11 ∧ m_ [(.slice x39p_2 x39n_2 x39c_2), (.int .i64 x40_2)] q_11 < m_ [(.slice outp_ outn_ outc_), (.int .i64 x14_)] q_1)))))))) ∧
 ((decide (x14_ < ((x12n_ : Nat) : Int))) = false →
 R (.returned (.slice outp_ outn_ outc_)) q_1)))) :
 CallsH Tryz.prog 165 #[(.pointer l_), (.agg #[(.slice ef0p_ ef0n_ ef0c_), (.int .i64 ef1_), (.string ef2_), (.slice ef3p_ ef3n_ ef3c_)])] h R := calls_vc fine false Tryz.func165 (ann := A165) (args := [(.pointer l_), (.agg #[(.slice ef0p_ ef0n_ ef0c_), (.int .i64 ef1_), (.string ef2_), (.slice ef3p_ ef3n_ ef3c_)])]) (by kernel_rfl) (Eq.mpr (by kernel_rfl) H)
def A166 : Ann := (.seq .nil (.seq .nil (.seq .nil (.seq (.seq .nil (.cond (.seq .dead .dead) .nil)) (.seq .nil (.seq (.seq .nil (.cond (.seq .nil .nil) .nil)) (.seq (.seq .dead .dead) .dead)))))))
theorem V166 (sp_ : Option Addr) (sn_ sc_ : Nat) (i_ : Int) (vp_ : Option Addr) (vn_ vc_ : Nat) (h : Hp) (R : Ending → Hp → Prop) (H :
 ∃ l_ : Nat, i_ = (l_ : Int) ∧
 l_ ≤ sn_ ∧ sn_ ≤ sc_ ∧ ∃ x12p_, cutP sp_ sc_ l_ 4 = x12p_ ∧
 (((decide (((vn_ : Nat) : Int) = (0 : Int))) = true →
 False) ∧
 ((decide (((vn_ : Nat) : Int) = (0 : Int))) = false →
 (((decide (i_ = ((sn_ : Nat) : Int))) = true →
 SemH Tryz.prog (Builtin.append_ #[176, 176] 176 #[(.slice sp_ sn_ sc_), (.slice vp_ vn_ vc_)]) h fun v_ q_ =>
 ∃ (x25p_ : Option Addr) (x25n_ x25c_ : Nat), v_ = (.slice x25p_ x25n_ x25c_) ∧
 R (.returned (.slice x25p_ x25n_ x25c_)) q_) ∧
 ((decide (i_ = ((sn_ : Nat) : Int))) = false →
 False))))) :
 CallsH Tryz.prog 166 #[(.slice sp_ sn_ sc_), (.int .i64 i_), (.slice vp_ vn_ vc_)] h R := calls_vc fine false Tryz.func166 (ann := A166) (args := [(.slice sp_ sn_ sc_), (.int .i64 i_), (.slice vp_ vn_ vc_)]) (by kernel_rfl) (Eq.mpr (by kernel_rfl) H)
def A167 : Ann := .nil
theorem V167 (l_ : Option Addr) (h : Hp) (R : Ending → Hp → Prop) (H :
 ∃ b_ o_, l_ = some ⟨b_, o_, none⟩ ∧
 ∃ (x5p_ : Option Addr) (x5n_ x5c_ : Nat), cellsAt h b_ (o_ + 11) [(.slice x5p_ x5n_ x5c_)] ∧
 CallsH Tryz.prog 183 #[(.slice x5p_ x5n_ x5c_), (.func (.func 184) #[] #[])] h fun en_ q_ =>
 en_ = .returned (.tuple #[]) ∧
 R (.returned (.tuple #[])) q_) :
 CallsH Tryz.prog 167 #[(.pointer l_)] h R := calls_vc fine false Tryz.func167 (ann := A167) (args := [(.pointer l_)]) (by kernel_rfl) (Eq.mpr (by kernel_rfl) H)
def A169 : Ann := (.seq .nil (.seq (.seq .nil (.cond (.seq .nil .nil) .nil)) (.seq (.seq .nil (.block (.loop [(13, (.int .i64))] (.seq .nil (.seq (.cond .nil .nil) (.seq (.block (.seq .nil (.seq .nil (.cond (.seq .nil .nil) .nil)))) .nil)))))) (.seq .nil .nil))))
theorem V169 (s1p_ : Option Addr) (s1n_ s1c_ : Nat) (s2p_ : Option Addr) (s2n_ s2c_ : Nat) (h : Hp) (R : Ending → Hp → Prop) (H :
 (((decide (((s1n_ : Nat) : Int) ≠ ((s2n_ : Nat) : Int))) = true →
 R (.returned (.bool false)) h) ∧
 ((decide (((s1n_ : Nat) : Int) ≠ ((s2n_ : Nat) : Int))) = false →
 ∃ (Iv_ : List Value → Hp → Prop) (m_ : List Value → Hp → Nat), Iv_ [(.int .i64 (0 : Int))] h ∧
 (∀ (x13_ : Int) q_, Iv_ [(.int .i64 x13_)] q_ →
 (((decide (x13_ < ((s1n_ : Nat) : Int))) = true →
 ∃ b_ o_, s1p_ = some ⟨b_, o_, none⟩ ∧ 0 ≤ x13_ ∧ x13_ < (s1n_ : Int) ∧
 ∃ x19f0_ : Int, ∃ x19f1_ : Int, ∃ x19f2_ : Int, ∃ x19f3_ : Int, ∃ x19f4_ : Int, cellsAt q_ b_ (o_ + Int.toNat x13_ * 5) [(.int .u64 x19f0_), (.int .u64 x19f1_), (.int .u64 x19f2_), (.int .u64 x19f3_), (.int .i64 x19f4_)] ∧
 ∃ b_1 o_1, s2p_ = some ⟨b_1, o_1, none⟩ ∧ 0 ≤ x13_ ∧ x13_ < (s2n_ : Int) ∧
 ∃ x23f0_ : Int, ∃ x23f1_ : Int, ∃ x23f2_ : Int, ∃ x23f3_ : Int, ∃ x23f4_ : Int, cellsAt q_ b_1 (o_1 + Int.toNat x13_ * 5) [(.int .u64 x23f0_), (.int .u64 x23f1_), (.int .u64 x23f2_), (.int .u64 x23f3_), (.int .i64 x23f4_)] ∧
 ∃ x24_, EqV Tryz.prog 50 (.agg #[(.int .u64 x19f0_), (.int .u64 x19f1_), (.int .u64 x19f2_), (.int .u64 x19f3_), (.int .i64 x19f4_)]) (.agg #[(.int .u64 x23f0_), (.int .u64 x23f1_), (.int .u64 x23f2_), (.int .u64 x23f3_), (.int .i64 x23f4_)]) x24_ ∧
 (((!x24_) = true →
 R (.returned (.bool false)) q_) ∧
 ((!x24_) = false →
 ∃ x25_, IntKind.i64.wrap (x13_ + (1 : Int)) = x25_ ∧
 (Iv_ [(.int .i64 x25_)] q_ ∧ m_ [(.int .i64 x25_)] q_ < m_ [(.int .i64 x13_)] q_)))) ∧
 ((decide (x13_ < ((s1n_ : Nat) : Int))) = false →
 R (.returned (.bool true)) q_)))))) :
 CallsH Tryz.prog 169 #[(.slice s1p_ s1n_ s1c_), (.slice s2p_ s2n_ s2c_)] h R := calls_vc fine false Tryz.func169 (ann := A169) (args := [(.slice s1p_ s1n_ s1c_), (.slice s2p_ s2n_ s2c_)]) (by kernel_rfl) (Eq.mpr (by kernel_rfl) H)
def A170 : Ann := (.seq .nil (.seq .nil (.seq .nil (.seq (.block (.loop [(9, (.int .i64)), (10, (.int .i64))] (.seq (.seq .nil (.cond .nil .nil)) (.block (.seq .nil (.seq .nil (.cond .nil .nil))))))) (.seq .nil .nil)))))
theorem V170 (xp_ : Option Addr) (xn_ xc_ : Nat) (targetf0p_ : Option Addr) (targetf0n_ targetf0c_ : Nat) (targetf1_ : Int) (targetf2_ : ByteArray) (targetf3p_ : Option Addr) (targetf3n_ targetf3c_ : Nat) (cmp_ : Value) (h : Hp) (R : Ending → Hp → Prop) (H :
 ∀ b_ q_, b_ = h.size → q_ = h.push (.cells #[(.slice targetf0p_ targetf0n_ targetf0c_), (.int .i64 targetf1_), (.string targetf2_), (.slice targetf3p_ targetf3n_ targetf3c_)] 53) →
 ∃ (Iv_ : List Value → Hp → Prop) (m_ : List Value → Hp → Nat), Iv_ [(.int .i64 (0 : Int)), (.int .i64 ((xn_ : Nat) : Int))] q_ ∧
 (∀ (i_ : Int) (j_ : Int) q_1, Iv_ [(.int .i64 i_), (.int .i64 j_)] q_1 →
 (((decide (i_ < j_)) = true →
 ∃ x20_, IntKind.i64.wrap (i_ + j_) = x20_ ∧
 ∃ x21_, IntKind.u64.wrap x20_ = x21_ ∧
 0 ≤ (1 : Int) ∧ ∃ x22_, shrI .u64 x21_ (1 : Int) = x22_ ∧
 ∃ x23_, IntKind.i64.wrap x22_ = x23_ ∧
 ∃ b_1 o_, xp_ = some ⟨b_1, o_, none⟩ ∧ 0 ≤ x23_ ∧ x23_ < (xn_ : Int) ∧
 ∃ (x28f0p_ : Option Addr) (x28f0n_ x28f0c_ : Nat), ∃ x28f1_ : Int, ∃ x28f2_ : ByteArray, ∃ (x28f3p_ : Option Addr) (x28f3n_ x28f3c_ : Nat), cellsAt q_1 b_1 (o_ + Int.toNat x23_ * 4) [(.slice x28f0p_ x28f0n_ x28f0c_), (.int .i64 x28f1_), (.string x28f2_), (.slice x28f3p_ x28f3n_ x28f3c_)] ∧
 ∃ (x29f0p_ : Option Addr) (x29f0n_ x29f0c_ : Nat), ∃ x29f1_ : Int, ∃ x29f2_ : ByteArray, ∃ (x29f3p_ : Option Addr) (x29f3n_ x29f3c_ : Nat), cellsAt q_1 b_ 0 [(.slice x29f0p_ x29f0n_ x29f0c_), (.int .i64 x29f1_), (.string x29f2_), (.slice x29f3p_ x29f3n_ x29f3c_)] ∧
 ∃ fn_ fst_ cap_, cmp_ = Value.func (.func fn_) fst_ cap_ ∧ bodied Tryz.prog fn_ = true ∧
 CallsH Tryz.prog fn_ (fst_.toList ++ [(Value.agg #[(.slice x28f0p_ x28f0n_ x28f0c_), (.int .i64 x28f1_), (.string x28f2_), (.slice x28f3p_ x28f3n_ x28f3c_)]), (.agg #[(.slice x29f0p_ x29f0n_ x29f0c_), (.int .i64 x29f1_), (.string x29f2_), (.slice x29f3p_ x29f3n_ x29f3c_)])] ++ cap_.toList).toArray q_1 fun en_ q_2 =>
 ∃ x30_ : Int, en_ = .returned (.int .i64 x30_) ∧
 (((decide (x30_ < (0 : Int))) = true →
 ∃ x33_, IntKind.i64.wrap (x23_ + (1 : Int)) = x33_ ∧
 (Iv_ [(.int .i64 x33_), (.int .i64 j_)] q_2 ∧ m_ [(.int .i64 x33_), (.int .i64 j_)] q_2 < m_ [(.int .i64 i_), (.int .i64 j_)] q_1)) ∧
 ((decide (x30_ < (0 : Int))) = false →
 (Iv_ [(.int .i64 i_), (.int .i64 x23_)] q_2 ∧ m_ [(.int .i64 i_), (.int .i64 x23_)] q_2 < m_ [(.int .i64 i_), (.int .i64 j_)] q_1)))) ∧
 ((decide (i_ < j_)) = false →
 (((decide (i_ < ((xn_ : Nat) : Int))) = true →
 ∃ b_2 o_1, xp_ = some ⟨b_2, o_1, none⟩ ∧ 0 ≤ i_ ∧ i_ < (xn_ : Int) ∧
 ∃ (x44f0p_ : Option Addr) (x44f0n_ x44f0c_ : Nat), ∃ x44f1_ : Int, ∃ x44f2_ : ByteArray, ∃ (x44f3p_ : Option Addr) (x44f3n_ x44f3c_ : Nat), cellsAt q_1 b_2 (o_1 + Int.toNat i_ * 4) [(.slice x44f0p_ x44f0n_ x44f0c_), (.int .i64 x44f1_), (.string x44f2_), (.slice x44f3p_ x44f3n_ x44f3c_)] ∧
 ∃ (x45f0p_ : Option Addr) (x45f0n_ x45f0c_ : Nat), ∃ x45f1_ : Int, ∃ x45f2_ : ByteArray, ∃ (x45f3p_ : Option Addr) (x45f3n_ x45f3c_ : Nat), cellsAt q_1 b_ 0 [(.slice x45f0p_ x45f0n_ x45f0c_), (.int .i64 x45f1_), (.string x45f2_), (.slice x45f3p_ x45f3n_ x45f3c_)] ∧
 ∃ fn_1 fst_1 cap_1, cmp_ = Value.func (.func fn_1) fst_1 cap_1 ∧ bodied Tryz.prog fn_1 = true ∧
 CallsH Tryz.prog fn_1 (fst_1.toList ++ [(Value.agg #[(.slice x44f0p_ x44f0n_ x44f0c_), (.int .i64 x44f1_), (.string x44f2_), (.slice x44f3p_ x44f3n_ x44f3c_)]), (.agg #[(.slice x45f0p_ x45f0n_ x45f0c_), (.int .i64 x45f1_), (.string x45f2_), (.slice x45f3p_ x45f3n_ x45f3c_)])] ++ cap_1.toList).toArray q_1 fun en_1 q_3 =>
 ∃ x46_ : Int, en_1 = .returned (.int .i64 x46_) ∧
 R (.returned (.tuple #[(.int .i64 i_), (.bool (decide (x46_ = (0 : Int))))])) q_3) ∧
 ((decide (i_ < ((xn_ : Nat) : Int))) = false →
 R (.returned (.tuple #[(.int .i64 i_), (.bool false)])) q_1)))))) :
 CallsH Tryz.prog 170 #[(.slice xp_ xn_ xc_), (.agg #[(.slice targetf0p_ targetf0n_ targetf0c_), (.int .i64 targetf1_), (.string targetf2_), (.slice targetf3p_ targetf3n_ targetf3c_)]), cmp_] h R := calls_vc fine false Tryz.func170 (ann := A170) (args := [(.slice xp_ xn_ xc_), (.agg #[(.slice targetf0p_ targetf0n_ targetf0c_), (.int .i64 targetf1_), (.string targetf2_), (.slice targetf3p_ targetf3n_ targetf3c_)]), cmp_]) (by kernel_rfl) (Eq.mpr (by kernel_rfl) H)
def A171 : Ann := (.seq .nil (.seq (.seq .nil (.block (.loop [(8, (.int .i64))] (.seq .nil (.seq (.cond .nil .nil) (.seq (.block (.seq .nil (.seq .nil (.cond (.seq .nil .nil) .nil)))) .nil)))))) (.seq .nil .nil)))
theorem V171 (sp_ : Option Addr) (sn_ sc_ : Nat) (f_ : Value) (h : Hp) (R : Ending → Hp → Prop) (H :
 ∃ (Iv_ : List Value → Hp → Prop) (m_ : List Value → Hp → Nat), Iv_ [(.int .i64 (0 : Int))] h ∧
 (∀ (x8_ : Int) q_, Iv_ [(.int .i64 x8_)] q_ →
 (((decide (x8_ < ((sn_ : Nat) : Int))) = true →
 ∃ b_ o_, sp_ = some ⟨b_, o_, none⟩ ∧ 0 ≤ x8_ ∧ x8_ < (sn_ : Int) ∧
 ∃ x15_ : Option Addr, cellsAt q_ b_ (o_ + Int.toNat x8_ * 1) [(.pointer x15_)] ∧
 ∃ fn_ fst_ cap_, f_ = Value.func (.func fn_) fst_ cap_ ∧ bodied Tryz.prog fn_ = true ∧
 CallsH Tryz.prog fn_ (fst_.toList ++ [(Value.pointer x15_)] ++ cap_.toList).toArray q_ fun en_ q_1 =>
 ∃ x16_ : Bool, en_ = .returned (.bool x16_) ∧
 ((x16_ = true →
 R (.returned (.int .i64 x8_)) q_1) ∧
 (x16_ = false →
 ∃ x18_, IntKind.i64.wrap (x8_ + (1 : Int)) = x18_ ∧
 (Iv_ [(.int .i64 x18_)] q_1 ∧ m_ [(.int .i64 x18_)] q_1 < m_ [(.int .i64 x8_)] q_)))) ∧
 ((decide (x8_ < ((sn_ : Nat) : Int))) = false →
 R (.returned (.int .i64 (-1 : Int))) q_)))) :
 CallsH Tryz.prog 171 #[(.slice sp_ sn_ sc_), f_] h R := calls_vc fine false Tryz.func171 (ann := A171) (args := [(.slice sp_ sn_ sc_), f_]) (by kernel_rfl) (Eq.mpr (by kernel_rfl) H)
def A172 : Ann := (.seq .nil (.seq .nil .nil))
theorem V172 (af0_ : Int) (af1_ : Int) (bf0_ : Int) (bf1_ : Int) (h : Hp) (R : Ending → Hp → Prop) (H :
 ∀ b_ q_, b_ = h.size → q_ = h.push (.cells #[(.int .u64 af0_), (.int .u64 af1_)] 40) →
 ∀ b_1 q_1, b_1 = q_.size → q_1 = q_.push (.cells #[(.int .u64 bf0_), (.int .u64 bf1_)] 40) →
 ∀ b_2 q_2, b_2 = q_1.size → q_2 = q_1.push (.cells (zeros Tryz.prog 40) 40) → (∃ i z, Tryz.prog.info? 40 = some i ∧ i.zero = some z) ∧
 ∃ x6_ : Int, cellsAt q_2 b_ (0 + 0) [(.int .u64 x6_)] ∧
 ∃ x8_ : Int, cellsAt q_2 b_1 (0 + 0) [(.int .u64 x8_)] ∧
 ∃ x9_, andI .u64 x6_ x8_ = x9_ ∧
 ∃ x11_ : Int, cellsAt q_2 b_ (0 + 1) [(.int .u64 x11_)] ∧
 ∃ x13_ : Int, cellsAt q_2 b_1 (0 + 1) [(.int .u64 x13_)] ∧
 ∃ x14_, andI .u64 x11_ x13_ = x14_ ∧
 List.length [(Value.int .u64 x9_), (.int .u64 x14_)] = 2 ∧ (∀ c ∈ [(Value.int .u64 x9_), (.int .u64 x14_)], c.oneCell' = true) ∧ wrAt q_2 b_2 0 2 ∧ ∀ q_3, q_3 = setsH q_2 b_2 0 [(.int .u64 x9_), (.int .u64 x14_)] →
 ∃ resf0_ : Int, ∃ resf1_ : Int, cellsAt q_3 b_2 0 [(.int .u64 resf0_), (.int .u64 resf1_)] ∧
 R (.returned (.agg #[(.int .u64 resf0_), (.int .u64 resf1_)])) q_3) :
 CallsH Tryz.prog 172 #[(.agg #[(.int .u64 af0_), (.int .u64 af1_)]), (.agg #[(.int .u64 bf0_), (.int .u64 bf1_)])] h R := calls_vc fine false Tryz.func172 (ann := A172) (args := [(.agg #[(.int .u64 af0_), (.int .u64 af1_)]), (.agg #[(.int .u64 bf0_), (.int .u64 bf1_)])]) (by kernel_rfl) (Eq.mpr (by kernel_rfl) H)
def A173 : Ann := (.seq .nil (.seq (.seq .nil (.cond (.seq .nil .nil) .nil)) (.seq .nil .nil)))
theorem V173 (n_ : Int) (h : Hp) (R : Ending → Hp → Prop) (H :
 ∀ b_ q_, b_ = h.size → q_ = h.push (.cells (zeros Tryz.prog 40) 40) → (∃ i z, Tryz.prog.info? 40 = some i ∧ i.zero = some z) ∧
 (((decide ((64 : Int) < n_)) = true →
 ∃ x6_, IntKind.i64.wrap (n_ - (64 : Int)) = x6_ ∧
 0 ≤ x6_ ∧ ∃ x7_, shlI .u64 (1 : Int) x6_ = x7_ ∧
 ∃ x8_, IntKind.u64.wrap (x7_ - (1 : Int)) = x8_ ∧
 List.length [(Value.int .u64 x8_), (.int .u64 (18446744073709551615 : Int))] = 2 ∧ (∀ c ∈ [(Value.int .u64 x8_), (.int .u64 (18446744073709551615 : Int))], c.oneCell' = true) ∧ wrAt q_ b_ 0 2 ∧ ∀ q_1, q_1 = setsH q_ b_ 0 [(.int .u64 x8_), (.int .u64 (18446744073709551615 : Int))] →
 ∃ resf0_ : Int, ∃ resf1_ : Int, cellsAt q_1 b_ 0 [(.int .u64 resf0_), (.int .u64 resf1_)] ∧
 R (.returned (.agg #[(.int .u64 resf0_), (.int .u64 resf1_)])) q_1) ∧
 ((decide ((64 : Int) < n_)) = false →
 0 ≤ n_ ∧ ∃ x11_, shlI .u64 (1 : Int) n_ = x11_ ∧
 ∃ x12_, IntKind.u64.wrap (x11_ - (1 : Int)) = x12_ ∧
 List.length [(Value.int .u64 (0 : Int)), (.int .u64 x12_)] = 2 ∧ (∀ c ∈ [(Value.int .u64 (0 : Int)), (.int .u64 x12_)], c.oneCell' = true) ∧ wrAt q_ b_ 0 2 ∧ ∀ q_2, q_2 = setsH q_ b_ 0 [(.int .u64 (0 : Int)), (.int .u64 x12_)] →
 ∃ resf0_1 : Int, ∃ resf1_1 : Int, cellsAt q_2 b_ 0 [(.int .u64 resf0_1), (.int .u64 resf1_1)] ∧
 R (.returned (.agg #[(.int .u64 resf0_1), (.int .u64 resf1_1)])) q_2))) :
 CallsH Tryz.prog 173 #[(.int .i64 n_)] h R := calls_vc fine false Tryz.func173 (ann := A173) (args := [(.int .i64 n_)]) (by kernel_rfl) (Eq.mpr (by kernel_rfl) H)
def A175 : Ann := (.seq .nil (.seq .nil (.seq (.seq .nil (.block (.loop [(8, (.int .i64))] (.seq .nil (.seq (.cond .nil .nil) (.seq (.block (.seq .nil (.seq .nil (.cond (.seq .nil .nil) .nil)))) .nil)))))) (.seq .nil .nil))))
theorem V175 (valsp_ : Option Addr) (valsn_ valsc_ : Nat) (h : Hp) (R : Ending → Hp → Prop) (H :
 ∃ (Iv_ : List Value → Hp → Prop) (m_ : List Value → Hp → Nat), Iv_ [(.int .i64 (0 : Int))] h ∧
 (∀ (x8_ : Int) q_, Iv_ [(.int .i64 x8_)] q_ →
 (((decide (x8_ < ((valsn_ : Nat) : Int))) = true →
 ∃ b_ o_, valsp_ = some ⟨b_, o_, none⟩ ∧ 0 ≤ x8_ ∧ x8_ < (valsn_ : Int) ∧
 ∃ x11_ : Int, cellsAt q_ b_ (o_ + Int.toNat x8_ * 1) [(.int .i64 x11_)] ∧
 (((decide (x11_ ≠ (0 : Int))) = true →
 R (.returned (.int .i64 x11_)) q_) ∧
 ((decide (x11_ ≠ (0 : Int))) = false →
 ∃ x16_, IntKind.i64.wrap (x8_ + (1 : Int)) = x16_ ∧
 (Iv_ [(.int .i64 x16_)] q_ ∧ m_ [(.int .i64 x16_)] q_ < m_ [(.int .i64 x8_)] q_)))) ∧
 ((decide (x8_ < ((valsn_ : Nat) : Int))) = false →
 R (.returned (.int .i64 (0 : Int))) q_)))) :
 CallsH Tryz.prog 175 #[(.slice valsp_ valsn_ valsc_)] h R := calls_vc fine false Tryz.func175 (ann := A175) (args := [(.slice valsp_ valsn_ valsc_)]) (by kernel_rfl) (Eq.mpr (by kernel_rfl) H)
def A176 : Ann := (.seq .nil (.seq .nil (.seq .nil (.seq (.seq .nil (.cond (.seq (.seq .nil (.cond (.seq .nil .nil) .nil)) (.seq .nil .nil)) .nil)) (.seq (.seq .nil (.cond (.seq .nil .nil) .nil)) (.seq (.seq .nil (.cond (.seq .nil .nil) .nil)) (.seq (.seq .nil (.cond (.seq .nil .nil) .nil)) (.seq .nil .nil))))))))
theorem V176 (x_ : Int) (y_ : Int) (h : Hp) (R : Ending → Hp → Prop) (H :
 CallsH Tryz.prog 187 #[(.int .i64 x_)] h fun en_ q_ =>
 ∃ x8_ : Bool, en_ = .returned (.bool x8_) ∧
 CallsH Tryz.prog 187 #[(.int .i64 y_)] q_ fun en_1 q_1 =>
 ∃ x10_ : Bool, en_1 = .returned (.bool x10_) ∧
 ((x8_ = true →
 ((x10_ = true →
 R (.returned (.int .i64 (0 : Int))) q_1) ∧
 (x10_ = false →
 R (.returned (.int .i64 (-1 : Int))) q_1))) ∧
 (x8_ = false →
 ((x10_ = true →
 R (.returned (.int .i64 (1 : Int))) q_1) ∧
 (x10_ = false →
 (((decide (x_ < y_)) = true →
 R (.returned (.int .i64 (-1 : Int))) q_1) ∧
 ((decide (x_ < y_)) = false →
 (((decide (y_ < x_)) = true →
 R (.returned (.int .i64 (1 : Int))) q_1) ∧
 ((decide (y_ < x_)) = false →
 R (.returned (.int .i64 (0 : Int))) q_1))))))))) :
 CallsH Tryz.prog 176 #[(.int .i64 x_), (.int .i64 y_)] h R := calls_vc fine false Tryz.func176 (ann := A176) (args := [(.int .i64 x_), (.int .i64 y_)]) (by kernel_rfl) (Eq.mpr (by kernel_rfl) H)
def A177 : Ann := (.seq .nil (.seq (.seq .nil (.block (.loop [(13, (.int .i64))] (.seq .nil (.seq (.cond .nil .nil) (.seq (.block (.seq .nil (.seq (.seq .nil (.cond (.seq .nil .nil) .nil)) (.seq .nil (.seq .nil (.seq .nil (.cond (.seq .nil .nil) .nil))))))) .nil)))))) (.seq (.seq .nil (.cond (.seq .nil .nil) .nil)) (.seq .nil .nil))))
theorem V177 (s1p_ : Option Addr) (s1n_ s1c_ : Nat) (s2p_ : Option Addr) (s2n_ s2c_ : Nat) (cmp_ : Value) (h : Hp) (R : Ending → Hp → Prop) (H :
 ∃ (Iv_ : List Value → Hp → Prop) (m_ : List Value → Hp → Nat), Iv_ [(.int .i64 (0 : Int))] h ∧
 (∀ (x13_ : Int) q_, Iv_ [(.int .i64 x13_)] q_ →
 (((decide (x13_ < ((s1n_ : Nat) : Int))) = true →
 ∃ b_ o_, s1p_ = some ⟨b_, o_, none⟩ ∧ 0 ≤ x13_ ∧ x13_ < (s1n_ : Int) ∧
 ∃ x17f0_ : Int, ∃ x17f1_ : Int, ∃ x17f2_ : Int, ∃ x17f3_ : Int, ∃ x17f4_ : Int, cellsAt q_ b_ (o_ + Int.toNat x13_ * 5) [(.int .u64 x17f0_), (.int .u64 x17f1_), (.int .u64 x17f2_), (.int .u64 x17f3_), (.int .i64 x17f4_)] ∧
 ∀ b_1 q_1, b_1 = q_.size → q_1 = q_.push (.cells (zeros Tryz.prog 50) 50) → (∃ i z, Tryz.prog.info? 50 = some i ∧ i.zero = some z) ∧
 List.length [(Value.int .u64 x17f0_), (.int .u64 x17f1_), (.int .u64 x17f2_), (.int .u64 x17f3_), (.int .i64 x17f4_)] = 5 ∧ (∀ c ∈ [(Value.int .u64 x17f0_), (.int .u64 x17f1_), (.int .u64 x17f2_), (.int .u64 x17f3_), (.int .i64 x17f4_)], c.oneCell' = true) ∧ wrAt q_1 b_1 0 5 ∧ ∀ q_2, q_2 = setsH q_1 b_1 0 [(.int .u64 x17f0_), (.int .u64 x17f1_), (.int .u64 x17f2_), (.int .u64 x17f3_), (.int .i64 x17f4_)] →
 (((decide (((s2n_ : Nat) : Int) ≤ x13_)) = true →
 R (.returned (.int .i64 (1 : Int))) q_2) ∧
 ((decide (((s2n_ : Nat) : Int) ≤ x13_)) = false →
 ∃ b_2 o_1, s2p_ = some ⟨b_2, o_1, none⟩ ∧ 0 ≤ x13_ ∧ x13_ < (s2n_ : Int) ∧
 ∃ x25f0_ : Int, ∃ x25f1_ : Int, ∃ x25f2_ : Int, ∃ x25f3_ : Int, ∃ x25f4_ : Int, cellsAt q_2 b_2 (o_1 + Int.toNat x13_ * 5) [(.int .u64 x25f0_), (.int .u64 x25f1_), (.int .u64 x25f2_), (.int .u64 x25f3_), (.int .i64 x25f4_)] ∧
 ∀ b_3 q_3, b_3 = q_2.size → q_3 = q_2.push (.cells (zeros Tryz.prog 50) 50) → (∃ i z, Tryz.prog.info? 50 = some i ∧ i.zero = some z) ∧
 List.length [(Value.int .u64 x25f0_), (.int .u64 x25f1_), (.int .u64 x25f2_), (.int .u64 x25f3_), (.int .i64 x25f4_)] = 5 ∧ (∀ c ∈ [(Value.int .u64 x25f0_), (.int .u64 x25f1_), (.int .u64 x25f2_), (.int .u64 x25f3_), (.int .i64 x25f4_)], c.oneCell' = true) ∧ wrAt q_3 b_3 0 5 ∧ ∀ q_4, q_4 = setsH q_3 b_3 0 [(.int .u64 x25f0_), (.int .u64 x25f1_), (.int .u64 x25f2_), (.int .u64 x25f3_), (.int .i64 x25f4_)] →
 ∃ x27f0_ : Int, ∃ x27f1_ : Int, ∃ x27f2_ : Int, ∃ x27f3_ : Int, ∃ x27f4_ : Int, cellsAt q_4 b_1 0 [(.int .u64 x27f0_), (.int .u64 x27f1_), (.int .u64 x27f2_), (.int .u64 x27f3_), (.int .i64 x27f4_)] ∧
 ∃ x28f0_ : Int, ∃ x28f1_ : Int, ∃ x28f2_ : Int, ∃ x28f3_ : Int, ∃ x28f4_ : Int, cellsAt q_4 b_3 0 [(.int .u64 x28f0_), (.int .u64 x28f1_), (.int .u64 x28f2_), (.int .u64 x28f3_), (.int .i64 x28f4_)] ∧
 ∃ fn_ fst_ cap_, cmp_ = Value.func (.func fn_) fst_ cap_ ∧ bodied Tryz.prog fn_ = true ∧
 CallsH Tryz.prog fn_ (fst_.toList ++ [(Value.agg #[(.int .u64 x27f0_), (.int .u64 x27f1_), (.int .u64 x27f2_), (.int .u64 x27f3_), (.int .i64 x27f4_)]), (.agg #[(.int .u64 x28f0_), (.int .u64 x28f1_), (.int .u64 x28f2_), (.int .u64 x28f3_), (.int .i64 x28f4_)])] ++ cap_.toList).toArray q_4 fun en_ q_5 =>
 ∃ x29_ : Int, en_ = .returned (.int .i64 x29_) ∧
 (((decide (x29_ ≠ (0 : Int))) = true →
 R (.returned (.int .i64 x29_)) q_5) ∧
 ((decide (x29_ ≠ (0 : Int))) = false →
 ∃ x33_, IntKind.i64.wrap (x13_ + (1 : Int)) = x33_ ∧
 (Iv_ [(.int .i64 x33_)] q_5 ∧ m_ [(.int .i64 x33_)] q_5 < m_ [(.int .i64 x13_)] q_)))))) ∧
 ((decide (x13_ < ((s1n_ : Nat) : Int))) = false →
 (((decide (((s1n_ : Nat) : Int) < ((s2n_ : Nat) : Int))) = true →
 R (.returned (.int .i64 (-1 : Int))) q_) ∧
 ((decide (((s1n_ : Nat) : Int) < ((s2n_ : Nat) : Int))) = false →
 R (.returned (.int .i64 (0 : Int))) q_)))))) :
 CallsH Tryz.prog 177 #[(.slice s1p_ s1n_ s1c_), (.slice s2p_ s2n_ s2c_), cmp_] h R := calls_vc fine false Tryz.func177 (ann := A177) (args := [(.slice s1p_ s1n_ s1c_), (.slice s2p_ s2n_ s2c_), cmp_]) (by kernel_rfl) (Eq.mpr (by kernel_rfl) H)
def A178 : Ann := (.seq .nil (.seq (.drawLast [6, 8, 11, 13]) .nil))
theorem V178 (xf0_ : Int) (xf1_ : Int) (xf2_ : Int) (xf3_ : Int) (xf4_ : Int) (yf0_ : Int) (yf1_ : Int) (yf2_ : Int) (yf3_ : Int) (yf4_ : Int) (h : Hp) (R : Ending → Hp → Prop) (H :
 ∀ b_ q_, b_ = h.size → q_ = h.push (.cells #[(.int .u64 xf0_), (.int .u64 xf1_), (.int .u64 xf2_), (.int .u64 xf3_), (.int .i64 xf4_)] 50) →
 ∀ b_1 q_1, b_1 = q_.size → q_1 = q_.push (.cells #[(.int .u64 yf0_), (.int .u64 yf1_), (.int .u64 yf2_), (.int .u64 yf3_), (.int .i64 yf4_)] 50) →
 ∃ Cv_ : Hp → Prop, Cv_ q_1 ∧
 ∃ x6_ : Int, cellsAt q_1 b_1 (0 + 4) [(.int .i64 x6_)] ∧
 ∃ x8_ : Int, cellsAt q_1 b_ (0 + 4) [(.int .i64 x8_)] ∧
 CallsH Tryz.prog 176 #[(.int .i64 x6_), (.int .i64 x8_)] q_1 fun en_ q_2 =>
 ∃ x9_ : Int, en_ = .returned (.int .i64 x9_) ∧
 Cv_ q_2 ∧
 ∃ x11f0_ : Int, ∃ x11f1_ : Int, (∀ h', Cv_ h' → cellsAt h' b_ (0 + 0) [(.int .u64 x11f0_), (.int .u64 x11f1_)]) ∧
 ∃ x13f0_ : Int, ∃ x13f1_ : Int, (∀ h', Cv_ h' → cellsAt h' b_1 (0 + 0) [(.int .u64 x13f0_), (.int .u64 x13f1_)]) ∧
 CallsH Tryz.prog 179 #[(.agg #[(.int .u64 x11f0_), (.int .u64 x11f1_)]), (.agg #[(.int .u64 x13f0_), (.int .u64 x13f1_)])] q_2 fun en_1 q_3 =>
 ∃ x14_ : Int, en_1 = .returned (.int .i64 x14_) ∧
 Cv_ q_3 ∧
 ∃ x16f0_ : Int, ∃ x16f1_ : Int, (∀ h', Cv_ h' → cellsAt h' b_ (0 + 2) [(.int .u64 x16f0_), (.int .u64 x16f1_)]) ∧
 ∃ x18f0_ : Int, ∃ x18f1_ : Int, (∀ h', Cv_ h' → cellsAt h' b_1 (0 + 2) [(.int .u64 x18f0_), (.int .u64 x18f1_)]) ∧
 CallsH Tryz.prog 179 #[(.agg #[(.int .u64 x16f0_), (.int .u64 x16f1_)]), (.agg #[(.int .u64 x18f0_), (.int .u64 x18f1_)])] q_3 fun en_2 q_4 =>
 ∃ x19_ : Int, en_2 = .returned (.int .i64 x19_) ∧
 Cv_ q_4 ∧
 SemH Tryz.prog (Instr.buildSlice 76 3 #[(0, (.int .i64 x9_)), (1, (.int .i64 x14_)), (2, (.int .i64 x19_))]) q_4 fun v_ q_5 =>
 ∃ (x20p_ : Option Addr) (x20n_ x20c_ : Nat), v_ = (.slice x20p_ x20n_ x20c_) ∧
 Cv_ q_5 ∧
 CallsH Tryz.prog 175 #[(.slice x20p_ x20n_ x20c_)] q_5 fun en_3 q_6 =>
 ∃ x21_ : Int, en_3 = .returned (.int .i64 x21_) ∧
 Cv_ q_6 ∧
 R (.returned (.int .i64 x21_)) q_6) :
 CallsH Tryz.prog 178 #[(.agg #[(.int .u64 xf0_), (.int .u64 xf1_), (.int .u64 xf2_), (.int .u64 xf3_), (.int .i64 xf4_)]), (.agg #[(.int .u64 yf0_), (.int .u64 yf1_), (.int .u64 yf2_), (.int .u64 yf3_), (.int .i64 yf4_)])] h R := calls_vc fine false Tryz.func178 (ann := A178) (args := [(.agg #[(.int .u64 xf0_), (.int .u64 xf1_), (.int .u64 xf2_), (.int .u64 xf3_), (.int .i64 xf4_)]), (.agg #[(.int .u64 yf0_), (.int .u64 yf1_), (.int .u64 yf2_), (.int .u64 yf3_), (.int .i64 yf4_)])]) (by kernel_rfl) (Eq.mpr (by kernel_rfl) H)
def A179 : Ann := (.seq .nil (.seq (.drawLast [6, 8]) .nil))
theorem V179 (af0_ : Int) (af1_ : Int) (bf0_ : Int) (bf1_ : Int) (h : Hp) (R : Ending → Hp → Prop) (H :
 ∀ b_ q_, b_ = h.size → q_ = h.push (.cells #[(.int .u64 af0_), (.int .u64 af1_)] 40) →
 ∀ b_1 q_1, b_1 = q_.size → q_1 = q_.push (.cells #[(.int .u64 bf0_), (.int .u64 bf1_)] 40) →
 ∃ Cv_ : Hp → Prop, Cv_ q_1 ∧
 ∃ x6_ : Int, cellsAt q_1 b_ (0 + 0) [(.int .u64 x6_)] ∧
 ∃ x8_ : Int, cellsAt q_1 b_1 (0 + 0) [(.int .u64 x8_)] ∧
 CallsH Tryz.prog 188 #[(.int .u64 x6_), (.int .u64 x8_)] q_1 fun en_ q_2 =>
 ∃ x9_ : Int, en_ = .returned (.int .i64 x9_) ∧
 Cv_ q_2 ∧
 ∃ x11_ : Int, (∀ h', Cv_ h' → cellsAt h' b_ (0 + 1) [(.int .u64 x11_)]) ∧
 ∃ x13_ : Int, (∀ h', Cv_ h' → cellsAt h' b_1 (0 + 1) [(.int .u64 x13_)]) ∧
 CallsH Tryz.prog 188 #[(.int .u64 x11_), (.int .u64 x13_)] q_2 fun en_1 q_3 =>
 ∃ x14_ : Int, en_1 = .returned (.int .i64 x14_) ∧
 Cv_ q_3 ∧
 SemH Tryz.prog (Instr.buildSlice 76 2 #[(0, (.int .i64 x9_)), (1, (.int .i64 x14_))]) q_3 fun v_ q_4 =>
 ∃ (x15p_ : Option Addr) (x15n_ x15c_ : Nat), v_ = (.slice x15p_ x15n_ x15c_) ∧
 Cv_ q_4 ∧
 CallsH Tryz.prog 175 #[(.slice x15p_ x15n_ x15c_)] q_4 fun en_2 q_5 =>
 ∃ x16_ : Int, en_2 = .returned (.int .i64 x16_) ∧
 Cv_ q_5 ∧
 R (.returned (.int .i64 x16_)) q_5) :
 CallsH Tryz.prog 179 #[(.agg #[(.int .u64 af0_), (.int .u64 af1_)]), (.agg #[(.int .u64 bf0_), (.int .u64 bf1_)])] h R := calls_vc fine false Tryz.func179 (ann := A179) (args := [(.agg #[(.int .u64 af0_), (.int .u64 af1_)]), (.agg #[(.int .u64 bf0_), (.int .u64 bf1_)])]) (by kernel_rfl) (Eq.mpr (by kernel_rfl) H)
def A180 : Ann := (.seq .nil (.seq (.seq .nil (.cond (.seq .nil .nil) .nil)) (.seq .nil .nil)))
theorem V180 (sp_ : Option Addr) (sn_ sc_ : Nat) (h : Hp) (R : Ending → Hp → Prop) (H :
 ∃ x4_, EqV Tryz.prog 51 (.slice sp_ sn_ sc_) (.slice none 0 0) x4_ ∧
 ((x4_ = true →
 R (.returned (.slice none 0 0)) h) ∧
 (x4_ = false →
 SemH Tryz.prog (Instr.buildSlice 51 0 #[]) h fun v_ q_ =>
 ∃ (x5p_ : Option Addr) (x5n_ x5c_ : Nat), v_ = (.slice x5p_ x5n_ x5c_) ∧
 SemH Tryz.prog (Builtin.append_ #[51, 51] 51 #[(.slice x5p_ x5n_ x5c_), (.slice sp_ sn_ sc_)]) q_ fun v_1 q_1 =>
 ∃ (x7p_ : Option Addr) (x7n_ x7c_ : Nat), v_1 = (.slice x7p_ x7n_ x7c_) ∧
 R (.returned (.slice x7p_ x7n_ x7c_)) q_1))) :
 CallsH Tryz.prog 180 #[(.slice sp_ sn_ sc_)] h R := calls_vc fine false Tryz.func180 (ann := A180) (args := [(.slice sp_ sn_ sc_)]) (by kernel_rfl) (Eq.mpr (by kernel_rfl) H)
def A183 : Ann := .nil
theorem V183 (xp_ : Option Addr) (xn_ xc_ : Nat) (cmp_ : Value) (h : Hp) (R : Ending → Hp → Prop) (H :
 CallsH Tryz.prog 190 #[(.slice xp_ xn_ xc_), (.int .i64 ((xn_ : Nat) : Int)), cmp_] h fun en_ q_ =>
 en_ = .returned (.tuple #[]) ∧
 R (.returned (.tuple #[])) q_) :
 CallsH Tryz.prog 183 #[(.slice xp_ xn_ xc_), cmp_] h R := calls_vc fine false Tryz.func183 (ann := A183) (args := [(.slice xp_ xn_ xc_), cmp_]) (by kernel_rfl) (Eq.mpr (by kernel_rfl) H)
def A184 : Ann := (.seq .nil (.seq .nil .nil))
theorem V184 (a_ : Option Addr) (b_ : Option Addr) (h : Hp) (R : Ending → Hp → Prop) (H :
 ∃ b_1 o_, b_ = some ⟨b_1, o_, none⟩ ∧
 ∃ x8_ : Int, cellsAt h b_1 (o_ + 3) [(.int .i64 x8_)] ∧
 ∃ b_2 o_1, a_ = some ⟨b_2, o_1, none⟩ ∧
 ∃ x12_ : Int, cellsAt h b_2 (o_1 + 3) [(.int .i64 x12_)] ∧
 ∃ x13_, IntKind.i64.wrap (x8_ - x12_) = x13_ ∧
 R (.returned (.int .i64 x13_)) h) :
 CallsH Tryz.prog 184 #[(.pointer a_), (.pointer b_)] h R := calls_vc fine false Tryz.func184 (ann := A184) (args := [(.pointer a_), (.pointer b_)]) (by kernel_rfl) (Eq.mpr (by kernel_rfl) H)
def A187 : Ann := (.seq .nil (.seq .nil .nil))
theorem V187 (x_ : Int) (h : Hp) (R : Ending → Hp → Prop) (H :
 R (.returned (.bool (decide (x_ ≠ x_)))) h) :
 CallsH Tryz.prog 187 #[(.int .i64 x_)] h R := calls_vc fine false Tryz.func187 (ann := A187) (args := [(.int .i64 x_)]) (by kernel_rfl) (Eq.mpr (by kernel_rfl) H)
def A188 : Ann := (.seq .nil (.seq .nil (.seq .nil (.seq (.seq .nil (.cond (.seq (.seq .nil (.cond (.seq .nil .nil) .nil)) (.seq .nil .nil)) .nil)) (.seq (.seq .nil (.cond (.seq .nil .nil) .nil)) (.seq (.seq .nil (.cond (.seq .nil .nil) .nil)) (.seq (.seq .nil (.cond (.seq .nil .nil) .nil)) (.seq .nil .nil))))))))
theorem V188 (x_ : Int) (y_ : Int) (h : Hp) (R : Ending → Hp → Prop) (H :
 CallsH Tryz.prog 201 #[(.int .u64 x_)] h fun en_ q_ =>
 ∃ x8_ : Bool, en_ = .returned (.bool x8_) ∧
 CallsH Tryz.prog 201 #[(.int .u64 y_)] q_ fun en_1 q_1 =>
 ∃ x10_ : Bool, en_1 = .returned (.bool x10_) ∧
 ((x8_ = true →
 ((x10_ = true →
 R (.returned (.int .i64 (0 : Int))) q_1) ∧
 (x10_ = false →
 R (.returned (.int .i64 (-1 : Int))) q_1))) ∧
 (x8_ = false →
 ((x10_ = true →
 R (.returned (.int .i64 (1 : Int))) q_1) ∧
 (x10_ = false →
 (((decide (x_ < y_)) = true →
 R (.returned (.int .i64 (-1 : Int))) q_1) ∧
 ((decide (x_ < y_)) = false →
 (((decide (y_ < x_)) = true →
 R (.returned (.int .i64 (1 : Int))) q_1) ∧
 ((decide (y_ < x_)) = false →
 R (.returned (.int .i64 (0 : Int))) q_1))))))))) :
 CallsH Tryz.prog 188 #[(.int .u64 x_), (.int .u64 y_)] h R := calls_vc fine false Tryz.func188 (ann := A188) (args := [(.int .u64 x_), (.int .u64 y_)]) (by kernel_rfl) (Eq.mpr (by kernel_rfl) H)
def A190 : Ann := (.seq .nil (.seq .nil (.seq (.block (.loop [(7, (.int .i64)), (8, (.int .i64))] (.seq (.seq .nil (.cond .nil .nil)) (.block (.seq .nil (.seq .nil .nil)))))) (.seq .nil (.block (.loop [(6, (.int .i64))] (.seq (.seq .nil (.cond .nil .nil)) (.block (.seq .nil (.seq (.block (.loop [(7, (.int .i64)), (8, (.int .i64))] (.seq (.seq .nil (.cond .nil .nil)) (.block (.seq .nil (.seq .nil .nil)))))) (.seq (.seq .nil (.seq .nil (.cond .nil .nil))) .nil)))))))))))
theorem V190 (datap_ : Option Addr) (datan_ datac_ : Nat) (n_ : Int) (cmp_ : Value) (h : Hp) (R : Ending → Hp → Prop) (H :
 ∃ (Iv_ : List Value → Hp → Prop) (m_ : List Value → Hp → Nat), Iv_ [(.int .i64 (0 : Int)), (.int .i64 (20 : Int))] h ∧
 (∀ (a_ : Int) (b_ : Int) q_, Iv_ [(.int .i64 a_), (.int .i64 b_)] q_ →
 (((decide (b_ ≤ n_)) = true →
 CallsH Tryz.prog 203 #[(.slice datap_ datan_ datac_), (.int .i64 a_), (.int .i64 b_), cmp_] q_ fun en_ q_1 =>
 en_ = .returned (.tuple #[]) ∧
 ∃ x22_, IntKind.i64.wrap (b_ + (20 : Int)) = x22_ ∧
 (Iv_ [(.int .i64 b_), (.int .i64 x22_)] q_1 ∧ m_ [(.int .i64 b_), (.int .i64 x22_)] q_1 < m_ [(.int .i64 a_), (.int .i64 b_)] q_)) ∧
 ((decide (b_ ≤ n_)) = false →
 CallsH Tryz.prog 203 #[(.slice datap_ datan_ datac_), (.int .i64 a_), (.int .i64 n_), cmp_] q_ fun en_1 q_2 =>
 en_1 = .returned (.tuple #[]) ∧
 ∃ (Iv_1 : List Value → Hp → Prop) (m_1 : List Value → Hp → Nat), Iv_1 [(.int .i64 (20 : Int))] q_2 ∧
 (∀ (blockSize_ : Int) q_3, Iv_1 [(.int .i64 blockSize_)] q_3 →
 (((decide (blockSize_ < n_)) = true →
 ∃ x32_, IntKind.i64.wrap ((2 : Int) * blockSize_) = x32_ ∧
 ∃ (Iv_2 : List Value → Hp → Prop) (m_2 : List Value → Hp → Nat), Iv_2 [(.int .i64 (0 : Int)), (.int .i64 x32_)] q_3 ∧
 (∀ (a_1 : Int) (b_1 : Int) q_4, Iv_2 [(.int .i64 a_1), (.int .i64 b_1)] q_4 →
 (((decide (b_1 ≤ n_)) = true →
 ∃ x40_, IntKind.i64.wrap (a_1 + blockSize_) = x40_ ∧
 CallsH Tryz.prog 204 #[(.slice datap_ datan_ datac_), (.int .i64 a_1), (.int .i64 x40_), (.int .i64 b_1), cmp_] q_4 fun en_2 q_5 =>
 en_2 = .returned (.tuple #[]) ∧
 ∃ x47_, IntKind.i64.wrap ((2 : Int) * blockSize_) = x47_ ∧
 ∃ x48_, IntKind.i64.wrap (b_1 + x47_) = x48_ ∧
 (Iv_2 [(.int .i64 b_1), (.int .i64 x48_)] q_5 ∧ m_2 [(.int .i64 b_1), (.int .i64 x48_)] q_5 < m_2 [(.int .i64 a_1), (.int .i64 b_1)] q_4)) ∧
 ((decide (b_1 ≤ n_)) = false →
 ∃ x51_, IntKind.i64.wrap (a_1 + blockSize_) = x51_ ∧
 (((decide (x51_ < n_)) = true →
 CallsH Tryz.prog 204 #[(.slice datap_ datan_ datac_), (.int .i64 a_1), (.int .i64 x51_), (.int .i64 n_), cmp_] q_4 fun en_3 q_6 =>
 en_3 = .returned (.tuple #[]) ∧
 ∃ x62_, IntKind.i64.wrap (blockSize_ * (2 : Int)) = x62_ ∧
 (Iv_1 [(.int .i64 x62_)] q_6 ∧ m_1 [(.int .i64 x62_)] q_6 < m_1 [(.int .i64 blockSize_)] q_3)) ∧
 ((decide (x51_ < n_)) = false →
 ∃ x62_1, IntKind.i64.wrap (blockSize_ * (2 : Int)) = x62_1 ∧
 (Iv_1 [(.int .i64 x62_1)] q_4 ∧ m_1 [(.int .i64 x62_1)] q_4 < m_1 [(.int .i64 blockSize_)] q_3))))))) ∧
 ((decide (blockSize_ < n_)) = false →
 R (.returned (.tuple #[])) q_3))))))) :
 CallsH Tryz.prog 190 #[(.slice datap_ datan_ datac_), (.int .i64 n_), cmp_] h R := calls_vc fine false Tryz.func190 (ann := A190) (args := [(.slice datap_ datan_ datac_), (.int .i64 n_), cmp_]) (by kernel_rfl) (Eq.mpr (by kernel_rfl) H)
def A201 : Ann := (.seq .nil (.seq .nil .nil))
theorem V201 (x_ : Int) (h : Hp) (R : Ending → Hp → Prop) (H :
 R (.returned (.bool (decide (x_ ≠ x_)))) h) :
 CallsH Tryz.prog 201 #[(.int .u64 x_)] h R := calls_vc fine false Tryz.func201 (ann := A201) (args := [(.int .u64 x_)]) (by kernel_rfl) (Eq.mpr (by kernel_rfl) H)
def A203 : Ann := (.seq .nil (.block (.loop [(8, (.int .i64))] (.seq (.seq .nil (.cond .nil .nil)) (.seq (.block (.seq .nil (.block (.loop [(9, (.int .i64))] (.cut (.seq .nil (.cond .nil .nil)) [] (.seq (.block .nil) .nil)))))) .nil)))))
theorem V203 (datap_ : Option Addr) (datan_ datac_ : Nat) (a_ : Int) (b_ : Int) (cmp_ : Value) (h : Hp) (R : Ending → Hp → Prop) (H :
 ∃ x11_, IntKind.i64.wrap (a_ + (1 : Int)) = x11_ ∧
 ∃ (Iv_ : List Value → Hp → Prop) (m_ : List Value → Hp → Nat), Iv_ [(.int .i64 x11_)] h ∧
 (∀ (i_ : Int) q_, Iv_ [(.int .i64 i_)] q_ →
 (((decide (i_ < b_)) = true →
 ∃ (Iv_1 : List Value → Hp → Prop) (m_1 : List Value → Hp → Nat), Iv_1 [(.int .i64 i_)] q_ ∧
 (∀ (j_ : Int) q_1, Iv_1 [(.int .i64 j_)] q_1 →
 ∃ Jv_ : List Value → Hp → Prop,
 ((((decide (a_ < j_)) = true →
 ∃ b_1 o_, datap_ = some ⟨b_1, o_, none⟩ ∧ 0 ≤ j_ ∧ j_ < (datan_ : Int) ∧
 ∃ x26_ : Option Addr, cellsAt q_1 b_1 (o_ + Int.toNat j_ * 1) [(.pointer x26_)] ∧
 ∃ x29_, IntKind.i64.wrap (j_ - (1 : Int)) = x29_ ∧
 ∃ b_2 o_1, datap_ = some ⟨b_2, o_1, none⟩ ∧ 0 ≤ x29_ ∧ x29_ < (datan_ : Int) ∧
 ∃ x31_ : Option Addr, cellsAt q_1 b_2 (o_1 + Int.toNat x29_ * 1) [(.pointer x31_)] ∧
 ∃ fn_ fst_ cap_, cmp_ = Value.func (.func fn_) fst_ cap_ ∧ bodied Tryz.prog fn_ = true ∧
 CallsH Tryz.prog fn_ (fst_.toList ++ [(Value.pointer x26_), (.pointer x31_)] ++ cap_.toList).toArray q_1 fun en_ q_2 =>
 ∃ x32_ : Int, en_ = .returned (.int .i64 x32_) ∧
 (((decide (x32_ < (0 : Int))) = true →
 Jv_ [] q_2) ∧
 ((decide (x32_ < (0 : Int))) = false →
 ∃ x16_, IntKind.i64.wrap (i_ + (1 : Int)) = x16_ ∧
 (Iv_ [(.int .i64 x16_)] q_2 ∧ m_ [(.int .i64 x16_)] q_2 < m_ [(.int .i64 i_)] q_)))) ∧
 ((decide (a_ < j_)) = false →
 ∃ x16_1, IntKind.i64.wrap (i_ + (1 : Int)) = x16_1 ∧
 (Iv_ [(.int .i64 x16_1)] q_1 ∧ m_ [(.int .i64 x16_1)] q_1 < m_ [(.int .i64 i_)] q_)))) ∧
 (∀  q_3, Jv_ [] q_3 →
 ∃ x41_, IntKind.i64.wrap (j_ - (1 : Int)) = x41_ ∧
 ∃ x44_, IntKind.i64.wrap (j_ - (1 : Int)) = x44_ ∧
 ∃ b_3 o_2, datap_ = some ⟨b_3, o_2, none⟩ ∧ 0 ≤ x44_ ∧ x44_ < (datan_ : Int) ∧
 ∃ x46_ : Option Addr, cellsAt q_3 b_3 (o_2 + Int.toNat x44_ * 1) [(.pointer x46_)] ∧
 ∃ b_4 o_3, datap_ = some ⟨b_4, o_3, none⟩ ∧ 0 ≤ j_ ∧ j_ < (datan_ : Int) ∧
 ∃ x50_ : Option Addr, cellsAt q_3 b_4 (o_3 + Int.toNat j_ * 1) [(.pointer x50_)] ∧
 ∃ b_5 o_4, datap_ = some ⟨b_5, o_4, none⟩ ∧ 0 ≤ j_ ∧ j_ < (datan_ : Int) ∧
 Value.oneCell' (.pointer x46_) = true ∧ wrAt q_3 b_5 (o_4 + Int.toNat j_ * 1) 1 ∧ ∀ q_4, q_4 = setsH q_3 b_5 (o_4 + Int.toNat j_ * 1) [(.pointer x46_)] →
 ∃ b_6 o_5, datap_ = some ⟨b_6, o_5, none⟩ ∧ 0 ≤ x41_ ∧ x41_ < (datan_ : Int) ∧
 Value.oneCell' (.pointer x50_) = true ∧ wrAt q_4 b_6 (o_5 + Int.toNat x41_ * 1) 1 ∧ ∀ q_5, q_5 = setsH q_4 b_6 (o_5 + Int.toNat x41_ * 1) [(.pointer x50_)] →
 ∃ x36_, IntKind.i64.wrap (j_ - (1 : Int)) = x36_ ∧
 (Iv_1 [(.int .i64 x36_)] q_5 ∧ m_1 [(.int .i64 x36_)] q_5 < m_1 [(.int .i64 j_)] q_1)))) ∧
 ((decide (i_ < b_)) = false →
 R (.returned (.tuple #[])) q_)))) :
 CallsH Tryz.prog 203 #[(.slice datap_ datan_ datac_), (.int .i64 a_), (.int .i64 b_), cmp_] h R := calls_vc fine false Tryz.func203 (ann := A203) (args := [(.slice datap_ datan_ datac_), (.int .i64 a_), (.int .i64 b_), cmp_]) (by kernel_rfl) (Eq.mpr (by kernel_rfl) H)
def A204 : Ann := (.seq (.seq .nil (.cond (.seq .nil (.seq .nil (.seq (.block (.loop [(10, (.int .i64)), (11, (.int .i64))] (.seq (.seq .nil (.cond .nil .nil)) (.block (.seq .nil (.seq .nil (.cond .nil .nil))))))) (.seq (.seq .nil (.block (.loop [(13, (.int .i64))] (.seq (.seq .nil (.cond .nil .nil)) (.seq (.block .nil) .nil))))) .nil)))) .nil)) (.seq (.seq .nil (.cond (.seq .nil (.seq .nil (.seq (.block (.loop [(14, (.int .i64)), (15, (.int .i64))] (.seq (.seq .nil (.cond .nil .nil)) (.block (.seq .nil (.seq .nil (.cond .nil .nil))))))) (.seq (.seq .nil (.block (.loop [(17, (.int .i64))] (.seq (.seq .nil (.cond .nil .nil)) (.seq (.block .nil) .nil))))) .nil)))) .nil)) (.seq .nil (.seq .nil (.seq .nil (.cut (.seq .nil (.cond (.seq .nil .nil) (.seq .nil .nil))) [(20, (.int .i64)), (21, (.int .i64))] (.seq .nil (.seq (.block (.loop [(20, (.int .i64)), (21, (.int .i64))] (.seq (.seq .nil (.cond .nil .nil)) (.block (.seq .nil (.seq .nil (.cond .nil .nil))))))) (.seq .nil (.cut (.seq (.join 185) (.cond .nil .nil)) [] (.cut (.seq (.join 199) (.cond .nil .nil)) [] (.seq (.join 213) (.cond .nil .nil)))))))))))))
theorem V204 (datap_ : Option Addr) (datan_ datac_ : Nat) (a_ : Int) (m_ : Int) (b_ : Int) (cmp_ : Value) (h : Hp) (R : Ending → Hp → Prop) (H :
 ∃ x27_, IntKind.i64.wrap (m_ - a_) = x27_ ∧
 (((decide (x27_ = (1 : Int))) = true →
 ∃ (Iv_ : List Value → Hp → Prop) (m_1 : List Value → Hp → Nat), Iv_ [(.int .i64 m_), (.int .i64 b_)] h ∧
 (∀ (i_ : Int) (j_ : Int) q_, Iv_ [(.int .i64 i_), (.int .i64 j_)] q_ →
 (((decide (i_ < j_)) = true →
 ∃ x36_, IntKind.i64.wrap (i_ + j_) = x36_ ∧
 ∃ x37_, IntKind.u64.wrap x36_ = x37_ ∧
 0 ≤ (1 : Int) ∧ ∃ x38_, shrI .u64 x37_ (1 : Int) = x38_ ∧
 ∃ x39_, IntKind.i64.wrap x38_ = x39_ ∧
 ∃ b_1 o_, datap_ = some ⟨b_1, o_, none⟩ ∧ 0 ≤ x39_ ∧ x39_ < (datan_ : Int) ∧
 ∃ x44_ : Option Addr, cellsAt q_ b_1 (o_ + Int.toNat x39_ * 1) [(.pointer x44_)] ∧
 ∃ b_2 o_1, datap_ = some ⟨b_2, o_1, none⟩ ∧ 0 ≤ a_ ∧ a_ < (datan_ : Int) ∧
 ∃ x48_ : Option Addr, cellsAt q_ b_2 (o_1 + Int.toNat a_ * 1) [(.pointer x48_)] ∧
 ∃ fn_ fst_ cap_, cmp_ = Value.func (.func fn_) fst_ cap_ ∧ bodied Tryz.prog fn_ = true ∧
 CallsH Tryz.prog fn_ (fst_.toList ++ [(Value.pointer x44_), (.pointer x48_)] ++ cap_.toList).toArray q_ fun en_ q_1 =>
 ∃ x49_ : Int, en_ = .returned (.int .i64 x49_) ∧
 (((decide (x49_ < (0 : Int))) = true →
 ∃ x52_, IntKind.i64.wrap (x39_ + (1 : Int)) = x52_ ∧
 (Iv_ [(.int .i64 x52_), (.int .i64 j_)] q_1 ∧ m_1 [(.int .i64 x52_), (.int .i64 j_)] q_1 < m_1 [(.int .i64 i_), (.int .i64 j_)] q_)) ∧
 ((decide (x49_ < (0 : Int))) = false →
 (Iv_ [(.int .i64 i_), (.int .i64 x39_)] q_1 ∧ m_1 [(.int .i64 i_), (.int .i64 x39_)] q_1 < m_1 [(.int .i64 i_), (.int .i64 j_)] q_)))) ∧
 ((decide (i_ < j_)) = false →
 ∃ (Iv_1 : List Value → Hp → Prop) (m_2 : List Value → Hp → Nat), Iv_1 [(.int .i64 a_)] q_ ∧
 (∀ (k_ : Int) q_2, Iv_1 [(.int .i64 k_)] q_2 →
 ∃ x57_, IntKind.i64.wrap (i_ - (1 : Int)) = x57_ ∧
 (((decide (k_ < x57_)) = true →
 ∃ x65_, IntKind.i64.wrap (k_ + (1 : Int)) = x65_ ∧
 ∃ x68_, IntKind.i64.wrap (k_ + (1 : Int)) = x68_ ∧
 ∃ b_3 o_2, datap_ = some ⟨b_3, o_2, none⟩ ∧ 0 ≤ x68_ ∧ x68_ < (datan_ : Int) ∧
 ∃ x70_ : Option Addr, cellsAt q_2 b_3 (o_2 + Int.toNat x68_ * 1) [(.pointer x70_)] ∧
 ∃ b_4 o_3, datap_ = some ⟨b_4, o_3, none⟩ ∧ 0 ≤ k_ ∧ k_ < (datan_ : Int) ∧
 ∃ x74_ : Option Addr, cellsAt q_2 b_4 (o_3 + Int.toNat k_ * 1) [(.pointer x74_)] ∧
 ∃ b_5 o_4, datap_ = some ⟨b_5, o_4, none⟩ ∧ 0 ≤ k_ ∧ k_ < (datan_ : Int) ∧
 Value.oneCell' (.pointer x70_) = true ∧ wrAt q_2 b_5 (o_4 + Int.toNat k_ * 1) 1 ∧ ∀ q_3, q_3 = setsH q_2 b_5 (o_4 + Int.toNat k_ * 1) [(.pointer x70_)] →
 ∃ b_6 o_5, datap_ = some ⟨b_6, o_5, none⟩ ∧ 0 ≤ x65_ ∧ x65_ < (datan_ : Int) ∧
 Value.oneCell' (.pointer x74_) = true ∧ wrAt q_3 b_6 (o_5 + Int.toNat x65_ * 1) 1 ∧ ∀ q_4, q_4 = setsH q_3 b_6 (o_5 + Int.toNat x65_ * 1) [(.pointer x74_)] →
 ∃ x60_, IntKind.i64.wrap (k_ + (1 : Int)) = x60_ ∧
 (Iv_1 [(.int .i64 x60_)] q_4 ∧ m_2 [(.int .i64 x60_)] q_4 < m_2 [(.int .i64 k_)] q_2)) ∧
 ((decide (k_ < x57_)) = false →
 R (.returned (.tuple #[])) q_2))))))) ∧
 ((decide (x27_ = (1 : Int))) = false →
 ∃ x79_, IntKind.i64.wrap (b_ - m_) = x79_ ∧
 (((decide (x79_ = (1 : Int))) = true →
 ∃ (Iv_2 : List Value → Hp → Prop) (m_3 : List Value → Hp → Nat), Iv_2 [(.int .i64 a_), (.int .i64 m_)] h ∧
 (∀ (i_1 : Int) (j_1 : Int) q_5, Iv_2 [(.int .i64 i_1), (.int .i64 j_1)] q_5 →
 (((decide (i_1 < j_1)) = true →
 ∃ x88_, IntKind.i64.wrap (i_1 + j_1) = x88_ ∧
 ∃ x89_, IntKind.u64.wrap x88_ = x89_ ∧
 0 ≤ (1 : Int) ∧ ∃ x90_, shrI .u64 x89_ (1 : Int) = x90_ ∧
 ∃ x91_, IntKind.i64.wrap x90_ = x91_ ∧
 ∃ b_7 o_6, datap_ = some ⟨b_7, o_6, none⟩ ∧ 0 ≤ m_ ∧ m_ < (datan_ : Int) ∧
 ∃ x96_ : Option Addr, cellsAt q_5 b_7 (o_6 + Int.toNat m_ * 1) [(.pointer x96_)] ∧
 ∃ b_8 o_7, datap_ = some ⟨b_8, o_7, none⟩ ∧ 0 ≤ x91_ ∧ x91_ < (datan_ : Int) ∧
 ∃ x100_ : Option Addr, cellsAt q_5 b_8 (o_7 + Int.toNat x91_ * 1) [(.pointer x100_)] ∧
 ∃ fn_1 fst_1 cap_1, cmp_ = Value.func (.func fn_1) fst_1 cap_1 ∧ bodied Tryz.prog fn_1 = true ∧
 CallsH Tryz.prog fn_1 (fst_1.toList ++ [(Value.pointer x96_), (.pointer x100_)] ++ cap_1.toList).toArray q_5 fun en_1 q_6 =>
 ∃ x101_ : Int, en_1 = .returned (.int .i64 x101_) ∧
 (((!(decide (x101_ < (0 : Int)))) = true →
 ∃ x105_, IntKind.i64.wrap (x91_ + (1 : Int)) = x105_ ∧
 (Iv_2 [(.int .i64 x105_), (.int .i64 j_1)] q_6 ∧ m_3 [(.int .i64 x105_), (.int .i64 j_1)] q_6 < m_3 [(.int .i64 i_1), (.int .i64 j_1)] q_5)) ∧
 ((!(decide (x101_ < (0 : Int)))) = false →
 (Iv_2 [(.int .i64 i_1), (.int .i64 x91_)] q_6 ∧ m_3 [(.int .i64 i_1), (.int .i64 x91_)] q_6 < m_3 [(.int .i64 i_1), (.int .i64 j_1)] q_5)))) ∧
 ((decide (i_1 < j_1)) = false →
 ∃ (Iv_3 : List Value → Hp → Prop) (m_4 : List Value → Hp → Nat), Iv_3 [(.int .i64 m_)] q_5 ∧
 (∀ (k_1 : Int) q_7, Iv_3 [(.int .i64 k_1)] q_7 →
 (((decide (i_1 < k_1)) = true →
 ∃ x117_, IntKind.i64.wrap (k_1 - (1 : Int)) = x117_ ∧
 ∃ x120_, IntKind.i64.wrap (k_1 - (1 : Int)) = x120_ ∧
 ∃ b_9 o_8, datap_ = some ⟨b_9, o_8, none⟩ ∧ 0 ≤ x120_ ∧ x120_ < (datan_ : Int) ∧
 ∃ x122_ : Option Addr, cellsAt q_7 b_9 (o_8 + Int.toNat x120_ * 1) [(.pointer x122_)] ∧
 ∃ b_10 o_9, datap_ = some ⟨b_10, o_9, none⟩ ∧ 0 ≤ k_1 ∧ k_1 < (datan_ : Int) ∧
 ∃ x126_ : Option Addr, cellsAt q_7 b_10 (o_9 + Int.toNat k_1 * 1) [(.pointer x126_)] ∧
 ∃ b_11 o_10, datap_ = some ⟨b_11, o_10, none⟩ ∧ 0 ≤ k_1 ∧ k_1 < (datan_ : Int) ∧
 Value.oneCell' (.pointer x122_) = true ∧ wrAt q_7 b_11 (o_10 + Int.toNat k_1 * 1) 1 ∧ ∀ q_8, q_8 = setsH q_7 b_11 (o_10 + Int.toNat k_1 * 1) [(.pointer x122_)] →
 ∃ b_12 o_11, datap_ = some ⟨b_12, o_11, none⟩ ∧ 0 ≤ x117_ ∧ x117_ < (datan_ : Int) ∧
 Value.oneCell' (.pointer x126_) = true ∧ wrAt q_8 b_12 (o_11 + Int.toNat x117_ * 1) 1 ∧ ∀ q_9, q_9 = setsH q_8 b_12 (o_11 + Int.toNat x117_ * 1) [(.pointer x126_)] →
 ∃ x112_, IntKind.i64.wrap (k_1 - (1 : Int)) = x112_ ∧
 (Iv_3 [(.int .i64 x112_)] q_9 ∧ m_4 [(.int .i64 x112_)] q_9 < m_4 [(.int .i64 k_1)] q_7)) ∧
 ((decide (i_1 < k_1)) = false →
 R (.returned (.tuple #[])) q_7))))))) ∧
 ((decide (x79_ = (1 : Int))) = false →
 ∃ x131_, IntKind.i64.wrap (a_ + b_) = x131_ ∧
 ∃ x132_, IntKind.u64.wrap x131_ = x132_ ∧
 0 ≤ (1 : Int) ∧ ∃ x133_, shrI .u64 x132_ (1 : Int) = x133_ ∧
 ∃ x134_, IntKind.i64.wrap x133_ = x134_ ∧
 ∃ x137_, IntKind.i64.wrap (x134_ + m_) = x137_ ∧
 ∃ Jv_ : List Value → Hp → Prop,
 ((((decide (x134_ < m_)) = true →
 ∃ x143_, IntKind.i64.wrap (x137_ - b_) = x143_ ∧
 Jv_ [(.int .i64 x143_), (.int .i64 x134_)] h) ∧
 ((decide (x134_ < m_)) = false →
 Jv_ [(.int .i64 a_), (.int .i64 m_)] h))) ∧
 (∀ (start_ : Int) (r_ : Int) q_10, Jv_ [(.int .i64 start_), (.int .i64 r_)] q_10 →
 ∃ x148_, IntKind.i64.wrap (x137_ - (1 : Int)) = x148_ ∧
 ∃ (Iv_4 : List Value → Hp → Prop) (m_5 : List Value → Hp → Nat), Iv_4 [(.int .i64 start_), (.int .i64 r_)] q_10 ∧
 (∀ (start_1 : Int) (r_1 : Int) q_11, Iv_4 [(.int .i64 start_1), (.int .i64 r_1)] q_11 →
 (((decide (start_1 < r_1)) = true →
 ∃ x154_, IntKind.i64.wrap (start_1 + r_1) = x154_ ∧
 ∃ x155_, IntKind.u64.wrap x154_ = x155_ ∧
 0 ≤ (1 : Int) ∧ ∃ x156_, shrI .u64 x155_ (1 : Int) = x156_ ∧
 ∃ x157_, IntKind.i64.wrap x156_ = x157_ ∧
 ∃ x162_, IntKind.i64.wrap (x148_ - x157_) = x162_ ∧
 ∃ b_13 o_12, datap_ = some ⟨b_13, o_12, none⟩ ∧ 0 ≤ x162_ ∧ x162_ < (datan_ : Int) ∧
 ∃ x164_ : Option Addr, cellsAt q_11 b_13 (o_12 + Int.toNat x162_ * 1) [(.pointer x164_)] ∧
 ∃ b_14 o_13, datap_ = some ⟨b_14, o_13, none⟩ ∧ 0 ≤ x157_ ∧ x157_ < (datan_ : Int) ∧
 ∃ x168_ : Option Addr, cellsAt q_11 b_14 (o_13 + Int.toNat x157_ * 1) [(.pointer x168_)] ∧
 ∃ fn_2 fst_2 cap_2, cmp_ = Value.func (.func fn_2) fst_2 cap_2 ∧ bodied Tryz.prog fn_2 = true ∧
 CallsH Tryz.prog fn_2 (fst_2.toList ++ [(Value.pointer x164_), (.pointer x168_)] ++ cap_2.toList).toArray q_11 fun en_2 q_12 =>
 ∃ x169_ : Int, en_2 = .returned (.int .i64 x169_) ∧
 (((!(decide (x169_ < (0 : Int)))) = true →
 ∃ x173_, IntKind.i64.wrap (x157_ + (1 : Int)) = x173_ ∧
 (Iv_4 [(.int .i64 x173_), (.int .i64 r_1)] q_12 ∧ m_5 [(.int .i64 x173_), (.int .i64 r_1)] q_12 < m_5 [(.int .i64 start_1), (.int .i64 r_1)] q_11)) ∧
 ((!(decide (x169_ < (0 : Int)))) = false →
 (Iv_4 [(.int .i64 start_1), (.int .i64 x157_)] q_12 ∧ m_5 [(.int .i64 start_1), (.int .i64 x157_)] q_12 < m_5 [(.int .i64 start_1), (.int .i64 r_1)] q_11)))) ∧
 ((decide (start_1 < r_1)) = false →
 ∃ x177_, IntKind.i64.wrap (x137_ - start_1) = x177_ ∧
 ∃ Jv_1 : List Value → Hp → Prop,
 (∃ B_ : Bool, ((((decide (start_1 < m_)) = true →
 q_11 = q_11 ∧ B_ = (decide (m_ < x177_))) ∧
 ((decide (start_1 < m_)) = false →
 q_11 = q_11 ∧ B_ = false))) ∧
 ((B_ = true →
 CallsH Tryz.prog 210 #[(.slice datap_ datan_ datac_), (.int .i64 start_1), (.int .i64 m_), (.int .i64 x177_), cmp_] q_11 fun en_3 q_13 =>
 en_3 = .returned (.tuple #[]) ∧
 Jv_1 [] q_13) ∧
 (B_ = false →
 Jv_1 [] q_11))) ∧
 (∀  q_14, Jv_1 [] q_14 →
 ∃ Jv_2 : List Value → Hp → Prop,
 (∃ B_1 : Bool, ((((decide (a_ < start_1)) = true →
 q_14 = q_14 ∧ B_1 = (decide (start_1 < x134_))) ∧
 ((decide (a_ < start_1)) = false →
 q_14 = q_14 ∧ B_1 = false))) ∧
 ((B_1 = true →
 CallsH Tryz.prog 204 #[(.slice datap_ datan_ datac_), (.int .i64 a_), (.int .i64 start_1), (.int .i64 x134_), cmp_] q_14 fun en_4 q_15 =>
 en_4 = .returned (.tuple #[]) ∧
 Jv_2 [] q_15) ∧
 (B_1 = false →
 Jv_2 [] q_14))) ∧
 (∀  q_16, Jv_2 [] q_16 →
 ∃ B_2 : Bool, ((((decide (x134_ < x177_)) = true →
 q_16 = q_16 ∧ B_2 = (decide (x177_ < b_))) ∧
 ((decide (x134_ < x177_)) = false →
 q_16 = q_16 ∧ B_2 = false))) ∧
 ((B_2 = true →
 CallsH Tryz.prog 204 #[(.slice datap_ datan_ datac_), (.int .i64 x134_), (.int .i64 x177_), (.int .i64 b_), cmp_] q_16 fun en_5 q_17 =>
 en_5 = .returned (.tuple #[]) ∧
 R (.returned (.tuple #[])) q_17) ∧
 (B_2 = false →
 R (.returned (.tuple #[])) q_16))))))))))))) :
 CallsH Tryz.prog 204 #[(.slice datap_ datan_ datac_), (.int .i64 a_), (.int .i64 m_), (.int .i64 b_), cmp_] h R := calls_vc fine false Tryz.func204 (ann := A204) (args := [(.slice datap_ datan_ datac_), (.int .i64 a_), (.int .i64 m_), (.int .i64 b_), cmp_]) (by kernel_rfl) (Eq.mpr (by kernel_rfl) H)
def A210 : Ann := (.seq .nil (.seq .nil (.seq (.block (.loop [(10, (.int .i64)), (11, (.int .i64))] (.seq (.seq .nil (.cond .nil .nil)) (.block (.seq .nil (.cond (.seq .nil .nil) (.seq .nil .nil))))))) .nil)))
theorem V210 (datap_ : Option Addr) (datan_ datac_ : Nat) (a_ : Int) (m_ : Int) (b_ : Int) (cmp_ : Value) (h : Hp) (R : Ending → Hp → Prop) (H :
 ∃ x14_, IntKind.i64.wrap (m_ - a_) = x14_ ∧
 ∃ x17_, IntKind.i64.wrap (b_ - m_) = x17_ ∧
 ∃ (Iv_ : List Value → Hp → Prop) (m_1 : List Value → Hp → Nat), Iv_ [(.int .i64 x14_), (.int .i64 x17_)] h ∧
 (∀ (i_ : Int) (j_ : Int) q_, Iv_ [(.int .i64 i_), (.int .i64 j_)] q_ →
 (((decide (i_ ≠ j_)) = true →
 (((decide (j_ < i_)) = true →
 ∃ x27_, IntKind.i64.wrap (m_ - i_) = x27_ ∧
 CallsH Tryz.prog 212 #[(.slice datap_ datan_ datac_), (.int .i64 x27_), (.int .i64 m_), (.int .i64 j_), cmp_] q_ fun en_ q_1 =>
 en_ = .returned (.tuple #[]) ∧
 ∃ x34_, IntKind.i64.wrap (i_ - j_) = x34_ ∧
 (Iv_ [(.int .i64 x34_), (.int .i64 j_)] q_1 ∧ m_1 [(.int .i64 x34_), (.int .i64 j_)] q_1 < m_1 [(.int .i64 i_), (.int .i64 j_)] q_)) ∧
 ((decide (j_ < i_)) = false →
 ∃ x38_, IntKind.i64.wrap (m_ - i_) = x38_ ∧
 ∃ x41_, IntKind.i64.wrap (m_ + j_) = x41_ ∧
 ∃ x43_, IntKind.i64.wrap (x41_ - i_) = x43_ ∧
 CallsH Tryz.prog 212 #[(.slice datap_ datan_ datac_), (.int .i64 x38_), (.int .i64 x43_), (.int .i64 i_), cmp_] q_ fun en_1 q_2 =>
 en_1 = .returned (.tuple #[]) ∧
 ∃ x49_, IntKind.i64.wrap (j_ - i_) = x49_ ∧
 (Iv_ [(.int .i64 i_), (.int .i64 x49_)] q_2 ∧ m_1 [(.int .i64 i_), (.int .i64 x49_)] q_2 < m_1 [(.int .i64 i_), (.int .i64 j_)] q_)))) ∧
 ((decide (i_ ≠ j_)) = false →
 ∃ x53_, IntKind.i64.wrap (m_ - i_) = x53_ ∧
 CallsH Tryz.prog 212 #[(.slice datap_ datan_ datac_), (.int .i64 x53_), (.int .i64 m_), (.int .i64 i_), cmp_] q_ fun en_2 q_3 =>
 en_2 = .returned (.tuple #[]) ∧
 R (.returned (.tuple #[])) q_3)))) :
 CallsH Tryz.prog 210 #[(.slice datap_ datan_ datac_), (.int .i64 a_), (.int .i64 m_), (.int .i64 b_), cmp_] h R := calls_vc fine false Tryz.func210 (ann := A210) (args := [(.slice datap_ datan_ datac_), (.int .i64 a_), (.int .i64 m_), (.int .i64 b_), cmp_]) (by kernel_rfl) (Eq.mpr (by kernel_rfl) H)
def A212 : Ann := (.seq .nil (.block (.loop [(10, (.int .i64))] (.seq (.seq .nil (.cond .nil .nil)) (.seq (.block .nil) .nil)))))
theorem V212 (datap_ : Option Addr) (datan_ datac_ : Nat) (a_ : Int) (b_ : Int) (n_ : Int) (cmp_ : Value) (h : Hp) (R : Ending → Hp → Prop) (H :
 ∃ (Iv_ : List Value → Hp → Prop) (m_ : List Value → Hp → Nat), Iv_ [(.int .i64 (0 : Int))] h ∧
 (∀ (i_ : Int) q_, Iv_ [(.int .i64 i_)] q_ →
 (((decide (i_ < n_)) = true →
 ∃ x19_, IntKind.i64.wrap (a_ + i_) = x19_ ∧
 ∃ x23_, IntKind.i64.wrap (b_ + i_) = x23_ ∧
 ∃ x27_, IntKind.i64.wrap (b_ + i_) = x27_ ∧
 ∃ b_1 o_, datap_ = some ⟨b_1, o_, none⟩ ∧ 0 ≤ x27_ ∧ x27_ < (datan_ : Int) ∧
 ∃ x29_ : Option Addr, cellsAt q_ b_1 (o_ + Int.toNat x27_ * 1) [(.pointer x29_)] ∧
 ∃ x33_, IntKind.i64.wrap (a_ + i_) = x33_ ∧
 ∃ b_2 o_1, datap_ = some ⟨b_2, o_1, none⟩ ∧ 0 ≤ x33_ ∧ x33_ < (datan_ : Int) ∧
 ∃ x35_ : Option Addr, cellsAt q_ b_2 (o_1 + Int.toNat x33_ * 1) [(.pointer x35_)] ∧
 ∃ b_3 o_2, datap_ = some ⟨b_3, o_2, none⟩ ∧ 0 ≤ x19_ ∧ x19_ < (datan_ : Int) ∧
 Value.oneCell' (.pointer x29_) = true ∧ wrAt q_ b_3 (o_2 + Int.toNat x19_ * 1) 1 ∧ ∀ q_1, q_1 = setsH q_ b_3 (o_2 + Int.toNat x19_ * 1) [(.pointer x29_)] →
 ∃ b_4 o_3, datap_ = some ⟨b_4, o_3, none⟩ ∧ 0 ≤ x23_ ∧ x23_ < (datan_ : Int) ∧
 Value.oneCell' (.pointer x35_) = true ∧ wrAt q_1 b_4 (o_3 + Int.toNat x23_ * 1) 1 ∧ ∀ q_2, q_2 = setsH q_1 b_4 (o_3 + Int.toNat x23_ * 1) [(.pointer x35_)] →
 ∃ x15_, IntKind.i64.wrap (i_ + (1 : Int)) = x15_ ∧
 (Iv_ [(.int .i64 x15_)] q_2 ∧ m_ [(.int .i64 x15_)] q_2 < m_ [(.int .i64 i_)] q_)) ∧
 ((decide (i_ < n_)) = false →
 R (.returned (.tuple #[])) q_)))) :
 CallsH Tryz.prog 212 #[(.slice datap_ datan_ datac_), (.int .i64 a_), (.int .i64 b_), (.int .i64 n_), cmp_] h R := calls_vc fine false Tryz.func212 (ann := A212) (args := [(.slice datap_ datan_ datac_), (.int .i64 a_), (.int .i64 b_), (.int .i64 n_), cmp_]) (by kernel_rfl) (Eq.mpr (by kernel_rfl) H)
end Go.Vc
