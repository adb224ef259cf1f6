import Derived.Test.YtebcmlfccfchoaaVcE
import Derived.Test.YtebcmlfccfchoaaProg
set_option maxRecDepth 10000
namespace Go.Vc
open Go Go.Proofs
set_option maxRecDepth 100000
theorem fine : Fine Try.prog := fine_of (by kernel_rfl) (by kernel_rfl)
/-- turnout/turnoutlaw04.DiskKept -/
def A3 : Ann := (.seq .nil (.seq .nil (.seq .nil (.seq .nil (.seq .nil (.seq .nil (.seq .nil (.seq .nil (.cut (.seq (.join 66) (.cond (.seq .nil .nil) .nil)) [] (.seq .nil (.seq .nil (.seq .nil (.seq .nil (.seq (.seq .nil (.block (.loop [(17, .slice), (18, .slice), (19, .slice), (20, (.int .i64))] (.seq (.seq .nil (.cond .nil .nil)) (.seq (.block (.seq .nil (.seq .nil .nil))) .nil))))) (.seq .nil (.seq .nil (.seq .nil (.seq .nil (.seq .nil .nil)))))))))))))))))))
theorem V3 (sectors_ : Int) (firstp_ : Option Addr) (firstn_ firstc_ : Nat) (behindp_ : Option Addr) (behindn_ behindc_ : Nat) (more_ : Int) (h : Hp) (R : Ending → Hp → Prop) (H :
  CallsH Try.prog 11 #[] h fun en_ hp_ =>
  ∃ x22_ : Bool, en_ = .returned (Value.bool x22_) ∧
  CallsH Try.prog 12 #[(Value.int .i64 sectors_), (Value.int .i64 (6 : Int))] hp_ fun en_1 hp_1 =>
  ∃ x24_ : Int, en_1 = .returned (Value.int .i64 x24_) ∧
  ∃ x25_, IntKind.i64.wrap ((1 : Int) + x24_) = x25_ ∧
  CallsH Try.prog 13 #[(Value.int .i64 x25_), (Value.slice firstp_ firstn_ firstc_), (Value.slice behindp_ behindn_ behindc_)] hp_1 fun en_2 hp_2 =>
  ∃ x29_ : Option Addr, en_2 = .returned (Value.pointer x29_) ∧
  CallsH Try.prog 13 #[(Value.int .i64 x25_), (Value.slice firstp_ firstn_ firstc_), (Value.slice behindp_ behindn_ behindc_)] hp_2 fun en_3 hp_3 =>
  ∃ x33_ : Option Addr, en_3 = .returned (Value.pointer x33_) ∧
  CallsH Try.prog 13 #[(Value.int .i64 x25_), (Value.slice firstp_ firstn_ firstc_), (Value.slice behindp_ behindn_ behindc_)] hp_3 fun en_4 hp_4 =>
  ∃ x37_ : Option Addr, en_4 = .returned (Value.pointer x37_) ∧
  CallsH Try.prog 13 #[(Value.int .i64 x25_), (Value.slice firstp_ firstn_ firstc_), (Value.slice behindp_ behindn_ behindc_)] hp_4 fun en_5 hp_5 =>
  ∃ x41_ : Option Addr, en_5 = .returned (Value.pointer x41_) ∧
  CallsH Try.prog 13 #[(Value.int .i64 x25_), (Value.slice firstp_ firstn_ firstc_), (Value.slice none 0 0)] hp_5 fun en_6 hp_6 =>
  ∃ x44_ : Option Addr, en_6 = .returned (Value.pointer x44_) ∧
  ∃ Jv_ : List Value → Hp → Prop,
  (∃ B_ : Bool, ((((!x22_) = true →
      hp_6 = hp_6 ∧ B_ = true) ∧
     ((!x22_) = false →
      ∃ x49_, EqV Try.prog 25 (Value.pointer x29_) (Value.pointer none) x49_ ∧
      ((x49_ = true →
        hp_6 = hp_6 ∧ B_ = true) ∧
       (x49_ = false →
        ∃ x53_, EqV Try.prog 25 (Value.pointer x33_) (Value.pointer none) x53_ ∧
        ((x53_ = true →
          hp_6 = hp_6 ∧ B_ = true) ∧
         (x53_ = false →
          ∃ x57_, EqV Try.prog 25 (Value.pointer x37_) (Value.pointer none) x57_ ∧
          ((x57_ = true →
            hp_6 = hp_6 ∧ B_ = true) ∧
           (x57_ = false →
            ∃ x61_, EqV Try.prog 25 (Value.pointer x41_) (Value.pointer none) x61_ ∧
            ((x61_ = true →
              hp_6 = hp_6 ∧ B_ = true) ∧
             (x61_ = false →
              ∃ x65_, EqV Try.prog 25 (Value.pointer x44_) (Value.pointer none) x65_ ∧
              hp_6 = hp_6 ∧ B_ = x65_))))))))))) ∧
   ((B_ = true →
     R (.returned (Value.bool false)) hp_6) ∧
    (B_ = false →
     Jv_ [] hp_6))) ∧
  (∀  hp_7, Jv_ [] hp_7 →
   CallsH Try.prog 14 #[(Value.pointer x44_)] hp_7 fun en_7 hp_8 =>
   ∃ x68_ : ByteArray, en_7 = .returned (Value.string x68_) ∧
   ∃ (Iv_ : List Value → Hp → Prop) (m_ : List Value → Hp → Nat), Iv_ [(Value.slice none 0 0), (Value.slice none 0 0), (Value.slice none 0 0), (Value.int .i64 (0 : Int))] hp_8 ∧
   (∀ (keptp_ : Option Addr) (keptn_ keptc_ : Nat) (tornp_ : Option Addr) (tornn_ tornc_ : Nat) (nonep_ : Option Addr) (nonen_ nonec_ : Nat) (i_ : Int) hp_9, Iv_ [(Value.slice keptp_ keptn_ keptc_), (Value.slice tornp_ tornn_ tornc_), (Value.slice nonep_ nonen_ nonec_), (Value.int .i64 i_)] hp_9 →
    CallsH Try.prog 12 #[(Value.int .i64 more_), (Value.int .i64 (3 : Int))] hp_9 fun en_8 hp_10 =>
    ∃ x73_ : Int, en_8 = .returned (Value.int .i64 x73_) ∧
    ∃ x74_, IntKind.i64.wrap (((behindn_ : Nat) : Int) + x73_) = x74_ ∧
    (((decide (i_ < x74_)) = true →
      SemH Try.prog (Instr.buildSlice 28 1 #[(0, (Value.agg #[(Value.int .i64 (1 : Int)), (Value.int .i64 more_)]))]) hp_10 fun v_ hp_11 =>
      ∃ (x81p_ : Option Addr) (x81n_ x81c_ : Nat), v_ = (Value.slice x81p_ x81n_ x81c_) ∧
      SemH Try.prog (Builtin.append_ #[28, 28] 28 #[(Value.slice keptp_ keptn_ keptc_), (Value.slice x81p_ x81n_ x81c_)]) hp_11 fun v_1 hp_12 =>
      ∃ (x82p_ : Option Addr) (x82n_ x82c_ : Nat), v_1 = (Value.slice x82p_ x82n_ x82c_) ∧
      CallsH Try.prog 12 #[(Value.int .i64 more_), (Value.int .i64 (9 : Int))] hp_12 fun en_9 hp_13 =>
      ∃ x85_ : Int, en_9 = .returned (Value.int .i64 x85_) ∧
      ∃ x86_, IntKind.i64.wrap ((512 : Int) + x85_) = x86_ ∧
      SemH Try.prog (Instr.buildSlice 28 1 #[(0, (Value.agg #[(Value.int .i64 (2 : Int)), (Value.int .i64 x86_)]))]) hp_13 fun v_2 hp_14 =>
      ∃ (x88p_ : Option Addr) (x88n_ x88c_ : Nat), v_2 = (Value.slice x88p_ x88n_ x88c_) ∧
      SemH Try.prog (Builtin.append_ #[28, 28] 28 #[(Value.slice tornp_ tornn_ tornc_), (Value.slice x88p_ x88n_ x88c_)]) hp_14 fun v_3 hp_15 =>
      ∃ (x89p_ : Option Addr) (x89n_ x89c_ : Nat), v_3 = (Value.slice x89p_ x89n_ x89c_) ∧
      CallsH Try.prog 12 #[(Value.int .i64 more_), (Value.int .i64 (9 : Int))] hp_15 fun en_10 hp_16 =>
      ∃ x92_ : Int, en_10 = .returned (Value.int .i64 x92_) ∧
      ∃ x93_, IntKind.i64.wrap (0 - x92_) = x93_ ∧
      SemH Try.prog (Instr.buildSlice 28 1 #[(0, (Value.agg #[(Value.int .i64 (2 : Int)), (Value.int .i64 x93_)]))]) hp_16 fun v_4 hp_17 =>
      ∃ (x95p_ : Option Addr) (x95n_ x95c_ : Nat), v_4 = (Value.slice x95p_ x95n_ x95c_) ∧
      SemH Try.prog (Builtin.append_ #[28, 28] 28 #[(Value.slice nonep_ nonen_ nonec_), (Value.slice x95p_ x95n_ x95c_)]) hp_17 fun v_5 hp_18 =>
      ∃ (x96p_ : Option Addr) (x96n_ x96c_ : Nat), v_5 = (Value.slice x96p_ x96n_ x96c_) ∧
      ∃ x77_, IntKind.i64.wrap (i_ + (1 : Int)) = x77_ ∧
      (Iv_ [(Value.slice x82p_ x82n_ x82c_), (Value.slice x89p_ x89n_ x89c_), (Value.slice x96p_ x96n_ x96c_), (Value.int .i64 x77_)] hp_18 ∧ m_ [(Value.slice x82p_ x82n_ x82c_), (Value.slice x89p_ x89n_ x89c_), (Value.slice x96p_ x96n_ x96c_), (Value.int .i64 x77_)] hp_18 < m_ [(Value.slice keptp_ keptn_ keptc_), (Value.slice tornp_ tornn_ tornc_), (Value.slice nonep_ nonen_ nonec_), (Value.int .i64 i_)] hp_9)) ∧
     ((decide (i_ < x74_)) = false →
      CallsH Try.prog 15 #[(Value.pointer x29_)] hp_10 fun en_11 hp_19 =>
      ∃ x98_ : Int, en_11 = .returned (Value.int .i64 x98_) ∧
      CallsH Try.prog 16 #[(Value.pointer x33_), (Value.slice keptp_ keptn_ keptc_)] hp_19 fun en_12 hp_20 =>
      en_12 = .returned (Value.tuple #[]) ∧
      CallsH Try.prog 16 #[(Value.pointer x37_), (Value.slice tornp_ tornn_ tornc_)] hp_20 fun en_13 hp_21 =>
      en_13 = .returned (Value.tuple #[]) ∧
      CallsH Try.prog 16 #[(Value.pointer x41_), (Value.slice nonep_ nonen_ nonec_)] hp_21 fun en_14 hp_22 =>
      en_14 = .returned (Value.tuple #[]) ∧
      (((decide (x98_ = (0 : Int))) = true →
        CallsH Try.prog 14 #[(Value.pointer x33_)] hp_22 fun en_15 hp_23 =>
        ∃ x112_ : ByteArray, en_15 = .returned (Value.string x112_) ∧
        CallsH Try.prog 14 #[(Value.pointer x29_)] hp_23 fun en_16 hp_24 =>
        ∃ x114_ : ByteArray, en_16 = .returned (Value.string x114_) ∧
        (((decide (x112_ = x114_)) = true →
          CallsH Try.prog 14 #[(Value.pointer x37_)] hp_24 fun en_17 hp_25 =>
          ∃ x119_ : ByteArray, en_17 = .returned (Value.string x119_) ∧
          CallsH Try.prog 14 #[(Value.pointer x29_)] hp_25 fun en_18 hp_26 =>
          ∃ x121_ : ByteArray, en_18 = .returned (Value.string x121_) ∧
          (((decide (x119_ = x121_)) = true →
            CallsH Try.prog 14 #[(Value.pointer x41_)] hp_26 fun en_19 hp_27 =>
            ∃ x126_ : ByteArray, en_19 = .returned (Value.string x126_) ∧
            R (.returned (Value.bool (decide (x126_ = x68_)))) hp_27) ∧
           ((decide (x119_ = x121_)) = false →
            R (.returned (Value.bool false)) hp_26))) ∧
         ((decide (x112_ = x114_)) = false →
          R (.returned (Value.bool false)) hp_24))) ∧
       ((decide (x98_ = (0 : Int))) = false →
        R (.returned (Value.bool false)) hp_22))))))) :
  CallsH Try.prog 3 #[(Value.int .i64 sectors_), (Value.slice firstp_ firstn_ firstc_), (Value.slice behindp_ behindn_ behindc_), (Value.int .i64 more_)] h R := calls_vc fine false Try.func3 (ann := A3) (args := [(Value.int .i64 sectors_), (Value.slice firstp_ firstn_ firstc_), (Value.slice behindp_ behindn_ behindc_), (Value.int .i64 more_)]) (by kernel_rfl) (Eq.mpr (by kernel_rfl) H)
/-- turnout/turnoutlaw04.DiskFates -/
def A4 : Ann := (.seq .nil (.seq .nil (.seq .nil (.cut (.seq .nil (.cond .nil .nil)) [(8, (.int .i64))] (.seq .nil (.cut (.seq (.join 31) (.cond (.seq .nil .nil) .nil)) [] (.seq .nil (.cut (.seq .nil (.block (.loop [(11, (.int .i64))] (.cut (.seq (.join 42) (.cond .nil .nil)) [] (.seq (.block (.seq .nil (.seq .nil (.cond (.seq .nil .nil) .nil)))) .nil))))) [] (.seq .nil (.seq .nil (.cut (.seq (.join 77) (.cond (.seq .nil .nil) .nil)) [] (.seq (.seq .nil (.block (.loop [(14, (.int .i64))] (.seq (.seq .nil (.cond .nil .nil)) (.seq (.block (.seq .nil (.seq (.seq (.join 95) (.cond (.seq .nil (.block (.seq (.join 107) (.cond .nil (.seq (.join 131) (.cond .nil .nil)))))) .nil)) (.seq .nil (.cond (.seq .nil .nil) .nil))))) .nil))))) (.seq .nil .nil)))))))))))))
theorem V4 (firstp_ : Option Addr) (firstn_ firstc_ : Nat) (behindp_ : Option Addr) (behindn_ behindc_ : Nat) (fatesp_ : Option Addr) (fatesn_ fatesc_ : Nat) (h : Hp) (R : Ending → Hp → Prop) (H :
  CallsH Try.prog 11 #[] h fun en_ hp_ =>
  ∃ x17_ : Bool, en_ = .returned (Value.bool x17_) ∧
  ∃ x20_, IntKind.i64.wrap ((1 : Int) + ((behindn_ : Nat) : Int)) = x20_ ∧
  ∃ Jv_ : List Value → Hp → Prop,
  ((((decide ((60 : Int) < x20_)) = true →
     Jv_ [(Value.int .i64 (60 : Int))] hp_) ∧
    ((decide ((60 : Int) < x20_)) = false →
     Jv_ [(Value.int .i64 x20_)] hp_))) ∧
  (∀ (n_ : Int) hp_1, Jv_ [(Value.int .i64 n_)] hp_1 →
   CallsH Try.prog 13 #[(Value.int .i64 n_), (Value.slice firstp_ firstn_ firstc_), (Value.slice none 0 0)] hp_1 fun en_1 hp_2 =>
   ∃ x25_ : Option Addr, en_1 = .returned (Value.pointer x25_) ∧
   ∃ Jv_1 : List Value → Hp → Prop,
   (∃ B_ : Bool, ((((!x17_) = true →
       hp_2 = hp_2 ∧ B_ = true) ∧
      ((!x17_) = false →
       ∃ x30_, EqV Try.prog 25 (Value.pointer x25_) (Value.pointer none) x30_ ∧
       hp_2 = hp_2 ∧ B_ = x30_))) ∧
    ((B_ = true →
      R (.returned (Value.bool false)) hp_2) ∧
     (B_ = false →
      Jv_1 [] hp_2))) ∧
   (∀  hp_3, Jv_1 [] hp_3 →
    CallsH Try.prog 14 #[(Value.pointer x25_)] hp_3 fun en_2 hp_4 =>
    ∃ x33_ : ByteArray, en_2 = .returned (Value.string x33_) ∧
    ∃ Jv_2 : List Value → Hp → Prop,
    (∃ (Iv_ : List Value → Hp → Prop) (m_ : List Value → Hp → Nat), Iv_ [(Value.int .i64 (0 : Int))] hp_4 ∧
     (∀ (i_ : Int) hp_5, Iv_ [(Value.int .i64 i_)] hp_5 →
      ∃ Jv_3 : List Value → Hp → Prop,
      (∃ B_1 : Bool, ((((decide (i_ < n_)) = true →
          hp_5 = hp_5 ∧ B_1 = (decide (i_ < ((behindn_ : Nat) : Int)))) ∧
         ((decide (i_ < n_)) = false →
          hp_5 = hp_5 ∧ B_1 = false))) ∧
       ((B_1 = true →
         Jv_3 [] hp_5) ∧
        (B_1 = false →
         Jv_2 [] hp_5))) ∧
      (∀  hp_6, Jv_3 [] hp_6 →
       ∃ b_ o_, behindp_ = some ⟨b_, o_, none⟩ ∧ 0 ≤ i_ ∧ i_ < (behindn_ : Int) ∧
       ∃ x51_ : Int, cellsAt hp_6 b_ ((o_ + Int.toNat i_ * 3) + 1) [(Value.int .u8 x51_)] ∧
       ∃ b_1 o_1, behindp_ = some ⟨b_1, o_1, none⟩ ∧ 0 ≤ i_ ∧ i_ < (behindn_ : Int) ∧
       ∃ x56_ : Int, cellsAt hp_6 b_1 ((o_1 + Int.toNat i_ * 3) + 2) [(Value.int .u8 x56_)] ∧
       CallsH Try.prog 18 #[(Value.int .u8 x51_), (Value.int .u8 x56_)] hp_6 fun en_3 hp_7 =>
       ∃ x57_ : ByteArray, en_3 = .returned (Value.string x57_) ∧
       CallsH Try.prog 17 #[(Value.pointer x25_), (Value.int .i64 i_), (Value.string x57_)] hp_7 fun en_4 hp_8 =>
       ∃ x58_ : Int, en_4 = .returned (Value.int .i64 x58_) ∧
       (((decide (x58_ ≠ (0 : Int))) = true →
         R (.returned (Value.bool false)) hp_8) ∧
        ((decide (x58_ ≠ (0 : Int))) = false →
         ∃ x44_, IntKind.i64.wrap (i_ + (1 : Int)) = x44_ ∧
         (Iv_ [(Value.int .i64 x44_)] hp_8 ∧ m_ [(Value.int .i64 x44_)] hp_8 < m_ [(Value.int .i64 i_)] hp_5)))))) ∧
    (∀  hp_9, Jv_2 [] hp_9 →
     CallsH Try.prog 16 #[(Value.pointer x25_), (Value.slice fatesp_ fatesn_ fatesc_)] hp_9 fun en_5 hp_10 =>
     en_5 = .returned (Value.tuple #[]) ∧
     CallsH Try.prog 14 #[(Value.pointer x25_)] hp_10 fun en_6 hp_11 =>
     ∃ x65_ : ByteArray, en_6 = .returned (Value.string x65_) ∧
     ∃ Jv_4 : List Value → Hp → Prop,
     (∃ B_2 : Bool, (∃ x69_, IntKind.i64.wrap ((512 : Int) * n_) = x69_ ∧
       (((decide ((ByteArray.size x33_ : Int) ≠ x69_)) = true →
         hp_11 = hp_11 ∧ B_2 = true) ∧
        ((decide ((ByteArray.size x33_ : Int) ≠ x69_)) = false →
         ∃ x75_, IntKind.i64.wrap ((512 : Int) * n_) = x75_ ∧
         hp_11 = hp_11 ∧ B_2 = (decide ((ByteArray.size x65_ : Int) ≠ x75_))))) ∧
      ((B_2 = true →
        R (.returned (Value.bool false)) hp_11) ∧
       (B_2 = false →
        Jv_4 [] hp_11))) ∧
     (∀  hp_12, Jv_4 [] hp_12 →
      ∃ (Iv_1 : List Value → Hp → Prop) (m_1 : List Value → Hp → Nat), Iv_1 [(Value.int .i64 (0 : Int))] hp_12 ∧
      (∀ (i_1 : Int) hp_13, Iv_1 [(Value.int .i64 i_1)] hp_13 →
       (((decide (i_1 < n_)) = true →
         CallsH Try.prog 19 #[(Value.string x33_), (Value.int .i64 i_1)] hp_13 fun en_7 hp_14 =>
         ∃ x85_ : ByteArray, en_7 = .returned (Value.string x85_) ∧
         ∃ B_3 : Bool, ((((decide (i_1 < ((behindn_ : Nat) : Int))) = true →
            hp_14 = hp_14 ∧ B_3 = (decide (i_1 < ((fatesn_ : Nat) : Int)))) ∧
           ((decide (i_1 < ((behindn_ : Nat) : Int))) = false →
            hp_14 = hp_14 ∧ B_3 = false))) ∧
         ((B_3 = true →
           ∃ b_2 o_2, behindp_ = some ⟨b_2, o_2, none⟩ ∧ 0 ≤ i_1 ∧ i_1 < (behindn_ : Int) ∧
           ∃ x100_ : Int, cellsAt hp_14 b_2 ((o_2 + Int.toNat i_1 * 3) + 1) [(Value.int .u8 x100_)] ∧
           ∃ b_3 o_3, behindp_ = some ⟨b_3, o_3, none⟩ ∧ 0 ≤ i_1 ∧ i_1 < (behindn_ : Int) ∧
           ∃ x105_ : Int, cellsAt hp_14 b_3 ((o_3 + Int.toNat i_1 * 3) + 2) [(Value.int .u8 x105_)] ∧
           CallsH Try.prog 18 #[(Value.int .u8 x100_), (Value.int .u8 x105_)] hp_14 fun en_8 hp_15 =>
           ∃ x106_ : ByteArray, en_8 = .returned (Value.string x106_) ∧
           ∃ B_4 : Bool, (∃ b_4 o_4, fatesp_ = some ⟨b_4, o_4, none⟩ ∧ 0 ≤ i_1 ∧ i_1 < (fatesn_ : Int) ∧
            ∃ x112_ : Int, cellsAt hp_15 b_4 ((o_4 + Int.toNat i_1 * 2) + 0) [(Value.int .i64 x112_)] ∧
            (((decide (x112_ = (1 : Int))) = true →
              hp_15 = hp_15 ∧ B_4 = true) ∧
             ((decide (x112_ = (1 : Int))) = false →
              ∃ b_5 o_5, fatesp_ = some ⟨b_5, o_5, none⟩ ∧ 0 ≤ i_1 ∧ i_1 < (fatesn_ : Int) ∧
              ∃ x119_ : Int, cellsAt hp_15 b_5 ((o_5 + Int.toNat i_1 * 2) + 0) [(Value.int .i64 x119_)] ∧
              (((decide (x119_ = (2 : Int))) = true →
                ∃ b_6 o_6, fatesp_ = some ⟨b_6, o_6, none⟩ ∧ 0 ≤ i_1 ∧ i_1 < (fatesn_ : Int) ∧
                ∃ x126_ : Int, cellsAt hp_15 b_6 ((o_6 + Int.toNat i_1 * 2) + 1) [(Value.int .i64 x126_)] ∧
                hp_15 = hp_15 ∧ B_4 = (decide ((512 : Int) ≤ x126_))) ∧
               ((decide (x119_ = (2 : Int))) = false →
                hp_15 = hp_15 ∧ B_4 = false))))) ∧
           ((B_4 = true →
             CallsH Try.prog 19 #[(Value.string x65_), (Value.int .i64 i_1)] hp_15 fun en_9 hp_16 =>
             ∃ x163_ : ByteArray, en_9 = .returned (Value.string x163_) ∧
             (((decide (x163_ ≠ x106_)) = true →
               R (.returned (Value.bool false)) hp_16) ∧
              ((decide (x163_ ≠ x106_)) = false →
               ∃ x82_, IntKind.i64.wrap (i_1 + (1 : Int)) = x82_ ∧
               (Iv_1 [(Value.int .i64 x82_)] hp_16 ∧ m_1 [(Value.int .i64 x82_)] hp_16 < m_1 [(Value.int .i64 i_1)] hp_13)))) ∧
            (B_4 = false →
             ∃ B_5 : Bool, (∃ b_7 o_7, fatesp_ = some ⟨b_7, o_7, none⟩ ∧ 0 ≤ i_1 ∧ i_1 < (fatesn_ : Int) ∧
              ∃ x136_ : Int, cellsAt hp_15 b_7 ((o_7 + Int.toNat i_1 * 2) + 0) [(Value.int .i64 x136_)] ∧
              (((decide (x136_ = (2 : Int))) = true →
                ∃ b_8 o_8, fatesp_ = some ⟨b_8, o_8, none⟩ ∧ 0 ≤ i_1 ∧ i_1 < (fatesn_ : Int) ∧
                ∃ x143_ : Int, cellsAt hp_15 b_8 ((o_8 + Int.toNat i_1 * 2) + 1) [(Value.int .i64 x143_)] ∧
                hp_15 = hp_15 ∧ B_5 = (decide ((0 : Int) < x143_))) ∧
               ((decide (x136_ = (2 : Int))) = false →
                hp_15 = hp_15 ∧ B_5 = false))) ∧
             ((B_5 = true →
               ∃ b_9 o_9, fatesp_ = some ⟨b_9, o_9, none⟩ ∧ 0 ≤ i_1 ∧ i_1 < (fatesn_ : Int) ∧
               ∃ x151_ : Int, cellsAt hp_15 b_9 ((o_9 + Int.toNat i_1 * 2) + 1) [(Value.int .i64 x151_)] ∧
               ∃ u_ : Nat, x151_ = (u_ : Int) ∧
               0 ≤ u_ ∧ u_ ≤ ByteArray.size x106_ ∧ ∃ x152_, ByteArray.extract x106_ 0 u_ = x152_ ∧
               ∃ b_10 o_10, fatesp_ = some ⟨b_10, o_10, none⟩ ∧ 0 ≤ i_1 ∧ i_1 < (fatesn_ : Int) ∧
               ∃ x158_ : Int, cellsAt hp_15 b_10 ((o_10 + Int.toNat i_1 * 2) + 1) [(Value.int .i64 x158_)] ∧
               ∃ l_ : Nat, x158_ = (l_ : Int) ∧
               l_ ≤ (ByteArray.size x85_) ∧ (ByteArray.size x85_) ≤ ByteArray.size x85_ ∧ ∃ x159_, ByteArray.extract x85_ l_ (ByteArray.size x85_) = x159_ ∧
               ByteArray.size x152_ + ByteArray.size x159_ ≤ 9223372036854775807 ∧ ∃ x160_, x152_ ++ x159_ = x160_ ∧
               CallsH Try.prog 19 #[(Value.string x65_), (Value.int .i64 i_1)] hp_15 fun en_10 hp_17 =>
               ∃ x163_1 : ByteArray, en_10 = .returned (Value.string x163_1) ∧
               (((decide (x163_1 ≠ x160_)) = true →
                 R (.returned (Value.bool false)) hp_17) ∧
                ((decide (x163_1 ≠ x160_)) = false →
                 ∃ x82_1, IntKind.i64.wrap (i_1 + (1 : Int)) = x82_1 ∧
                 (Iv_1 [(Value.int .i64 x82_1)] hp_17 ∧ m_1 [(Value.int .i64 x82_1)] hp_17 < m_1 [(Value.int .i64 i_1)] hp_13)))) ∧
              (B_5 = false →
               CallsH Try.prog 19 #[(Value.string x65_), (Value.int .i64 i_1)] hp_15 fun en_11 hp_18 =>
               ∃ x163_2 : ByteArray, en_11 = .returned (Value.string x163_2) ∧
               (((decide (x163_2 ≠ x85_)) = true →
                 R (.returned (Value.bool false)) hp_18) ∧
                ((decide (x163_2 ≠ x85_)) = false →
                 ∃ x82_2, IntKind.i64.wrap (i_1 + (1 : Int)) = x82_2 ∧
                 (Iv_1 [(Value.int .i64 x82_2)] hp_18 ∧ m_1 [(Value.int .i64 x82_2)] hp_18 < m_1 [(Value.int .i64 i_1)] hp_13)))))))) ∧
          (B_3 = false →
           CallsH Try.prog 19 #[(Value.string x65_), (Value.int .i64 i_1)] hp_14 fun en_12 hp_19 =>
           ∃ x163_3 : ByteArray, en_12 = .returned (Value.string x163_3) ∧
           (((decide (x163_3 ≠ x85_)) = true →
             R (.returned (Value.bool false)) hp_19) ∧
            ((decide (x163_3 ≠ x85_)) = false →
             ∃ x82_3, IntKind.i64.wrap (i_1 + (1 : Int)) = x82_3 ∧
             (Iv_1 [(Value.int .i64 x82_3)] hp_19 ∧ m_1 [(Value.int .i64 x82_3)] hp_19 < m_1 [(Value.int .i64 i_1)] hp_13)))))) ∧
        ((decide (i_1 < n_)) = false →
         R (.returned (Value.bool true)) hp_13)))))))) :
  CallsH Try.prog 4 #[(Value.slice firstp_ firstn_ firstc_), (Value.slice behindp_ behindn_ behindc_), (Value.slice fatesp_ fatesn_ fatesc_)] h R := calls_vc fine false Try.func4 (ann := A4) (args := [(Value.slice firstp_ firstn_ firstc_), (Value.slice behindp_ behindn_ behindc_), (Value.slice fatesp_ fatesn_ fatesc_)]) (by kernel_rfl) (Eq.mpr (by kernel_rfl) H)
/-- turnout/turnoutlaw04.DiskCuts -/
def A5 : Ann := (.seq .nil (.seq .nil (.seq .nil (.cut (.seq (.join 40) (.cond (.seq .nil .nil) .nil)) [] (.seq .nil (.seq .nil (.seq .nil (.seq .nil (.seq .nil (.seq .nil (.cut (.seq .nil (.block (.loop [(11, (.int .i64)), (12, (.int .i64)), (13, (.int .i64)), (14, (.int .i64)), (15, (.int .i64))] (.cut (.seq (.join 54) (.cond .nil .nil)) [] (.seq (.block (.seq .nil (.cut (.seq (.join 70) (.cond (.seq .nil (.seq .nil (.seq .nil (.cond (.seq .nil .nil) .nil)))) .nil)) [] (.seq .nil (.cut (.seq .nil (.cond .nil .nil)) [(19, (.int .i64))] (.cut (.seq .nil (.cond (.seq .nil .nil) .nil)) [] (.seq (.seq .nil (.cond (.seq .nil (.seq (.seq .nil (.cond (.seq .nil .nil) .nil)) .nil)) .nil)) (.seq .nil (.seq .nil (.cond (.seq .nil .nil) (.seq .nil .nil))))))))))) .nil))))) [(12, (.int .i64)), (13, (.int .i64)), (14, (.int .i64))] (.cut (.seq .nil (.cond (.seq .nil .nil) .nil)) [] (.seq .nil (.seq .nil (.seq .nil (.seq .nil (.seq .nil .nil)))))))))))))))))
theorem V5 (steps_ : Int) (flushp_ : Option Addr) (flushn_ flushc_ : Nat) (refusedp_ : Option Addr) (refusedn_ refusedc_ : Nat) (h : Hp) (R : Ending → Hp → Prop) (H :
  CallsH Try.prog 11 #[] h fun en_ hp_ =>
  ∃ x26_ : Bool, en_ = .returned (Value.bool x26_) ∧
  CallsH Try.prog 20 #[(Value.int .i64 (3 : Int))] hp_ fun en_1 hp_1 =>
  ∃ x28r0_ : Option Addr, ∃ x28r1_ : Int, en_1 = .returned (Value.tuple #[(Value.pointer x28r0_), (Value.int .i64 x28r1_)]) ∧
  ∃ Jv_ : List Value → Hp → Prop,
  (∃ B_ : Bool, ((((!x26_) = true →
      hp_1 = hp_1 ∧ B_ = true) ∧
     ((!x26_) = false →
      ∃ x35_, EqV Try.prog 25 (Value.pointer x28r0_) (Value.pointer none) x35_ ∧
      ((x35_ = true →
        hp_1 = hp_1 ∧ B_ = true) ∧
       (x35_ = false →
        hp_1 = hp_1 ∧ B_ = (decide (x28r1_ ≠ (0 : Int)))))))) ∧
   ((B_ = true →
     R (.returned (Value.bool false)) hp_1) ∧
    (B_ = false →
     Jv_ [] hp_1))) ∧
  (∀  hp_2, Jv_ [] hp_2 →
   CallsH Try.prog 12 #[(Value.int .i64 steps_), (Value.int .i64 (12 : Int))] hp_2 fun en_2 hp_3 =>
   ∃ x42_ : Int, en_2 = .returned (Value.int .i64 x42_) ∧
   ∃ x43_, IntKind.i64.wrap ((1 : Int) + x42_) = x43_ ∧
   CallsH Try.prog 21 #[(Value.pointer x28r0_), (Value.int .i64 x43_)] hp_3 fun en_3 hp_4 =>
   en_3 = .returned (Value.tuple #[]) ∧
   ∃ Jv_1 : List Value → Hp → Prop,
   (∃ (Iv_ : List Value → Hp → Prop) (m_ : List Value → Hp → Nat), Iv_ [(Value.int .i64 (0 : Int)), (Value.int .i64 (0 : Int)), (Value.int .i64 (0 : Int)), (Value.int .i64 (0 : Int)), (Value.int .i64 (0 : Int))] hp_4 ∧
    (∀ (done_ : Int) (writes_ : Int) (flushes_ : Int) (pending_ : Int) (i_ : Int) hp_5, Iv_ [(Value.int .i64 done_), (Value.int .i64 writes_), (Value.int .i64 flushes_), (Value.int .i64 pending_), (Value.int .i64 i_)] hp_5 →
     ∃ Jv_2 : List Value → Hp → Prop,
     (∃ B_1 : Bool, ((((decide (i_ < ((flushn_ : Nat) : Int))) = true →
         hp_5 = hp_5 ∧ B_1 = (decide (i_ < (40 : Int)))) ∧
        ((decide (i_ < ((flushn_ : Nat) : Int))) = false →
         hp_5 = hp_5 ∧ B_1 = false))) ∧
      ((B_1 = true →
        Jv_2 [] hp_5) ∧
       (B_1 = false →
        Jv_1 [(Value.int .i64 writes_), (Value.int .i64 flushes_), (Value.int .i64 pending_)] hp_5))) ∧
     (∀  hp_6, Jv_2 [] hp_6 →
      ∃ x59_, IntKind.i64.wrap (x43_ - (1 : Int)) = x59_ ∧
      ∃ Jv_3 : List Value → Hp → Prop,
      (∃ B_2 : Bool, ((((decide (i_ < ((refusedn_ : Nat) : Int))) = true →
          ∃ b_ o_, refusedp_ = some ⟨b_, o_, none⟩ ∧ 0 ≤ i_ ∧ i_ < (refusedn_ : Int) ∧
          ∃ x69_ : Bool, cellsAt hp_6 b_ (o_ + Int.toNat i_ * 1) [(Value.bool x69_)] ∧
          hp_6 = hp_6 ∧ B_2 = x69_) ∧
         ((decide (i_ < ((refusedn_ : Nat) : Int))) = false →
          hp_6 = hp_6 ∧ B_2 = false))) ∧
       ((B_2 = true →
         CallsH Try.prog 18 #[(Value.int .u8 (1 : Int)), (Value.int .u8 (2 : Int))] hp_6 fun en_4 hp_7 =>
         ∃ x72_ : ByteArray, en_4 = .returned (Value.string x72_) ∧
         CallsH Try.prog 17 #[(Value.pointer x28r0_), (Value.int .i64 (3 : Int)), (Value.string x72_)] hp_7 fun en_5 hp_8 =>
         ∃ x73_ : Int, en_5 = .returned (Value.int .i64 x73_) ∧
         CallsH Try.prog 17 #[(Value.pointer x28r0_), (Value.int .i64 (0 : Int)), (Value.string (⟨#[115, 104, 111, 114, 116]⟩ : ByteArray))] hp_8 fun en_6 hp_9 =>
         ∃ x75_ : Int, en_6 = .returned (Value.int .i64 x75_) ∧
         CallsH Try.prog 22 #[(Value.pointer x28r0_)] hp_9 fun en_7 hp_10 =>
         ∃ x77_ : Bool, en_7 = .returned (Value.bool x77_) ∧
         (((!x77_) = true →
           (((decide (x73_ ≠ (41 : Int))) = true →
             R (.returned (Value.bool false)) hp_10) ∧
            ((decide (x73_ ≠ (41 : Int))) = false →
             (((decide (x75_ ≠ (42 : Int))) = true →
               R (.returned (Value.bool false)) hp_10) ∧
              ((decide (x75_ ≠ (42 : Int))) = false →
               CallsH Try.prog 22 #[(Value.pointer x28r0_)] hp_10 fun en_8 hp_11 =>
               ∃ x89_ : Bool, en_8 = .returned (Value.bool x89_) ∧
               ((x89_ = true →
                 (((decide (x73_ ≠ (40 : Int))) = true →
                   R (.returned (Value.bool false)) hp_11) ∧
                  ((decide (x73_ ≠ (40 : Int))) = false →
                   (((decide (x75_ ≠ (40 : Int))) = true →
                     R (.returned (Value.bool false)) hp_11) ∧
                    ((decide (x75_ ≠ (40 : Int))) = false →
                     Jv_3 [] hp_11))))) ∧
                (x89_ = false →
                 Jv_3 [] hp_11))))))) ∧
          ((!x77_) = false →
           CallsH Try.prog 22 #[(Value.pointer x28r0_)] hp_10 fun en_9 hp_12 =>
           ∃ x89_1 : Bool, en_9 = .returned (Value.bool x89_1) ∧
           ((x89_1 = true →
             (((decide (x73_ ≠ (40 : Int))) = true →
               R (.returned (Value.bool false)) hp_12) ∧
              ((decide (x73_ ≠ (40 : Int))) = false →
               (((decide (x75_ ≠ (40 : Int))) = true →
                 R (.returned (Value.bool false)) hp_12) ∧
                ((decide (x75_ ≠ (40 : Int))) = false →
                 Jv_3 [] hp_12))))) ∧
            (x89_1 = false →
             Jv_3 [] hp_12))))) ∧
        (B_2 = false →
         Jv_3 [] hp_6))) ∧
      (∀  hp_13, Jv_3 [] hp_13 →
       ∃ Jv_4 : List Value → Hp → Prop,
       (∃ b_1 o_1, flushp_ = some ⟨b_1, o_1, none⟩ ∧ 0 ≤ i_ ∧ i_ < (flushn_ : Int) ∧
        ∃ x102_ : Bool, cellsAt hp_13 b_1 (o_1 + Int.toNat i_ * 1) [(Value.bool x102_)] ∧
        ((x102_ = true →
          CallsH Try.prog 15 #[(Value.pointer x28r0_)] hp_13 fun en_10 hp_14 =>
          ∃ x104_ : Int, en_10 = .returned (Value.int .i64 x104_) ∧
          Jv_4 [(Value.int .i64 x104_)] hp_14) ∧
         (x102_ = false →
          CallsH Try.prog 12 #[(Value.int .i64 i_), (Value.int .i64 (3 : Int))] hp_13 fun en_11 hp_15 =>
          ∃ x107_ : Int, en_11 = .returned (Value.int .i64 x107_) ∧
          ∃ x109_, IntKind.u8.wrap i_ = x109_ ∧
          CallsH Try.prog 18 #[(Value.int .u8 x109_), (Value.int .u8 (9 : Int))] hp_15 fun en_12 hp_16 =>
          ∃ x110_ : ByteArray, en_12 = .returned (Value.string x110_) ∧
          CallsH Try.prog 17 #[(Value.pointer x28r0_), (Value.int .i64 x107_), (Value.string x110_)] hp_16 fun en_13 hp_17 =>
          ∃ x111_ : Int, en_13 = .returned (Value.int .i64 x111_) ∧
          Jv_4 [(Value.int .i64 x111_)] hp_17))) ∧
       (∀ (f_ : Int) hp_18, Jv_4 [(Value.int .i64 f_)] hp_18 →
        ∃ Jv_5 : List Value → Hp → Prop,
        (∃ x115_, EqV Try.prog 4 (Value.bool (decide (x59_ ≤ done_))) (Value.bool (decide (f_ = (40 : Int)))) x115_ ∧
         (((!x115_) = true →
           R (.returned (Value.bool false)) hp_18) ∧
          ((!x115_) = false →
           (((!(decide (x59_ ≤ done_))) = true →
             (((decide (f_ ≠ (0 : Int))) = true →
               R (.returned (Value.bool false)) hp_18) ∧
              ((decide (f_ ≠ (0 : Int))) = false →
               CallsH Try.prog 22 #[(Value.pointer x28r0_)] hp_18 fun en_14 hp_19 =>
               ∃ x126_ : Bool, en_14 = .returned (Value.bool x126_) ∧
               ∃ x128_, EqV Try.prog 4 (Value.bool x126_) (Value.bool (decide (x59_ ≤ done_))) x128_ ∧
               (((!x128_) = true →
                 R (.returned (Value.bool false)) hp_19) ∧
                ((!x128_) = false →
                 Jv_5 [] hp_19))))) ∧
            ((!(decide (x59_ ≤ done_))) = false →
             CallsH Try.prog 22 #[(Value.pointer x28r0_)] hp_18 fun en_15 hp_20 =>
             ∃ x126_1 : Bool, en_15 = .returned (Value.bool x126_1) ∧
             ∃ x128_1, EqV Try.prog 4 (Value.bool x126_1) (Value.bool (decide (x59_ ≤ done_))) x128_1 ∧
             (((!x128_1) = true →
               R (.returned (Value.bool false)) hp_20) ∧
              ((!x128_1) = false →
               Jv_5 [] hp_20))))))) ∧
        (∀  hp_21, Jv_5 [] hp_21 →
         (((decide (x59_ ≤ done_)) = true →
           CallsH Try.prog 23 #[(Value.pointer x28r0_), (Value.int .i64 (0 : Int))] hp_21 fun en_16 hp_22 =>
           ∃ x133r0_ : ByteArray, ∃ x133r1_ : Int, en_16 = .returned (Value.tuple #[(Value.string x133r0_), (Value.int .i64 x133r1_)]) ∧
           (((decide (x133r1_ ≠ (40 : Int))) = true →
             R (.returned (Value.bool false)) hp_22) ∧
            ((decide (x133r1_ ≠ (40 : Int))) = false →
             ∃ x56_, IntKind.i64.wrap (i_ + (1 : Int)) = x56_ ∧
             (Iv_ [(Value.int .i64 done_), (Value.int .i64 writes_), (Value.int .i64 flushes_), (Value.int .i64 pending_), (Value.int .i64 x56_)] hp_22 ∧ m_ [(Value.int .i64 done_), (Value.int .i64 writes_), (Value.int .i64 flushes_), (Value.int .i64 pending_), (Value.int .i64 x56_)] hp_22 < m_ [(Value.int .i64 done_), (Value.int .i64 writes_), (Value.int .i64 flushes_), (Value.int .i64 pending_), (Value.int .i64 i_)] hp_5)))) ∧
          ((decide (x59_ ≤ done_)) = false →
           ∃ x139_, IntKind.i64.wrap (done_ + (1 : Int)) = x139_ ∧
           ∃ b_2 o_2, flushp_ = some ⟨b_2, o_2, none⟩ ∧ 0 ≤ i_ ∧ i_ < (flushn_ : Int) ∧
           ∃ x143_ : Bool, cellsAt hp_21 b_2 (o_2 + Int.toNat i_ * 1) [(Value.bool x143_)] ∧
           ((x143_ = true →
             ∃ x145_, IntKind.i64.wrap (flushes_ + (1 : Int)) = x145_ ∧
             ∃ x56_1, IntKind.i64.wrap (i_ + (1 : Int)) = x56_1 ∧
             (Iv_ [(Value.int .i64 x139_), (Value.int .i64 writes_), (Value.int .i64 x145_), (Value.int .i64 (0 : Int)), (Value.int .i64 x56_1)] hp_21 ∧ m_ [(Value.int .i64 x139_), (Value.int .i64 writes_), (Value.int .i64 x145_), (Value.int .i64 (0 : Int)), (Value.int .i64 x56_1)] hp_21 < m_ [(Value.int .i64 done_), (Value.int .i64 writes_), (Value.int .i64 flushes_), (Value.int .i64 pending_), (Value.int .i64 i_)] hp_5)) ∧
            (x143_ = false →
             ∃ x147_, IntKind.i64.wrap (writes_ + (1 : Int)) = x147_ ∧
             ∃ x149_, IntKind.i64.wrap (pending_ + (1 : Int)) = x149_ ∧
             ∃ x56_2, IntKind.i64.wrap (i_ + (1 : Int)) = x56_2 ∧
             (Iv_ [(Value.int .i64 x139_), (Value.int .i64 x147_), (Value.int .i64 flushes_), (Value.int .i64 x149_), (Value.int .i64 x56_2)] hp_21 ∧ m_ [(Value.int .i64 x139_), (Value.int .i64 x147_), (Value.int .i64 flushes_), (Value.int .i64 x149_), (Value.int .i64 x56_2)] hp_21 < m_ [(Value.int .i64 done_), (Value.int .i64 writes_), (Value.int .i64 flushes_), (Value.int .i64 pending_), (Value.int .i64 i_)] hp_5))))))))))) ∧
   (∀ (writes_1 : Int) (flushes_1 : Int) (pending_1 : Int) hp_23, Jv_1 [(Value.int .i64 writes_1), (Value.int .i64 flushes_1), (Value.int .i64 pending_1)] hp_23 →
    ∃ Jv_6 : List Value → Hp → Prop,
    (CallsH Try.prog 24 #[(Value.pointer x28r0_)] hp_23 fun en_17 hp_24 =>
     ∃ x151f0_ : Int, ∃ x151f1_ : Int, ∃ x151f2_ : Int, en_17 = .returned (Value.agg #[(Value.int .i64 x151f0_), (Value.int .i64 x151f1_), (Value.int .i64 x151f2_)]) ∧
     ∃ x155_, EqV Try.prog 48 (Value.agg #[(Value.int .i64 x151f0_), (Value.int .i64 x151f1_), (Value.int .i64 x151f2_)]) (Value.agg #[(Value.int .i64 (0 : Int)), (Value.int .i64 writes_1), (Value.int .i64 flushes_1)]) x155_ ∧
     (((!x155_) = true →
       R (.returned (Value.bool false)) hp_24) ∧
      ((!x155_) = false →
       CallsH Try.prog 25 #[(Value.pointer x28r0_)] hp_24 fun en_18 hp_25 =>
       ∃ (x158p_ : Option Addr) (x158n_ x158c_ : Nat), en_18 = .returned (Value.slice x158p_ x158n_ x158c_) ∧
       (((decide (((x158n_ : Nat) : Int) ≠ pending_1)) = true →
         R (.returned (Value.bool false)) hp_25) ∧
        ((decide (((x158n_ : Nat) : Int) ≠ pending_1)) = false →
         Jv_6 [] hp_25))))) ∧
    (∀  hp_26, Jv_6 [] hp_26 →
     CallsH Try.prog 16 #[(Value.pointer x28r0_), (Value.slice none 0 0)] hp_26 fun en_19 hp_27 =>
     en_19 = .returned (Value.tuple #[]) ∧
     CallsH Try.prog 18 #[(Value.int .u8 (7 : Int)), (Value.int .u8 (7 : Int))] hp_27 fun en_20 hp_28 =>
     ∃ x166_ : ByteArray, en_20 = .returned (Value.string x166_) ∧
     CallsH Try.prog 17 #[(Value.pointer x28r0_), (Value.int .i64 (0 : Int)), (Value.string x166_)] hp_28 fun en_21 hp_29 =>
     ∃ x167_ : Int, en_21 = .returned (Value.int .i64 x167_) ∧
     CallsH Try.prog 15 #[(Value.pointer x28r0_)] hp_29 fun en_22 hp_30 =>
     ∃ x169_ : Int, en_22 = .returned (Value.int .i64 x169_) ∧
     CallsH Try.prog 23 #[(Value.pointer x28r0_), (Value.int .i64 (0 : Int))] hp_30 fun en_23 hp_31 =>
     ∃ x172r0_ : ByteArray, ∃ x172r1_ : Int, en_23 = .returned (Value.tuple #[(Value.string x172r0_), (Value.int .i64 x172r1_)]) ∧
     (((decide (x167_ = (0 : Int))) = true →
       (((decide (x169_ = (0 : Int))) = true →
         (((decide (x172r1_ = (0 : Int))) = true →
           CallsH Try.prog 18 #[(Value.int .u8 (7 : Int)), (Value.int .u8 (7 : Int))] hp_31 fun en_24 hp_32 =>
           ∃ x187_ : ByteArray, en_24 = .returned (Value.string x187_) ∧
           (((decide (x172r0_ = x187_)) = true →
             CallsH Try.prog 22 #[(Value.pointer x28r0_)] hp_32 fun en_25 hp_33 =>
             ∃ x192_ : Bool, en_25 = .returned (Value.bool x192_) ∧
             R (.returned (Value.bool (!x192_))) hp_33) ∧
            ((decide (x172r0_ = x187_)) = false →
             R (.returned (Value.bool false)) hp_32))) ∧
          ((decide (x172r1_ = (0 : Int))) = false →
           R (.returned (Value.bool false)) hp_31))) ∧
        ((decide (x169_ = (0 : Int))) = false →
         R (.returned (Value.bool false)) hp_31))) ∧
      ((decide (x167_ = (0 : Int))) = false →
       R (.returned (Value.bool false)) hp_31)))))) :
  CallsH Try.prog 5 #[(Value.int .i64 steps_), (Value.slice flushp_ flushn_ flushc_), (Value.slice refusedp_ refusedn_ refusedc_)] h R := calls_vc fine false Try.func5 (ann := A5) (args := [(Value.int .i64 steps_), (Value.slice flushp_ flushn_ flushc_), (Value.slice refusedp_ refusedn_ refusedc_)]) (by kernel_rfl) (Eq.mpr (by kernel_rfl) H)
/-- turnout/turnoutlaw04.DiskMakes -/
def A6 : Ann := (.seq .nil (.seq .nil (.seq .nil (.seq .nil (.seq .nil (.seq .nil (.cut (.seq (.join 64) (.cond (.seq .nil .nil) .nil)) [] (.cut (.seq (.join 70) (.cond (.seq .nil (.seq .nil (.seq .nil (.cond (.seq .nil .nil) .nil)))) .nil)) [] (.seq (.seq (.join 96) (.cond (.seq .nil (.seq .nil (.seq .nil .nil))) .nil)) (.seq .nil .nil))))))))))
theorem V6 (sectors_ : Int) (image_ : ByteArray) (h : Hp) (R : Ending → Hp → Prop) (H :
  CallsH Try.prog 11 #[] h fun en_ hp_ =>
  ∃ x18_ : Bool, en_ = .returned (Value.bool x18_) ∧
  CallsH Try.prog 20 #[(Value.int .i64 sectors_)] hp_ fun en_1 hp_1 =>
  ∃ x21r0_ : Option Addr, ∃ x21r1_ : Int, en_1 = .returned (Value.tuple #[(Value.pointer x21r0_), (Value.int .i64 x21r1_)]) ∧
  CallsH Try.prog 26 #[(Value.int .i64 sectors_)] hp_1 fun en_2 hp_2 =>
  ∃ x26r0_ : Option Addr, ∃ x26r1_ : Int, en_2 = .returned (Value.tuple #[(Value.pointer x26r0_), (Value.int .i64 x26r1_)]) ∧
  CallsH Try.prog 27 #[(Value.string image_)] hp_2 fun en_3 hp_3 =>
  ∃ x31r0_ : Option Addr, ∃ x31r1_ : Int, en_3 = .returned (Value.tuple #[(Value.pointer x31r0_), (Value.int .i64 x31r1_)]) ∧
  CallsH Try.prog 28 #[(Value.string image_)] hp_3 fun en_4 hp_4 =>
  ∃ x36r0_ : Option Addr, ∃ x36r1_ : Int, en_4 = .returned (Value.tuple #[(Value.pointer x36r0_), (Value.int .i64 x36r1_)]) ∧
  ∃ Jv_ : List Value → Hp → Prop,
  (∃ B_ : Bool, ((((!x18_) = true →
      hp_4 = hp_4 ∧ B_ = true) ∧
     ((!x18_) = false →
      (((decide (x21r1_ ≠ x26r1_)) = true →
        hp_4 = hp_4 ∧ B_ = true) ∧
       ((decide (x21r1_ ≠ x26r1_)) = false →
        (((decide (x31r1_ ≠ x36r1_)) = true →
          hp_4 = hp_4 ∧ B_ = true) ∧
         ((decide (x31r1_ ≠ x36r1_)) = false →
          ∃ x53_, EqV Try.prog 25 (Value.pointer x21r0_) (Value.pointer none) x53_ ∧
          ∃ x55_, EqV Try.prog 53 (Value.pointer x26r0_) (Value.pointer none) x55_ ∧
          ∃ x56_, EqV Try.prog 4 (Value.bool x53_) (Value.bool x55_) x56_ ∧
          (((!x56_) = true →
            hp_4 = hp_4 ∧ B_ = true) ∧
           ((!x56_) = false →
            ∃ x60_, EqV Try.prog 25 (Value.pointer x31r0_) (Value.pointer none) x60_ ∧
            ∃ x62_, EqV Try.prog 53 (Value.pointer x36r0_) (Value.pointer none) x62_ ∧
            ∃ x63_, EqV Try.prog 4 (Value.bool x60_) (Value.bool x62_) x63_ ∧
            hp_4 = hp_4 ∧ B_ = (!x63_)))))))))) ∧
   ((B_ = true →
     R (.returned (Value.bool false)) hp_4) ∧
    (B_ = false →
     Jv_ [] hp_4))) ∧
  (∀  hp_5, Jv_ [] hp_5 →
   ∃ Jv_1 : List Value → Hp → Prop,
   (∃ B_1 : Bool, (∃ x66_, EqV Try.prog 25 (Value.pointer x21r0_) (Value.pointer none) x66_ ∧
     (((!x66_) = true →
       ∃ x69_, EqV Try.prog 53 (Value.pointer x26r0_) (Value.pointer none) x69_ ∧
       hp_5 = hp_5 ∧ B_1 = (!x69_)) ∧
      ((!x66_) = false →
       hp_5 = hp_5 ∧ B_1 = false))) ∧
    ((B_1 = true →
      ∀ b_ hp_6, b_ = Array.size hp_5 → hp_6 = Array.push hp_5 (.cells (zeros Try.prog 59) 59) → (∃ i z, Try.prog.info? 59 = some i ∧ i.zero = some z) ∧
      List.length [(Value.pointer x21r0_), (Value.pointer x26r0_)] = 2 ∧ (∀ c ∈ [(Value.pointer x21r0_), (Value.pointer x26r0_)], c.oneCell' = true) ∧ wrAt hp_6 b_ 0 2 ∧ ∀ hp_7, hp_7 = setsH hp_6 b_ 0 [(Value.pointer x21r0_), (Value.pointer x26r0_)] →
      ∃ x74f0_ : Option Addr, ∃ x74f1_ : Option Addr, cellsAt hp_7 b_ 0 [(Value.pointer x74f0_), (Value.pointer x74f1_)] ∧
      CallsH Try.prog 29 #[(Value.agg #[(Value.pointer x74f0_), (Value.pointer x74f1_)])] hp_7 fun en_5 hp_8 =>
      ∃ x75_ : Bool, en_5 = .returned (Value.bool x75_) ∧
      ((x75_ = true →
        ∃ x77f0_ : Option Addr, ∃ x77f1_ : Option Addr, cellsAt hp_8 b_ 0 [(Value.pointer x77f0_), (Value.pointer x77f1_)] ∧
        ∃ x79_, IntKind.i64.wrap (sectors_ - (1 : Int)) = x79_ ∧
        CallsH Try.prog 30 #[(Value.agg #[(Value.pointer x77f0_), (Value.pointer x77f1_)]), (Value.int .i64 x79_)] hp_8 fun en_6 hp_9 =>
        ∃ x80_ : Bool, en_6 = .returned (Value.bool x80_) ∧
        ((x80_ = true →
          CallsH Try.prog 14 #[(Value.pointer x21r0_)] hp_9 fun en_7 hp_10 =>
          ∃ x84_ : ByteArray, en_7 = .returned (Value.string x84_) ∧
          CallsH Try.prog 31 #[(Value.pointer x26r0_)] hp_10 fun en_8 hp_11 =>
          ∃ x86_ : ByteArray, en_8 = .returned (Value.string x86_) ∧
          (((!(decide (x84_ = x86_))) = true →
            R (.returned (Value.bool false)) hp_11) ∧
           ((!(decide (x84_ = x86_))) = false →
            Jv_1 [] hp_11))) ∧
         (x80_ = false →
          R (.returned (Value.bool false)) hp_9))) ∧
       (x75_ = false →
        R (.returned (Value.bool false)) hp_8))) ∧
     (B_1 = false →
      Jv_1 [] hp_5))) ∧
   (∀  hp_12, Jv_1 [] hp_12 →
    ∃ B_2 : Bool, (∃ x92_, EqV Try.prog 25 (Value.pointer x31r0_) (Value.pointer none) x92_ ∧
     (((!x92_) = true →
       ∃ x95_, EqV Try.prog 53 (Value.pointer x36r0_) (Value.pointer none) x95_ ∧
       hp_12 = hp_12 ∧ B_2 = (!x95_)) ∧
      ((!x92_) = false →
       hp_12 = hp_12 ∧ B_2 = false))) ∧
    ((B_2 = true →
      ∀ b_1 hp_13, b_1 = Array.size hp_12 → hp_13 = Array.push hp_12 (.cells (zeros Try.prog 59) 59) → (∃ i z, Try.prog.info? 59 = some i ∧ i.zero = some z) ∧
      List.length [(Value.pointer x31r0_), (Value.pointer x36r0_)] = 2 ∧ (∀ c ∈ [(Value.pointer x31r0_), (Value.pointer x36r0_)], c.oneCell' = true) ∧ wrAt hp_13 b_1 0 2 ∧ ∀ hp_14, hp_14 = setsH hp_13 b_1 0 [(Value.pointer x31r0_), (Value.pointer x36r0_)] →
      ∃ x100f0_ : Option Addr, ∃ x100f1_ : Option Addr, cellsAt hp_14 b_1 0 [(Value.pointer x100f0_), (Value.pointer x100f1_)] ∧
      CallsH Try.prog 29 #[(Value.agg #[(Value.pointer x100f0_), (Value.pointer x100f1_)])] hp_14 fun en_9 hp_15 =>
      ∃ x101_ : Bool, en_9 = .returned (Value.bool x101_) ∧
      ((x101_ = true →
        ∃ x103f0_ : Option Addr, ∃ x103f1_ : Option Addr, cellsAt hp_15 b_1 0 [(Value.pointer x103f0_), (Value.pointer x103f1_)] ∧
        CallsH Try.prog 30 #[(Value.agg #[(Value.pointer x103f0_), (Value.pointer x103f1_)]), (Value.int .i64 (0 : Int))] hp_15 fun en_10 hp_16 =>
        ∃ x104_ : Bool, en_10 = .returned (Value.bool x104_) ∧
        ((x104_ = true →
          CallsH Try.prog 14 #[(Value.pointer x31r0_)] hp_16 fun en_11 hp_17 =>
          ∃ x108_ : ByteArray, en_11 = .returned (Value.string x108_) ∧
          R (.returned (Value.bool (decide (x108_ = image_)))) hp_17) ∧
         (x104_ = false →
          R (.returned (Value.bool false)) hp_16))) ∧
       (x101_ = false →
        R (.returned (Value.bool false)) hp_15))) ∧
     (B_2 = false →
      R (.returned (Value.bool true)) hp_12))))) :
  CallsH Try.prog 6 #[(Value.int .i64 sectors_), (Value.string image_)] h R := calls_vc fine false Try.func6 (ann := A6) (args := [(Value.int .i64 sectors_), (Value.string image_)]) (by kernel_rfl) (Eq.mpr (by kernel_rfl) H)
/-- turnout/turnoutlaw04.DiskApart -/
def A7 : Ann := (.seq .nil (.seq .nil (.seq .nil (.seq .nil (.seq .nil (.cut (.seq (.join 37) (.cond (.seq .nil .nil) .nil)) [] (.seq .nil (.seq .nil (.seq .nil (.seq .nil (.seq .nil (.seq .nil (.seq .nil (.seq .nil (.seq (.drawLast [14]) .nil)))))))))))))))
theorem V7 (sectors_ : Int) (firstp_ : Option Addr) (firstn_ firstc_ : Nat) (behindp_ : Option Addr) (behindn_ behindc_ : Nat) (steps_ : Int) (h : Hp) (R : Ending → Hp → Prop) (H :
  CallsH Try.prog 11 #[] h fun en_ hp_ =>
  ∃ x16_ : Bool, en_ = .returned (Value.bool x16_) ∧
  CallsH Try.prog 12 #[(Value.int .i64 sectors_), (Value.int .i64 (5 : Int))] hp_ fun en_1 hp_1 =>
  ∃ x18_ : Int, en_1 = .returned (Value.int .i64 x18_) ∧
  ∃ x19_, IntKind.i64.wrap ((1 : Int) + x18_) = x19_ ∧
  CallsH Try.prog 13 #[(Value.int .i64 x19_), (Value.slice firstp_ firstn_ firstc_), (Value.slice behindp_ behindn_ behindc_)] hp_1 fun en_2 hp_2 =>
  ∃ x23_ : Option Addr, en_2 = .returned (Value.pointer x23_) ∧
  CallsH Try.prog 13 #[(Value.int .i64 x19_), (Value.slice firstp_ firstn_ firstc_), (Value.slice behindp_ behindn_ behindc_)] hp_2 fun en_3 hp_3 =>
  ∃ x27_ : Option Addr, en_3 = .returned (Value.pointer x27_) ∧
  ∃ Jv_ : List Value → Hp → Prop,
  (∃ B_ : Bool, ((((!x16_) = true →
      hp_3 = hp_3 ∧ B_ = true) ∧
     ((!x16_) = false →
      ∃ x32_, EqV Try.prog 25 (Value.pointer x23_) (Value.pointer none) x32_ ∧
      ((x32_ = true →
        hp_3 = hp_3 ∧ B_ = true) ∧
       (x32_ = false →
        ∃ x36_, EqV Try.prog 25 (Value.pointer x27_) (Value.pointer none) x36_ ∧
        hp_3 = hp_3 ∧ B_ = x36_))))) ∧
   ((B_ = true →
     R (.returned (Value.bool false)) hp_3) ∧
    (B_ = false →
     Jv_ [] hp_3))) ∧
  (∀  hp_4, Jv_ [] hp_4 →
   CallsH Try.prog 14 #[(Value.pointer x23_)] hp_4 fun en_4 hp_5 =>
   ∃ x39_ : ByteArray, en_4 = .returned (Value.string x39_) ∧
   CallsH Try.prog 25 #[(Value.pointer x23_)] hp_5 fun en_5 hp_6 =>
   ∃ (x41p_ : Option Addr) (x41n_ x41c_ : Nat), en_5 = .returned (Value.slice x41p_ x41n_ x41c_) ∧
   CallsH Try.prog 24 #[(Value.pointer x23_)] hp_6 fun en_6 hp_7 =>
   ∃ x44f0_ : Int, ∃ x44f1_ : Int, ∃ x44f2_ : Int, en_6 = .returned (Value.agg #[(Value.int .i64 x44f0_), (Value.int .i64 x44f1_), (Value.int .i64 x44f2_)]) ∧
   ∀ b_ hp_8, b_ = Array.size hp_7 → hp_8 = Array.push hp_7 (.cells (zeros Try.prog 48) 48) → (∃ i z, Try.prog.info? 48 = some i ∧ i.zero = some z) ∧
   List.length [(Value.int .i64 x44f0_), (Value.int .i64 x44f1_), (Value.int .i64 x44f2_)] = 3 ∧ (∀ c ∈ [(Value.int .i64 x44f0_), (Value.int .i64 x44f1_), (Value.int .i64 x44f2_)], c.oneCell' = true) ∧ wrAt hp_8 b_ 0 3 ∧ ∀ hp_9, hp_9 = setsH hp_8 b_ 0 [(Value.int .i64 x44f0_), (Value.int .i64 x44f1_), (Value.int .i64 x44f2_)] →
   CallsH Try.prog 12 #[(Value.int .i64 steps_), (Value.int .i64 (3 : Int))] hp_9 fun en_7 hp_10 =>
   ∃ x47_ : Int, en_7 = .returned (Value.int .i64 x47_) ∧
   ∃ x48_, IntKind.i64.wrap ((1 : Int) + x47_) = x48_ ∧
   CallsH Try.prog 21 #[(Value.pointer x27_), (Value.int .i64 x48_)] hp_10 fun en_8 hp_11 =>
   en_8 = .returned (Value.tuple #[]) ∧
   CallsH Try.prog 18 #[(Value.int .u8 (1 : Int)), (Value.int .u8 (2 : Int))] hp_11 fun en_9 hp_12 =>
   ∃ x51_ : ByteArray, en_9 = .returned (Value.string x51_) ∧
   CallsH Try.prog 17 #[(Value.pointer x27_), (Value.int .i64 (0 : Int)), (Value.string x51_)] hp_12 fun en_10 hp_13 =>
   ∃ x52_ : Int, en_10 = .returned (Value.int .i64 x52_) ∧
   CallsH Try.prog 15 #[(Value.pointer x27_)] hp_13 fun en_11 hp_14 =>
   ∃ x54_ : Int, en_11 = .returned (Value.int .i64 x54_) ∧
   CallsH Try.prog 18 #[(Value.int .u8 (3 : Int)), (Value.int .u8 (4 : Int))] hp_14 fun en_12 hp_15 =>
   ∃ x56_ : ByteArray, en_12 = .returned (Value.string x56_) ∧
   CallsH Try.prog 17 #[(Value.pointer x27_), (Value.int .i64 (0 : Int)), (Value.string x56_)] hp_15 fun en_13 hp_16 =>
   ∃ x57_ : Int, en_13 = .returned (Value.int .i64 x57_) ∧
   SemH Try.prog (Instr.buildSlice 28 1 #[(0, (Value.agg #[(Value.int .i64 (1 : Int)), (Value.int .i64 (0 : Int))]))]) hp_16 fun v_ hp_17 =>
   ∃ (x60p_ : Option Addr) (x60n_ x60c_ : Nat), v_ = (Value.slice x60p_ x60n_ x60c_) ∧
   CallsH Try.prog 16 #[(Value.pointer x27_), (Value.slice x60p_ x60n_ x60c_)] hp_17 fun en_14 hp_18 =>
   en_14 = .returned (Value.tuple #[]) ∧
   ∃ Cv_ : Hp → Prop, Cv_ hp_18 ∧
   CallsH Try.prog 14 #[(Value.pointer x23_)] hp_18 fun en_15 hp_19 =>
   ∃ x63_ : ByteArray, en_15 = .returned (Value.string x63_) ∧
   Cv_ hp_19 ∧
   (((decide (x63_ = x39_)) = true →
     CallsH Try.prog 25 #[(Value.pointer x23_)] hp_19 fun en_16 hp_20 =>
     ∃ (x68p_ : Option Addr) (x68n_ x68c_ : Nat), en_16 = .returned (Value.slice x68p_ x68n_ x68c_) ∧
     Cv_ hp_20 ∧
     (((decide (((x68n_ : Nat) : Int) = ((x41n_ : Nat) : Int))) = true →
       CallsH Try.prog 24 #[(Value.pointer x23_)] hp_20 fun en_17 hp_21 =>
       ∃ x75f0_ : Int, ∃ x75f1_ : Int, ∃ x75f2_ : Int, en_17 = .returned (Value.agg #[(Value.int .i64 x75f0_), (Value.int .i64 x75f1_), (Value.int .i64 x75f2_)]) ∧
       Cv_ hp_21 ∧
       ∃ x76f0_ : Int, ∃ x76f1_ : Int, ∃ x76f2_ : Int, (∀ h', Cv_ h' → cellsAt h' b_ 0 [(Value.int .i64 x76f0_), (Value.int .i64 x76f1_), (Value.int .i64 x76f2_)]) ∧
       ∃ x77_, EqV Try.prog 48 (Value.agg #[(Value.int .i64 x75f0_), (Value.int .i64 x75f1_), (Value.int .i64 x75f2_)]) (Value.agg #[(Value.int .i64 x76f0_), (Value.int .i64 x76f1_), (Value.int .i64 x76f2_)]) x77_ ∧
       ((x77_ = true →
         CallsH Try.prog 22 #[(Value.pointer x23_)] hp_21 fun en_18 hp_22 =>
         ∃ x81_ : Bool, en_18 = .returned (Value.bool x81_) ∧
         Cv_ hp_22 ∧
         R (.returned (Value.bool (!x81_))) hp_22) ∧
        (x77_ = false →
         R (.returned (Value.bool false)) hp_21))) ∧
      ((decide (((x68n_ : Nat) : Int) = ((x41n_ : Nat) : Int))) = false →
       R (.returned (Value.bool false)) hp_20))) ∧
    ((decide (x63_ = x39_)) = false →
     R (.returned (Value.bool false)) hp_19)))) :
  CallsH Try.prog 7 #[(Value.int .i64 sectors_), (Value.slice firstp_ firstn_ firstc_), (Value.slice behindp_ behindn_ behindc_), (Value.int .i64 steps_)] h R := calls_vc fine false Try.func7 (ann := A7) (args := [(Value.int .i64 sectors_), (Value.slice firstp_ firstn_ firstc_), (Value.slice behindp_ behindn_ behindc_), (Value.int .i64 steps_)]) (by kernel_rfl) (Eq.mpr (by kernel_rfl) H)
/-- turnout/turnoutlaw04.DiskFlushes -/
def A8 : Ann := (.seq .nil (.seq .nil (.seq .nil (.seq .nil (.seq .nil (.cut (.seq (.join 43) (.cond (.seq .nil .nil) .nil)) [] (.seq .nil (.cut (.seq .nil (.cond (.seq .nil .nil) .nil)) [] (.seq .nil (.seq .nil (.cut (.seq .nil (.cond (.seq .nil .nil) .nil)) [] (.seq (.seq .nil (.block (.loop [(14, (.int .i64))] (.seq (.seq .nil (.cond .nil .nil)) (.seq (.block (.seq .nil (.seq (.seq .nil (.block (.loop [(15, .str), (16, (.int .i64))] (.seq (.seq .nil (.cond .nil .nil)) (.seq (.block (.seq .nil (.cond .nil .nil))) .nil))))) (.seq .nil (.seq .nil (.seq .nil (.seq .nil (.cond (.seq .nil .nil) .nil)))))))) .nil))))) (.seq .nil .nil)))))))))))))
theorem V8 (sectors_ : Int) (firstp_ : Option Addr) (firstn_ firstc_ : Nat) (behindp_ : Option Addr) (behindn_ behindc_ : Nat) (h : Hp) (R : Ending → Hp → Prop) (H :
  CallsH Try.prog 11 #[] h fun en_ hp_ =>
  ∃ x23_ : Bool, en_ = .returned (Value.bool x23_) ∧
  CallsH Try.prog 12 #[(Value.int .i64 sectors_), (Value.int .i64 (6 : Int))] hp_ fun en_1 hp_1 =>
  ∃ x25_ : Int, en_1 = .returned (Value.int .i64 x25_) ∧
  ∃ x26_, IntKind.i64.wrap ((1 : Int) + x25_) = x26_ ∧
  CallsH Try.prog 13 #[(Value.int .i64 x26_), (Value.slice firstp_ firstn_ firstc_), (Value.slice none 0 0)] hp_1 fun en_2 hp_2 =>
  ∃ x29_ : Option Addr, en_2 = .returned (Value.pointer x29_) ∧
  CallsH Try.prog 13 #[(Value.int .i64 x26_), (Value.slice firstp_ firstn_ firstc_), (Value.slice behindp_ behindn_ behindc_)] hp_2 fun en_3 hp_3 =>
  ∃ x33_ : Option Addr, en_3 = .returned (Value.pointer x33_) ∧
  ∃ Jv_ : List Value → Hp → Prop,
  (∃ B_ : Bool, ((((!x23_) = true →
      hp_3 = hp_3 ∧ B_ = true) ∧
     ((!x23_) = false →
      ∃ x38_, EqV Try.prog 25 (Value.pointer x29_) (Value.pointer none) x38_ ∧
      ((x38_ = true →
        hp_3 = hp_3 ∧ B_ = true) ∧
       (x38_ = false →
        ∃ x42_, EqV Try.prog 25 (Value.pointer x33_) (Value.pointer none) x42_ ∧
        hp_3 = hp_3 ∧ B_ = x42_))))) ∧
   ((B_ = true →
     R (.returned (Value.bool false)) hp_3) ∧
    (B_ = false →
     Jv_ [] hp_3))) ∧
  (∀  hp_4, Jv_ [] hp_4 →
   CallsH Try.prog 14 #[(Value.pointer x29_)] hp_4 fun en_4 hp_5 =>
   ∃ x45_ : ByteArray, en_4 = .returned (Value.string x45_) ∧
   ∃ Jv_1 : List Value → Hp → Prop,
   (∃ x49_, IntKind.i64.wrap ((512 : Int) * x26_) = x49_ ∧
    (((decide ((ByteArray.size x45_ : Int) ≠ x49_)) = true →
      R (.returned (Value.bool false)) hp_5) ∧
     ((decide ((ByteArray.size x45_ : Int) ≠ x49_)) = false →
      CallsH Try.prog 14 #[(Value.pointer x33_)] hp_5 fun en_5 hp_6 =>
      ∃ x53_ : ByteArray, en_5 = .returned (Value.string x53_) ∧
      (((decide (x53_ ≠ x45_)) = true →
        R (.returned (Value.bool false)) hp_6) ∧
       ((decide (x53_ ≠ x45_)) = false →
        CallsH Try.prog 25 #[(Value.pointer x29_)] hp_6 fun en_6 hp_7 =>
        ∃ (x59p_ : Option Addr) (x59n_ x59c_ : Nat), en_6 = .returned (Value.slice x59p_ x59n_ x59c_) ∧
        (((decide (((x59n_ : Nat) : Int) ≠ (0 : Int))) = true →
          R (.returned (Value.bool false)) hp_7) ∧
         ((decide (((x59n_ : Nat) : Int) ≠ (0 : Int))) = false →
          CallsH Try.prog 25 #[(Value.pointer x33_)] hp_7 fun en_7 hp_8 =>
          ∃ (x65p_ : Option Addr) (x65n_ x65c_ : Nat), en_7 = .returned (Value.slice x65p_ x65n_ x65c_) ∧
          (((decide (((x65n_ : Nat) : Int) ≠ ((behindn_ : Nat) : Int))) = true →
            R (.returned (Value.bool false)) hp_8) ∧
           ((decide (((x65n_ : Nat) : Int) ≠ ((behindn_ : Nat) : Int))) = false →
            Jv_1 [] hp_8))))))))) ∧
   (∀  hp_9, Jv_1 [] hp_9 →
    CallsH Try.prog 16 #[(Value.pointer x33_), (Value.slice none 0 0)] hp_9 fun en_8 hp_10 =>
    en_8 = .returned (Value.tuple #[]) ∧
    CallsH Try.prog 27 #[(Value.string x45_)] hp_10 fun en_9 hp_11 =>
    ∃ x75r0_ : Option Addr, ∃ x75r1_ : Int, en_9 = .returned (Value.tuple #[(Value.pointer x75r0_), (Value.int .i64 x75r1_)]) ∧
    ∃ Jv_2 : List Value → Hp → Prop,
    ((((decide (x75r1_ ≠ (0 : Int))) = true →
       R (.returned (Value.bool false)) hp_11) ∧
      ((decide (x75r1_ ≠ (0 : Int))) = false →
       ∃ x82_, EqV Try.prog 25 (Value.pointer x75r0_) (Value.pointer none) x82_ ∧
       ((x82_ = true →
         R (.returned (Value.bool false)) hp_11) ∧
        (x82_ = false →
         CallsH Try.prog 14 #[(Value.pointer x33_)] hp_11 fun en_10 hp_12 =>
         ∃ x86_ : ByteArray, en_10 = .returned (Value.string x86_) ∧
         (((decide (x86_ ≠ x45_)) = true →
           R (.returned (Value.bool false)) hp_12) ∧
          ((decide (x86_ ≠ x45_)) = false →
           CallsH Try.prog 25 #[(Value.pointer x33_)] hp_12 fun en_11 hp_13 =>
           ∃ (x92p_ : Option Addr) (x92n_ x92c_ : Nat), en_11 = .returned (Value.slice x92p_ x92n_ x92c_) ∧
           (((decide (((x92n_ : Nat) : Int) ≠ (0 : Int))) = true →
             R (.returned (Value.bool false)) hp_13) ∧
            ((decide (((x92n_ : Nat) : Int) ≠ (0 : Int))) = false →
             CallsH Try.prog 22 #[(Value.pointer x33_)] hp_13 fun en_12 hp_14 =>
             ∃ x98_ : Bool, en_12 = .returned (Value.bool x98_) ∧
             ((x98_ = true →
               R (.returned (Value.bool false)) hp_14) ∧
              (x98_ = false →
               Jv_2 [] hp_14))))))))))) ∧
    (∀  hp_15, Jv_2 [] hp_15 →
     ∃ (Iv_ : List Value → Hp → Prop) (m_ : List Value → Hp → Nat), Iv_ [(Value.int .i64 (0 : Int))] hp_15 ∧
     (∀ (i_ : Int) hp_16, Iv_ [(Value.int .i64 i_)] hp_16 →
      (((decide (i_ < x26_)) = true →
        SemH Try.prog (Instr.makeSlice 62 (Value.int .i64 (512 : Int)) (Value.int .i64 (512 : Int))) hp_16 fun v_ hp_17 =>
        ∃ (x105p_ : Option Addr) (x105n_ x105c_ : Nat), v_ = (Value.slice x105p_ x105n_ x105c_) ∧
        SemH Try.prog (convert 62 9 (Value.slice x105p_ x105n_ x105c_)) hp_17 fun v_1 hp_18 =>
        ∃ x106_ : ByteArray, v_1 = (Value.string x106_) ∧
        ∃ (Iv_1 : List Value → Hp → Prop) (m_1 : List Value → Hp → Nat), Iv_1 [(Value.string x106_), (Value.int .i64 (0 : Int))] hp_18 ∧
        (∀ (want_ : ByteArray) (k_ : Int) hp_19, Iv_1 [(Value.string want_), (Value.int .i64 k_)] hp_19 →
         (((decide (k_ < ((firstn_ : Nat) : Int))) = true →
           ∃ b_ o_, firstp_ = some ⟨b_, o_, none⟩ ∧ 0 ≤ k_ ∧ k_ < (firstn_ : Int) ∧
           ∃ x117_ : Int, cellsAt hp_19 b_ ((o_ + Int.toNat k_ * 3) + 0) [(Value.int .i64 x117_)] ∧
           CallsH Try.prog 12 #[(Value.int .i64 x117_), (Value.int .i64 x26_)] hp_19 fun en_13 hp_20 =>
           ∃ x119_ : Int, en_13 = .returned (Value.int .i64 x119_) ∧
           (((decide (x119_ = i_)) = true →
             ∃ b_1 o_1, firstp_ = some ⟨b_1, o_1, none⟩ ∧ 0 ≤ k_ ∧ k_ < (firstn_ : Int) ∧
             ∃ x126_ : Int, cellsAt hp_20 b_1 ((o_1 + Int.toNat k_ * 3) + 1) [(Value.int .u8 x126_)] ∧
             ∃ b_2 o_2, firstp_ = some ⟨b_2, o_2, none⟩ ∧ 0 ≤ k_ ∧ k_ < (firstn_ : Int) ∧
             ∃ x131_ : Int, cellsAt hp_20 b_2 ((o_2 + Int.toNat k_ * 3) + 2) [(Value.int .u8 x131_)] ∧
             CallsH Try.prog 18 #[(Value.int .u8 x126_), (Value.int .u8 x131_)] hp_20 fun en_14 hp_21 =>
             ∃ x132_ : ByteArray, en_14 = .returned (Value.string x132_) ∧
             ∃ x112_, IntKind.i64.wrap (k_ + (1 : Int)) = x112_ ∧
             (Iv_1 [(Value.string x132_), (Value.int .i64 x112_)] hp_21 ∧ m_1 [(Value.string x132_), (Value.int .i64 x112_)] hp_21 < m_1 [(Value.string want_), (Value.int .i64 k_)] hp_19)) ∧
            ((decide (x119_ = i_)) = false →
             ∃ x112_1, IntKind.i64.wrap (k_ + (1 : Int)) = x112_1 ∧
             (Iv_1 [(Value.string want_), (Value.int .i64 x112_1)] hp_20 ∧ m_1 [(Value.string want_), (Value.int .i64 x112_1)] hp_20 < m_1 [(Value.string want_), (Value.int .i64 k_)] hp_19)))) ∧
          ((decide (k_ < ((firstn_ : Nat) : Int))) = false →
           CallsH Try.prog 23 #[(Value.pointer x29_), (Value.int .i64 i_)] hp_19 fun en_15 hp_22 =>
           ∃ x136r0_ : ByteArray, ∃ x136r1_ : Int, en_15 = .returned (Value.tuple #[(Value.string x136r0_), (Value.int .i64 x136r1_)]) ∧
           CallsH Try.prog 23 #[(Value.pointer x33_), (Value.int .i64 i_)] hp_22 fun en_16 hp_23 =>
           ∃ x142r0_ : ByteArray, ∃ x142r1_ : Int, en_16 = .returned (Value.tuple #[(Value.string x142r0_), (Value.int .i64 x142r1_)]) ∧
           CallsH Try.prog 23 #[(Value.pointer x75r0_), (Value.int .i64 i_)] hp_23 fun en_17 hp_24 =>
           ∃ x148r0_ : ByteArray, ∃ x148r1_ : Int, en_17 = .returned (Value.tuple #[(Value.string x148r0_), (Value.int .i64 x148r1_)]) ∧
           (((decide (x136r1_ ≠ (0 : Int))) = true →
             R (.returned (Value.bool false)) hp_24) ∧
            ((decide (x136r1_ ≠ (0 : Int))) = false →
             (((decide (x142r1_ ≠ (0 : Int))) = true →
               R (.returned (Value.bool false)) hp_24) ∧
              ((decide (x142r1_ ≠ (0 : Int))) = false →
               (((decide (x148r1_ ≠ (0 : Int))) = true →
                 R (.returned (Value.bool false)) hp_24) ∧
                ((decide (x148r1_ ≠ (0 : Int))) = false →
                 (((decide (x136r0_ ≠ want_)) = true →
                   R (.returned (Value.bool false)) hp_24) ∧
                  ((decide (x136r0_ ≠ want_)) = false →
                   (((decide (x142r0_ ≠ want_)) = true →
                     R (.returned (Value.bool false)) hp_24) ∧
                    ((decide (x142r0_ ≠ want_)) = false →
                     (((decide (x148r0_ ≠ want_)) = true →
                       R (.returned (Value.bool false)) hp_24) ∧
                      ((decide (x148r0_ ≠ want_)) = false →
                       CallsH Try.prog 19 #[(Value.string x45_), (Value.int .i64 i_)] hp_24 fun en_18 hp_25 =>
                       ∃ x179_ : ByteArray, en_18 = .returned (Value.string x179_) ∧
                       (((decide (x179_ ≠ want_)) = true →
                         R (.returned (Value.bool false)) hp_25) ∧
                        ((decide (x179_ ≠ want_)) = false →
                         ∃ x104_, IntKind.i64.wrap (i_ + (1 : Int)) = x104_ ∧
                         (Iv_ [(Value.int .i64 x104_)] hp_25 ∧ m_ [(Value.int .i64 x104_)] hp_25 < m_ [(Value.int .i64 i_)] hp_16))))))))))))))))))) ∧
       ((decide (i_ < x26_)) = false →
        R (.returned (Value.bool true)) hp_16))))))) :
  CallsH Try.prog 8 #[(Value.int .i64 sectors_), (Value.slice firstp_ firstn_ firstc_), (Value.slice behindp_ behindn_ behindc_)] h R := calls_vc fine false Try.func8 (ann := A8) (args := [(Value.int .i64 sectors_), (Value.slice firstp_ firstn_ firstc_), (Value.slice behindp_ behindn_ behindc_)]) (by kernel_rfl) (Eq.mpr (by kernel_rfl) H)
/-- turnout/turnoutlaw04.DiskNil -/
def A9 : Ann := (.seq .nil (.seq .nil (.seq .nil (.seq .nil (.seq .nil (.seq .nil (.seq .nil (.seq .nil (.seq .nil .nil)))))))))
theorem V9 (n_ : Int) (s_ : ByteArray) (fatesp_ : Option Addr) (fatesn_ fatesc_ : Nat) (h : Hp) (R : Ending → Hp → Prop) (H :
  CallsH Try.prog 11 #[] h fun en_ hp_ =>
  ∃ x13_ : Bool, en_ = .returned (Value.bool x13_) ∧
  CallsH Try.prog 23 #[(Value.pointer none), (Value.int .i64 n_)] hp_ fun en_1 hp_1 =>
  ∃ x17r0_ : ByteArray, ∃ x17r1_ : Int, en_1 = .returned (Value.tuple #[(Value.string x17r0_), (Value.int .i64 x17r1_)]) ∧
  CallsH Try.prog 17 #[(Value.pointer none), (Value.int .i64 n_), (Value.string s_)] hp_1 fun en_2 hp_2 =>
  ∃ x23_ : Int, en_2 = .returned (Value.int .i64 x23_) ∧
  CallsH Try.prog 15 #[(Value.pointer none)] hp_2 fun en_3 hp_3 =>
  ∃ x25_ : Int, en_3 = .returned (Value.int .i64 x25_) ∧
  CallsH Try.prog 21 #[(Value.pointer none), (Value.int .i64 n_)] hp_3 fun en_4 hp_4 =>
  en_4 = .returned (Value.tuple #[]) ∧
  CallsH Try.prog 16 #[(Value.pointer none), (Value.slice fatesp_ fatesn_ fatesc_)] hp_4 fun en_5 hp_5 =>
  en_5 = .returned (Value.tuple #[]) ∧
  ((x13_ = true →
    (((decide (x17r0_ = (⟨#[]⟩ : ByteArray))) = true →
      (((decide (x17r1_ = (1 : Int))) = true →
        (((decide (x23_ = (1 : Int))) = true →
          (((decide (x25_ = (1 : Int))) = true →
            CallsH Try.prog 32 #[(Value.pointer none)] hp_5 fun en_6 hp_6 =>
            ∃ x51_ : Int, en_6 = .returned (Value.int .i64 x51_) ∧
            (((decide (x51_ = (0 : Int))) = true →
              CallsH Try.prog 22 #[(Value.pointer none)] hp_6 fun en_7 hp_7 =>
              ∃ x56_ : Bool, en_7 = .returned (Value.bool x56_) ∧
              (((!x56_) = true →
                CallsH Try.prog 25 #[(Value.pointer none)] hp_7 fun en_8 hp_8 =>
                ∃ (x61p_ : Option Addr) (x61n_ x61c_ : Nat), en_8 = .returned (Value.slice x61p_ x61n_ x61c_) ∧
                (((decide (((x61n_ : Nat) : Int) = (0 : Int))) = true →
                  CallsH Try.prog 14 #[(Value.pointer none)] hp_8 fun en_9 hp_9 =>
                  ∃ x67_ : ByteArray, en_9 = .returned (Value.string x67_) ∧
                  (((decide (x67_ = (⟨#[]⟩ : ByteArray))) = true →
                    CallsH Try.prog 24 #[(Value.pointer none)] hp_9 fun en_10 hp_10 =>
                    ∃ x72f0_ : Int, ∃ x72f1_ : Int, ∃ x72f2_ : Int, en_10 = .returned (Value.agg #[(Value.int .i64 x72f0_), (Value.int .i64 x72f1_), (Value.int .i64 x72f2_)]) ∧
                    ∃ x74_, EqV Try.prog 48 (Value.agg #[(Value.int .i64 x72f0_), (Value.int .i64 x72f1_), (Value.int .i64 x72f2_)]) (Value.agg #[(Value.int .i64 (0 : Int)), (Value.int .i64 (0 : Int)), (Value.int .i64 (0 : Int))]) x74_ ∧
                    R (.returned (Value.bool x74_)) hp_10) ∧
                   ((decide (x67_ = (⟨#[]⟩ : ByteArray))) = false →
                    R (.returned (Value.bool false)) hp_9))) ∧
                 ((decide (((x61n_ : Nat) : Int) = (0 : Int))) = false →
                  R (.returned (Value.bool false)) hp_8))) ∧
               ((!x56_) = false →
                R (.returned (Value.bool false)) hp_7))) ∧
             ((decide (x51_ = (0 : Int))) = false →
              R (.returned (Value.bool false)) hp_6))) ∧
           ((decide (x25_ = (1 : Int))) = false →
            R (.returned (Value.bool false)) hp_5))) ∧
         ((decide (x23_ = (1 : Int))) = false →
          R (.returned (Value.bool false)) hp_5))) ∧
       ((decide (x17r1_ = (1 : Int))) = false →
        R (.returned (Value.bool false)) hp_5))) ∧
     ((decide (x17r0_ = (⟨#[]⟩ : ByteArray))) = false →
      R (.returned (Value.bool false)) hp_5))) ∧
   (x13_ = false →
    R (.returned (Value.bool false)) hp_5))) :
  CallsH Try.prog 9 #[(Value.int .i64 n_), (Value.string s_), (Value.slice fatesp_ fatesn_ fatesc_)] h R := calls_vc fine false Try.func9 (ann := A9) (args := [(Value.int .i64 n_), (Value.string s_), (Value.slice fatesp_ fatesn_ fatesc_)]) (by kernel_rfl) (Eq.mpr (by kernel_rfl) H)
/-- turnout/turnoutlaw04.DiskPlays -/
def A10 : Ann := (.seq .nil (.seq .nil (.seq .nil (.seq .nil (.seq .nil (.seq .nil (.cut (.seq (.join 48) (.cond (.seq .nil .nil) .nil)) [] (.seq .nil (.seq .nil (.seq .nil (.cut (.seq (.join 74) (.cond (.seq .nil .nil) .nil)) [] (.cut (.seq (.join 80) (.cond .nil .nil)) [(8, .slice)] (.seq (.seq .nil (.block (.loop [(18, (.int .i64))] (.seq (.seq .nil (.cond .nil .nil)) (.seq (.block (.seq .nil (.seq .nil (.seq (.seq .nil (.cond (.seq .nil .nil) .nil)) (.seq .nil (.block (.loop [(21, (.int .i64))] (.seq (.seq .nil (.cond .nil .nil)) (.seq (.block (.seq .nil (.seq .nil (.cond (.seq .nil .nil) .nil)))) .nil))))))))) .nil))))) (.seq (.seq .nil (.block (.loop [(23, (.int .i64))] (.seq (.seq .nil (.cond .nil .nil)) (.seq (.block (.seq .nil (.seq (.drawLast [13]) (.cond (.seq .nil .nil) .nil)))) .nil))))) (.seq .nil .nil)))))))))))))))
theorem V10 (sectors_ : Int) (image_ : ByteArray) (scriptp_ : Option Addr) (scriptn_ scriptc_ : Nat) (h : Hp) (R : Ending → Hp → Prop) (H :
  CallsH Try.prog 11 #[] h fun en_ hp_ =>
  ∃ x25_ : Bool, en_ = .returned (Value.bool x25_) ∧
  CallsH Try.prog 12 #[(Value.int .i64 sectors_), (Value.int .i64 (5 : Int))] hp_ fun en_1 hp_1 =>
  ∃ x27_ : Int, en_1 = .returned (Value.int .i64 x27_) ∧
  ∃ x28_, IntKind.i64.wrap ((1 : Int) + x27_) = x28_ ∧
  CallsH Try.prog 20 #[(Value.int .i64 x28_)] hp_1 fun en_2 hp_2 =>
  ∃ x31r0_ : Option Addr, ∃ x31r1_ : Int, en_2 = .returned (Value.tuple #[(Value.pointer x31r0_), (Value.int .i64 x31r1_)]) ∧
  CallsH Try.prog 26 #[(Value.int .i64 x28_)] hp_2 fun en_3 hp_3 =>
  ∃ x36r0_ : Option Addr, ∃ x36r1_ : Int, en_3 = .returned (Value.tuple #[(Value.pointer x36r0_), (Value.int .i64 x36r1_)]) ∧
  ∃ Jv_ : List Value → Hp → Prop,
  (∃ B_ : Bool, ((((!x25_) = true →
      hp_3 = hp_3 ∧ B_ = true) ∧
     ((!x25_) = false →
      ∃ x43_, EqV Try.prog 25 (Value.pointer x31r0_) (Value.pointer none) x43_ ∧
      ((x43_ = true →
        hp_3 = hp_3 ∧ B_ = true) ∧
       (x43_ = false →
        hp_3 = hp_3 ∧ B_ = (decide (x31r1_ ≠ (0 : Int)))))))) ∧
   ((B_ = true →
     R (.returned (Value.bool false)) hp_3) ∧
    (B_ = false →
     Jv_ [] hp_3))) ∧
  (∀  hp_4, Jv_ [] hp_4 →
   SemH Try.prog (Instr.buildSlice 67 1 #[(0, (Value.agg #[(Value.pointer x31r0_), (Value.pointer x36r0_)]))]) hp_4 fun v_ hp_5 =>
   ∃ (x53p_ : Option Addr) (x53n_ x53c_ : Nat), v_ = (Value.slice x53p_ x53n_ x53c_) ∧
   SemH Try.prog (Builtin.append_ #[67, 67] 67 #[(Value.slice none 0 0), (Value.slice x53p_ x53n_ x53c_)]) hp_5 fun v_1 hp_6 =>
   ∃ (x54p_ : Option Addr) (x54n_ x54c_ : Nat), v_1 = (Value.slice x54p_ x54n_ x54c_) ∧
   CallsH Try.prog 27 #[(Value.string image_)] hp_6 fun en_4 hp_7 =>
   ∃ x57r0_ : Option Addr, ∃ x57r1_ : Int, en_4 = .returned (Value.tuple #[(Value.pointer x57r0_), (Value.int .i64 x57r1_)]) ∧
   CallsH Try.prog 28 #[(Value.string image_)] hp_7 fun en_5 hp_8 =>
   ∃ x62r0_ : Option Addr, ∃ x62r1_ : Int, en_5 = .returned (Value.tuple #[(Value.pointer x62r0_), (Value.int .i64 x62r1_)]) ∧
   ∃ Jv_1 : List Value → Hp → Prop,
   (∃ B_1 : Bool, ((((decide (x57r1_ ≠ x62r1_)) = true →
       hp_8 = hp_8 ∧ B_1 = true) ∧
      ((decide (x57r1_ ≠ x62r1_)) = false →
       ∃ x70_, EqV Try.prog 25 (Value.pointer x57r0_) (Value.pointer none) x70_ ∧
       ∃ x72_, EqV Try.prog 53 (Value.pointer x62r0_) (Value.pointer none) x72_ ∧
       ∃ x73_, EqV Try.prog 4 (Value.bool x70_) (Value.bool x72_) x73_ ∧
       hp_8 = hp_8 ∧ B_1 = (!x73_)))) ∧
    ((B_1 = true →
      R (.returned (Value.bool false)) hp_8) ∧
     (B_1 = false →
      Jv_1 [] hp_8))) ∧
   (∀  hp_9, Jv_1 [] hp_9 →
    ∃ Jv_2 : List Value → Hp → Prop,
    (∃ B_2 : Bool, (∃ x76_, EqV Try.prog 25 (Value.pointer x57r0_) (Value.pointer none) x76_ ∧
      (((!x76_) = true →
        ∃ x79_, EqV Try.prog 53 (Value.pointer x62r0_) (Value.pointer none) x79_ ∧
        hp_9 = hp_9 ∧ B_2 = (!x79_)) ∧
       ((!x76_) = false →
        hp_9 = hp_9 ∧ B_2 = false))) ∧
     ((B_2 = true →
       SemH Try.prog (Instr.buildSlice 67 1 #[(0, (Value.agg #[(Value.pointer x57r0_), (Value.pointer x62r0_)]))]) hp_9 fun v_2 hp_10 =>
       ∃ (x85p_ : Option Addr) (x85n_ x85c_ : Nat), v_2 = (Value.slice x85p_ x85n_ x85c_) ∧
       SemH Try.prog (Builtin.append_ #[67, 67] 67 #[(Value.slice x54p_ x54n_ x54c_), (Value.slice x85p_ x85n_ x85c_)]) hp_10 fun v_3 hp_11 =>
       ∃ (x86p_ : Option Addr) (x86n_ x86c_ : Nat), v_3 = (Value.slice x86p_ x86n_ x86c_) ∧
       Jv_2 [(Value.slice x86p_ x86n_ x86c_)] hp_11) ∧
      (B_2 = false →
       Jv_2 [(Value.slice x54p_ x54n_ x54c_)] hp_9))) ∧
    (∀ (lp_ : Option Addr) (ln_ lc_ : Nat) hp_12, Jv_2 [(Value.slice lp_ ln_ lc_)] hp_12 →
     ∃ (Iv_ : List Value → Hp → Prop) (m_ : List Value → Hp → Nat), Iv_ [(Value.int .i64 (0 : Int))] hp_12 ∧
     (∀ (i_ : Int) hp_13, Iv_ [(Value.int .i64 i_)] hp_13 →
      (((decide (i_ < ((scriptn_ : Nat) : Int))) = true →
        ∃ b_ o_, scriptp_ = some ⟨b_, o_, none⟩ ∧ 0 ≤ i_ ∧ i_ < (scriptn_ : Int) ∧
        ∃ x98_ : Int, cellsAt hp_13 b_ ((o_ + Int.toNat i_ * 6) + 1) [(Value.int .i64 x98_)] ∧
        CallsH Try.prog 12 #[(Value.int .i64 x98_), (Value.int .i64 ((ln_ : Nat) : Int))] hp_13 fun en_6 hp_14 =>
        ∃ x101_ : Int, en_6 = .returned (Value.int .i64 x101_) ∧
        ∃ b_1 o_1, lp_ = some ⟨b_1, o_1, none⟩ ∧ 0 ≤ x101_ ∧ x101_ < (ln_ : Int) ∧
        ∃ x103f0_ : Option Addr, ∃ x103f1_ : Option Addr, cellsAt hp_14 b_1 (o_1 + Int.toNat x101_ * 2) [(Value.pointer x103f0_), (Value.pointer x103f1_)] ∧
        ∀ b_2 hp_15, b_2 = Array.size hp_14 → hp_15 = Array.push hp_14 (.cells (zeros Try.prog 59) 59) → (∃ i z, Try.prog.info? 59 = some i ∧ i.zero = some z) ∧
        List.length [(Value.pointer x103f0_), (Value.pointer x103f1_)] = 2 ∧ (∀ c ∈ [(Value.pointer x103f0_), (Value.pointer x103f1_)], c.oneCell' = true) ∧ wrAt hp_15 b_2 0 2 ∧ ∀ hp_16, hp_16 = setsH hp_15 b_2 0 [(Value.pointer x103f0_), (Value.pointer x103f1_)] →
        ∃ x104f0_ : Option Addr, ∃ x104f1_ : Option Addr, cellsAt hp_16 b_2 0 [(Value.pointer x104f0_), (Value.pointer x104f1_)] ∧
        ∃ b_3 o_2, scriptp_ = some ⟨b_3, o_2, none⟩ ∧ 0 ≤ i_ ∧ i_ < (scriptn_ : Int) ∧
        ∃ x108f0_ : Int, ∃ x108f1_ : Int, ∃ x108f2_ : Int, ∃ x108f3_ : ByteArray, ∃ x108f4_ : Int, ∃ (x108f5p_ : Option Addr) (x108f5n_ x108f5c_ : Nat), cellsAt hp_16 b_3 (o_2 + Int.toNat i_ * 6) [(Value.int .i64 x108f0_), (Value.int .i64 x108f1_), (Value.int .i64 x108f2_), (Value.string x108f3_), (Value.int .u8 x108f4_), (Value.slice x108f5p_ x108f5n_ x108f5c_)] ∧
        CallsH Try.prog 33 #[(Value.agg #[(Value.pointer x104f0_), (Value.pointer x104f1_)]), (Value.agg #[(Value.int .i64 x108f0_), (Value.int .i64 x108f1_), (Value.int .i64 x108f2_), (Value.string x108f3_), (Value.int .u8 x108f4_), (Value.slice x108f5p_ x108f5n_ x108f5c_)])] hp_16 fun en_7 hp_17 =>
        ∃ x109_ : Bool, en_7 = .returned (Value.bool x109_) ∧
        (((!x109_) = true →
          R (.returned (Value.bool false)) hp_17) ∧
         ((!x109_) = false →
          ∃ (Iv_1 : List Value → Hp → Prop) (m_1 : List Value → Hp → Nat), Iv_1 [(Value.int .i64 (0 : Int))] hp_17 ∧
          (∀ (k_ : Int) hp_18, Iv_1 [(Value.int .i64 k_)] hp_18 →
           (((decide (k_ < ((ln_ : Nat) : Int))) = true →
             ∃ b_4 o_3, lp_ = some ⟨b_4, o_3, none⟩ ∧ 0 ≤ k_ ∧ k_ < (ln_ : Int) ∧
             ∃ x121f0_ : Option Addr, ∃ x121f1_ : Option Addr, cellsAt hp_18 b_4 (o_3 + Int.toNat k_ * 2) [(Value.pointer x121f0_), (Value.pointer x121f1_)] ∧
             CallsH Try.prog 29 #[(Value.agg #[(Value.pointer x121f0_), (Value.pointer x121f1_)])] hp_18 fun en_8 hp_19 =>
             ∃ x122_ : Bool, en_8 = .returned (Value.bool x122_) ∧
             (((!x122_) = true →
               R (.returned (Value.bool false)) hp_19) ∧
              ((!x122_) = false →
               ∃ x117_, IntKind.i64.wrap (k_ + (1 : Int)) = x117_ ∧
               (Iv_1 [(Value.int .i64 x117_)] hp_19 ∧ m_1 [(Value.int .i64 x117_)] hp_19 < m_1 [(Value.int .i64 k_)] hp_18)))) ∧
            ((decide (k_ < ((ln_ : Nat) : Int))) = false →
             ∃ x92_, IntKind.i64.wrap (i_ + (1 : Int)) = x92_ ∧
             (Iv_ [(Value.int .i64 x92_)] hp_18 ∧ m_ [(Value.int .i64 x92_)] hp_18 < m_ [(Value.int .i64 i_)] hp_13))))))) ∧
       ((decide (i_ < ((scriptn_ : Nat) : Int))) = false →
        ∃ (Iv_2 : List Value → Hp → Prop) (m_2 : List Value → Hp → Nat), Iv_2 [(Value.int .i64 (0 : Int))] hp_13 ∧
        (∀ (k_1 : Int) hp_20, Iv_2 [(Value.int .i64 k_1)] hp_20 →
         (((decide (k_1 < ((ln_ : Nat) : Int))) = true →
           ∃ b_5 o_4, lp_ = some ⟨b_5, o_4, none⟩ ∧ 0 ≤ k_1 ∧ k_1 < (ln_ : Int) ∧
           ∃ x134f0_ : Option Addr, ∃ x134f1_ : Option Addr, cellsAt hp_20 b_5 (o_4 + Int.toNat k_1 * 2) [(Value.pointer x134f0_), (Value.pointer x134f1_)] ∧
           CallsH Try.prog 34 #[(Value.agg #[(Value.pointer x134f0_), (Value.pointer x134f1_)])] hp_20 fun en_9 hp_21 =>
           ∃ x135_ : Bool, en_9 = .returned (Value.bool x135_) ∧
           ∃ Cv_ : Hp → Prop, Cv_ hp_21 ∧
           (((!x135_) = true →
             R (.returned (Value.bool false)) hp_21) ∧
            ((!x135_) = false →
             ∃ b_6 o_5, lp_ = some ⟨b_6, o_5, none⟩ ∧ 0 ≤ k_1 ∧ k_1 < (ln_ : Int) ∧
             ∃ x143_ : Option Addr, cellsAt hp_21 b_6 ((o_5 + Int.toNat k_1 * 2) + 0) [(Value.pointer x143_)] ∧
             CallsH Try.prog 14 #[(Value.pointer x143_)] hp_21 fun en_10 hp_22 =>
             ∃ x144_ : ByteArray, en_10 = .returned (Value.string x144_) ∧
             Cv_ hp_22 ∧
             ∃ b_7 o_6, lp_ = some ⟨b_7, o_6, none⟩ ∧ 0 ≤ k_1 ∧ k_1 < (ln_ : Int) ∧
             ∃ x149_ : Option Addr, (∀ h', Cv_ h' → cellsAt h' b_7 ((o_6 + Int.toNat k_1 * 2) + 1) [(Value.pointer x149_)]) ∧
             CallsH Try.prog 31 #[(Value.pointer x149_)] hp_22 fun en_11 hp_23 =>
             ∃ x150_ : ByteArray, en_11 = .returned (Value.string x150_) ∧
             Cv_ hp_23 ∧
             (((decide (x144_ ≠ x150_)) = true →
               R (.returned (Value.bool false)) hp_23) ∧
              ((decide (x144_ ≠ x150_)) = false →
               ∃ x130_, IntKind.i64.wrap (k_1 + (1 : Int)) = x130_ ∧
               (Iv_2 [(Value.int .i64 x130_)] hp_23 ∧ m_2 [(Value.int .i64 x130_)] hp_23 < m_2 [(Value.int .i64 k_1)] hp_20)))))) ∧
          ((decide (k_1 < ((ln_ : Nat) : Int))) = false →
           R (.returned (Value.bool true)) hp_20)))))))))) :
  CallsH Try.prog 10 #[(Value.int .i64 sectors_), (Value.string image_), (Value.slice scriptp_ scriptn_ scriptc_)] h R := calls_vc fine false Try.func10 (ann := A10) (args := [(Value.int .i64 sectors_), (Value.string image_), (Value.slice scriptp_ scriptn_ scriptc_)]) (by kernel_rfl) (Eq.mpr (by kernel_rfl) H)
/-- turnout/turnoutlaw04.awake -/
def A11 : Ann := (.seq .nil (.seq .nil (.cut (.seq (.join 18) (.cond (.seq .nil .nil) .nil)) [] (.seq .nil (.seq .nil (.seq .nil (.seq .nil (.seq .nil (.seq .nil (.seq (.join 0) .nil))))))))))
theorem V11  (h : Hp) (R : Ending → Hp → Prop) (H :
  CallsH Try.prog 20 #[(Value.int .i64 (2 : Int))] h fun en_ hp_ =>
  ∃ x10r0_ : Option Addr, ∃ x10r1_ : Int, en_ = .returned (Value.tuple #[(Value.pointer x10r0_), (Value.int .i64 x10r1_)]) ∧
  ∃ Jv_ : List Value → Hp → Prop,
  (∃ B_ : Bool, (∃ x14_, EqV Try.prog 25 (Value.pointer x10r0_) (Value.pointer none) x14_ ∧
    ((x14_ = true →
      hp_ = hp_ ∧ B_ = true) ∧
     (x14_ = false →
      hp_ = hp_ ∧ B_ = (decide (x10r1_ ≠ (0 : Int)))))) ∧
   ((B_ = true →
     R (.returned (Value.bool false)) hp_) ∧
    (B_ = false →
     Jv_ [] hp_))) ∧
  (∀  hp_1, Jv_ [] hp_1 →
   CallsH Try.prog 18 #[(Value.int .u8 (97 : Int)), (Value.int .u8 (97 : Int))] hp_1 fun en_1 hp_2 =>
   ∃ x19_ : ByteArray, en_1 = .returned (Value.string x19_) ∧
   CallsH Try.prog 18 #[(Value.int .u8 (98 : Int)), (Value.int .u8 (98 : Int))] hp_2 fun en_2 hp_3 =>
   ∃ x20_ : ByteArray, en_2 = .returned (Value.string x20_) ∧
   CallsH Try.prog 17 #[(Value.pointer x10r0_), (Value.int .i64 (0 : Int)), (Value.string x19_)] hp_3 fun en_3 hp_4 =>
   ∃ x23_ : Int, en_3 = .returned (Value.int .i64 x23_) ∧
   CallsH Try.prog 17 #[(Value.pointer x10r0_), (Value.int .i64 (0 : Int)), (Value.string x20_)] hp_4 fun en_4 hp_5 =>
   ∃ x26_ : Int, en_4 = .returned (Value.int .i64 x26_) ∧
   SemH Try.prog (Instr.buildSlice 28 2 #[(0, (Value.agg #[(Value.int .i64 (1 : Int)), (Value.int .i64 (0 : Int))])), (1, (Value.agg #[(Value.int .i64 (2 : Int)), (Value.int .i64 (3 : Int))]))]) hp_5 fun v_ hp_6 =>
   ∃ (x30p_ : Option Addr) (x30n_ x30c_ : Nat), v_ = (Value.slice x30p_ x30n_ x30c_) ∧
   CallsH Try.prog 16 #[(Value.pointer x10r0_), (Value.slice x30p_ x30n_ x30c_)] hp_6 fun en_5 hp_7 =>
   en_5 = .returned (Value.tuple #[]) ∧
   CallsH Try.prog 23 #[(Value.pointer x10r0_), (Value.int .i64 (0 : Int))] hp_7 fun en_6 hp_8 =>
   ∃ x34r0_ : ByteArray, ∃ x34r1_ : Int, en_6 = .returned (Value.tuple #[(Value.string x34r0_), (Value.int .i64 x34r1_)]) ∧
   ∃ B_1 : Bool, ((((decide (x23_ = (0 : Int))) = true →
      (((decide (x26_ = (0 : Int))) = true →
        (((decide (x34r1_ = (0 : Int))) = true →
          ∃ l_ : Nat, (3 : Int) = (l_ : Int) ∧
          l_ ≤ (ByteArray.size x19_) ∧ (ByteArray.size x19_) ≤ ByteArray.size x19_ ∧ ∃ x50_, ByteArray.extract x19_ l_ (ByteArray.size x19_) = x50_ ∧
          ByteArray.size (⟨#[98, 98, 98]⟩ : ByteArray) + ByteArray.size x50_ ≤ 9223372036854775807 ∧ ∃ x51_, (⟨#[98, 98, 98]⟩ : ByteArray) ++ x50_ = x51_ ∧
          hp_8 = hp_8 ∧ B_1 = (decide (x34r0_ = x51_))) ∧
         ((decide (x34r1_ = (0 : Int))) = false →
          hp_8 = hp_8 ∧ B_1 = false))) ∧
       ((decide (x26_ = (0 : Int))) = false →
        hp_8 = hp_8 ∧ B_1 = false))) ∧
     ((decide (x23_ = (0 : Int))) = false →
      hp_8 = hp_8 ∧ B_1 = false))) ∧
   R (.returned (Value.bool B_1)) hp_8)) :
  CallsH Try.prog 11 #[] h R := calls_vc fine false Try.func11 (ann := A11) (args := []) (by kernel_rfl) (Eq.mpr (by kernel_rfl) H)
/-- turnout/turnoutlaw04.pick -/
def A12 : Ann := (.seq .nil (.seq (.seq .nil (.cond .nil .nil)) (.seq .nil .nil)))
theorem V12 (c_ : Int) (n_ : Int) (h : Hp) (R : Ending → Hp → Prop) (H :
  (((decide (c_ < (0 : Int))) = true →
    ∃ x8_, IntKind.i64.wrap (c_ + (1 : Int)) = x8_ ∧
    ∃ x9_, IntKind.i64.wrap (0 - x8_) = x9_ ∧
    n_ ≠ 0 ∧ ∃ x12_, Int.tmod x9_ n_ = x12_ ∧
    R (.returned (Value.int .i64 x12_)) h) ∧
   ((decide (c_ < (0 : Int))) = false →
    n_ ≠ 0 ∧ ∃ x12_1, Int.tmod c_ n_ = x12_1 ∧
    R (.returned (Value.int .i64 x12_1)) h))) :
  CallsH Try.prog 12 #[(Value.int .i64 c_), (Value.int .i64 n_)] h R := calls_vc fine false Try.func12 (ann := A12) (args := [(Value.int .i64 c_), (Value.int .i64 n_)]) (by kernel_rfl) (Eq.mpr (by kernel_rfl) H)
/-- turnout/turnoutlaw04.written -/
def A13 : Ann := (.seq .nil (.seq .nil (.cut (.seq (.join 24) (.cond (.seq .nil .nil) .nil)) [] (.seq (.seq .nil (.block (.loop [(9, (.int .i64))] (.seq (.seq .nil (.cond .nil .nil)) (.seq (.block (.seq (.drawLast [12, 17]) (.seq .nil (.cond (.seq .nil .nil) .nil)))) .nil))))) (.seq .nil (.seq (.seq .nil (.cond (.seq .nil .nil) .nil)) (.seq (.seq .nil (.block (.loop [(12, (.int .i64))] (.seq (.seq .nil (.cond .nil .nil)) (.seq (.block (.seq (.drawLast [12, 17]) (.seq .nil (.cond (.seq .nil .nil) .nil)))) .nil))))) (.seq .nil .nil))))))))
theorem V13 (sectors_ : Int) (firstp_ : Option Addr) (firstn_ firstc_ : Nat) (behindp_ : Option Addr) (behindn_ behindc_ : Nat) (h : Hp) (R : Ending → Hp → Prop) (H :
  CallsH Try.prog 20 #[(Value.int .i64 sectors_)] h fun en_ hp_ =>
  ∃ x16r0_ : Option Addr, ∃ x16r1_ : Int, en_ = .returned (Value.tuple #[(Value.pointer x16r0_), (Value.int .i64 x16r1_)]) ∧
  ∃ Jv_ : List Value → Hp → Prop,
  (∃ B_ : Bool, ((((decide (x16r1_ ≠ (0 : Int))) = true →
      hp_ = hp_ ∧ B_ = true) ∧
     ((decide (x16r1_ ≠ (0 : Int))) = false →
      ∃ x23_, EqV Try.prog 25 (Value.pointer x16r0_) (Value.pointer none) x23_ ∧
      hp_ = hp_ ∧ B_ = x23_))) ∧
   ((B_ = true →
     R (.returned (Value.pointer none)) hp_) ∧
    (B_ = false →
     Jv_ [] hp_))) ∧
  (∀  hp_1, Jv_ [] hp_1 →
   ∃ (Iv_ : List Value → Hp → Prop) (m_ : List Value → Hp → Nat), Iv_ [(Value.int .i64 (0 : Int))] hp_1 ∧
   (∀ (i_ : Int) hp_2, Iv_ [(Value.int .i64 i_)] hp_2 →
    (((decide (i_ < ((firstn_ : Nat) : Int))) = true →
      ∃ Cv_ : Hp → Prop, Cv_ hp_2 ∧
      ∃ b_ o_, firstp_ = some ⟨b_, o_, none⟩ ∧ 0 ≤ i_ ∧ i_ < (firstn_ : Int) ∧
      ∃ x36_ : Int, cellsAt hp_2 b_ ((o_ + Int.toNat i_ * 3) + 0) [(Value.int .i64 x36_)] ∧
      CallsH Try.prog 12 #[(Value.int .i64 x36_), (Value.int .i64 sectors_)] hp_2 fun en_1 hp_3 =>
      ∃ x38_ : Int, en_1 = .returned (Value.int .i64 x38_) ∧
      Cv_ hp_3 ∧
      ∃ b_1 o_1, firstp_ = some ⟨b_1, o_1, none⟩ ∧ 0 ≤ i_ ∧ i_ < (firstn_ : Int) ∧
      ∃ x43_ : Int, (∀ h', Cv_ h' → cellsAt h' b_1 ((o_1 + Int.toNat i_ * 3) + 1) [(Value.int .u8 x43_)]) ∧
      ∃ b_2 o_2, firstp_ = some ⟨b_2, o_2, none⟩ ∧ 0 ≤ i_ ∧ i_ < (firstn_ : Int) ∧
      ∃ x48_ : Int, (∀ h', Cv_ h' → cellsAt h' b_2 ((o_2 + Int.toNat i_ * 3) + 2) [(Value.int .u8 x48_)]) ∧
      CallsH Try.prog 18 #[(Value.int .u8 x43_), (Value.int .u8 x48_)] hp_3 fun en_2 hp_4 =>
      ∃ x49_ : ByteArray, en_2 = .returned (Value.string x49_) ∧
      Cv_ hp_4 ∧
      CallsH Try.prog 17 #[(Value.pointer x16r0_), (Value.int .i64 x38_), (Value.string x49_)] hp_4 fun en_3 hp_5 =>
      ∃ x50_ : Int, en_3 = .returned (Value.int .i64 x50_) ∧
      Cv_ hp_5 ∧
      (((decide (x50_ ≠ (0 : Int))) = true →
        R (.returned (Value.pointer none)) hp_5) ∧
       ((decide (x50_ ≠ (0 : Int))) = false →
        ∃ x30_, IntKind.i64.wrap (i_ + (1 : Int)) = x30_ ∧
        (Iv_ [(Value.int .i64 x30_)] hp_5 ∧ m_ [(Value.int .i64 x30_)] hp_5 < m_ [(Value.int .i64 i_)] hp_2)))) ∧
     ((decide (i_ < ((firstn_ : Nat) : Int))) = false →
      CallsH Try.prog 15 #[(Value.pointer x16r0_)] hp_2 fun en_4 hp_6 =>
      ∃ x54_ : Int, en_4 = .returned (Value.int .i64 x54_) ∧
      (((decide (x54_ ≠ (0 : Int))) = true →
        R (.returned (Value.pointer none)) hp_6) ∧
       ((decide (x54_ ≠ (0 : Int))) = false →
        ∃ (Iv_1 : List Value → Hp → Prop) (m_1 : List Value → Hp → Nat), Iv_1 [(Value.int .i64 (0 : Int))] hp_6 ∧
        (∀ (i_1 : Int) hp_7, Iv_1 [(Value.int .i64 i_1)] hp_7 →
         (((decide (i_1 < ((behindn_ : Nat) : Int))) = true →
           ∃ Cv_1 : Hp → Prop, Cv_1 hp_7 ∧
           ∃ b_3 o_3, behindp_ = some ⟨b_3, o_3, none⟩ ∧ 0 ≤ i_1 ∧ i_1 < (behindn_ : Int) ∧
           ∃ x68_ : Int, cellsAt hp_7 b_3 ((o_3 + Int.toNat i_1 * 3) + 0) [(Value.int .i64 x68_)] ∧
           CallsH Try.prog 12 #[(Value.int .i64 x68_), (Value.int .i64 sectors_)] hp_7 fun en_5 hp_8 =>
           ∃ x70_ : Int, en_5 = .returned (Value.int .i64 x70_) ∧
           Cv_1 hp_8 ∧
           ∃ b_4 o_4, behindp_ = some ⟨b_4, o_4, none⟩ ∧ 0 ≤ i_1 ∧ i_1 < (behindn_ : Int) ∧
           ∃ x75_ : Int, (∀ h', Cv_1 h' → cellsAt h' b_4 ((o_4 + Int.toNat i_1 * 3) + 1) [(Value.int .u8 x75_)]) ∧
           ∃ b_5 o_5, behindp_ = some ⟨b_5, o_5, none⟩ ∧ 0 ≤ i_1 ∧ i_1 < (behindn_ : Int) ∧
           ∃ x80_ : Int, (∀ h', Cv_1 h' → cellsAt h' b_5 ((o_5 + Int.toNat i_1 * 3) + 2) [(Value.int .u8 x80_)]) ∧
           CallsH Try.prog 18 #[(Value.int .u8 x75_), (Value.int .u8 x80_)] hp_8 fun en_6 hp_9 =>
           ∃ x81_ : ByteArray, en_6 = .returned (Value.string x81_) ∧
           Cv_1 hp_9 ∧
           CallsH Try.prog 17 #[(Value.pointer x16r0_), (Value.int .i64 x70_), (Value.string x81_)] hp_9 fun en_7 hp_10 =>
           ∃ x82_ : Int, en_7 = .returned (Value.int .i64 x82_) ∧
           Cv_1 hp_10 ∧
           (((decide (x82_ ≠ (0 : Int))) = true →
             R (.returned (Value.pointer none)) hp_10) ∧
            ((decide (x82_ ≠ (0 : Int))) = false →
             ∃ x62_, IntKind.i64.wrap (i_1 + (1 : Int)) = x62_ ∧
             (Iv_1 [(Value.int .i64 x62_)] hp_10 ∧ m_1 [(Value.int .i64 x62_)] hp_10 < m_1 [(Value.int .i64 i_1)] hp_7)))) ∧
          ((decide (i_1 < ((behindn_ : Nat) : Int))) = false →
           R (.returned (Value.pointer x16r0_)) hp_7)))))))))) :
  CallsH Try.prog 13 #[(Value.int .i64 sectors_), (Value.slice firstp_ firstn_ firstc_), (Value.slice behindp_ behindn_ behindc_)] h R := calls_vc fine false Try.func13 (ann := A13) (args := [(Value.int .i64 sectors_), (Value.slice firstp_ firstn_ firstc_), (Value.slice behindp_ behindn_ behindc_)]) (by kernel_rfl) (Eq.mpr (by kernel_rfl) H)
/-- (*turnout/disk.Disk).Image -/
def A14 : Ann := (.seq .nil (.seq (.seq .nil (.cond (.seq .nil .nil) .nil)) (.seq .nil (.seq (.seq .nil (.block (.loop [(3, .slice), (20, (.int .i64))] (.seq .nil (.seq (.cond .nil .nil) (.seq (.block (.seq .nil .nil)) .nil)))))) (.seq .nil .nil)))))
theorem V14 (d_ : Option Addr) (h : Hp) (R : Ending → Hp → Prop) (H :
  ∃ x7_, EqV Try.prog 25 (Value.pointer d_) (Value.pointer none) x7_ ∧
  ((x7_ = true →
    R (.returned (Value.string (⟨#[]⟩ : ByteArray))) h) ∧
   (x7_ = false →
    ∃ b_ o_, d_ = some ⟨b_, o_, none⟩ ∧
    ∃ (x11p_ : Option Addr) (x11n_ x11c_ : Nat), cellsAt h b_ (o_ + 0) [(Value.slice x11p_ x11n_ x11c_)] ∧
    ∃ x13_, IntKind.i64.wrap (((x11n_ : Nat) : Int) * (512 : Int)) = x13_ ∧
    SemH Try.prog (Instr.makeSlice 62 (Value.int .i64 (0 : Int)) (Value.int .i64 x13_)) h fun v_ hp_ =>
    ∃ (x14p_ : Option Addr) (x14n_ x14c_ : Nat), v_ = (Value.slice x14p_ x14n_ x14c_) ∧
    ∃ b_1 o_1, d_ = some ⟨b_1, o_1, none⟩ ∧
    ∃ (x18p_ : Option Addr) (x18n_ x18c_ : Nat), cellsAt hp_ b_1 (o_1 + 0) [(Value.slice x18p_ x18n_ x18c_)] ∧
    ∃ (Iv_ : List Value → Hp → Prop) (m_ : List Value → Hp → Nat), Iv_ [(Value.slice x14p_ x14n_ x14c_), (Value.int .i64 (0 : Int))] hp_ ∧
    (∀ (bp_ : Option Addr) (bn_ bc_ : Nat) (x20_ : Int) hp_1, Iv_ [(Value.slice bp_ bn_ bc_), (Value.int .i64 x20_)] hp_1 →
     (((decide (x20_ < ((x18n_ : Nat) : Int))) = true →
       ∃ b_2 o_2, x18p_ = some ⟨b_2, o_2, none⟩ ∧ 0 ≤ x20_ ∧ x20_ < (x18n_ : Int) ∧
       ∃ x23_ : ByteArray, cellsAt hp_1 b_2 (o_2 + Int.toNat x20_ * 1) [(Value.string x23_)] ∧
       SemH Try.prog (Builtin.append_ #[62, 9] 62 #[(Value.slice bp_ bn_ bc_), (Value.string x23_)]) hp_1 fun v_1 hp_2 =>
       ∃ (x26p_ : Option Addr) (x26n_ x26c_ : Nat), v_1 = (Value.slice x26p_ x26n_ x26c_) ∧
       ∃ x27_, IntKind.i64.wrap (x20_ + (1 : Int)) = x27_ ∧
       (Iv_ [(Value.slice x26p_ x26n_ x26c_), (Value.int .i64 x27_)] hp_2 ∧ m_ [(Value.slice x26p_ x26n_ x26c_), (Value.int .i64 x27_)] hp_2 < m_ [(Value.slice bp_ bn_ bc_), (Value.int .i64 x20_)] hp_1)) ∧
      ((decide (x20_ < ((x18n_ : Nat) : Int))) = false →
       SemH Try.prog (convert 62 9 (Value.slice bp_ bn_ bc_)) hp_1 fun v_2 hp_3 =>
       ∃ x29_ : ByteArray, v_2 = (Value.string x29_) ∧
       R (.returned (Value.string x29_)) hp_3)))))) :
  CallsH Try.prog 14 #[(Value.pointer d_)] h R := calls_vc fine false Try.func14 (ann := A14) (args := [(Value.pointer d_)]) (by kernel_rfl) (Eq.mpr (by kernel_rfl) H)
/-- (*turnout/disk.Disk).Flush -/
def A15 : Ann := (.seq .nil (.seq .nil (.seq (.seq .nil (.cond (.seq .nil .nil) .nil)) (.seq (.seq .nil (.cond (.seq .nil .nil) .nil)) (.seq (.seq .nil (.block (.loop [(19, (.int .i64))] (.seq .nil (.seq (.cond .nil .nil) (.seq (.block (.seq .nil .nil)) .nil)))))) (.seq .nil (.seq .nil (.seq .nil .nil))))))))
theorem V15 (d_ : Option Addr) (h : Hp) (R : Ending → Hp → Prop) (H :
  CallsH Try.prog 35 #[(Value.pointer d_), (Value.int .i64 (0 : Int))] h fun en_ hp_ =>
  ∃ x7_ : Int, en_ = .returned (Value.int .i64 x7_) ∧
  (((decide (x7_ ≠ (0 : Int))) = true →
    R (.returned (Value.int .i64 x7_)) hp_) ∧
   ((decide (x7_ ≠ (0 : Int))) = false →
    CallsH Try.prog 36 #[(Value.pointer d_)] hp_ fun en_1 hp_1 =>
    ∃ x12_ : Bool, en_1 = .returned (Value.bool x12_) ∧
    (((!x12_) = true →
      R (.returned (Value.int .i64 (40 : Int))) hp_1) ∧
     ((!x12_) = false →
      ∃ b_ o_, d_ = some ⟨b_, o_, none⟩ ∧
      ∃ (x17p_ : Option Addr) (x17n_ x17c_ : Nat), cellsAt hp_1 b_ (o_ + 3) [(Value.slice x17p_ x17n_ x17c_)] ∧
      ∃ (Iv_ : List Value → Hp → Prop) (m_ : List Value → Hp → Nat), Iv_ [(Value.int .i64 (0 : Int))] hp_1 ∧
      (∀ (x19_ : Int) hp_2, Iv_ [(Value.int .i64 x19_)] hp_2 →
       (((decide (x19_ < ((x17n_ : Nat) : Int))) = true →
         ∃ b_1 o_1, x17p_ = some ⟨b_1, o_1, none⟩ ∧ 0 ≤ x19_ ∧ x19_ < (x17n_ : Int) ∧
         ∃ x22_ : Value, cellsAt hp_2 b_1 (o_1 + Int.toNat x19_ * 1) [x22_] ∧
         ∃ b_2 o_2, d_ = some ⟨b_2, o_2, none⟩ ∧
         ∃ (x27p_ : Option Addr) (x27n_ x27c_ : Nat), cellsAt hp_2 b_2 (o_2 + 0) [(Value.slice x27p_ x27n_ x27c_)] ∧
         ∃ fn_ fst_ cap_, x22_ = Value.func (.func fn_) fst_ cap_ ∧ bodied Try.prog fn_ = true ∧
         CallsH Try.prog fn_ (fst_.toList ++ [(Value.slice x27p_ x27n_ x27c_), (Value.int .i64 (512 : Int))] ++ cap_.toList).toArray hp_2 fun en_2 hp_3 =>
         en_2 = .returned (Value.tuple #[]) ∧
         ∃ x29_, IntKind.i64.wrap (x19_ + (1 : Int)) = x29_ ∧
         (Iv_ [(Value.int .i64 x29_)] hp_3 ∧ m_ [(Value.int .i64 x29_)] hp_3 < m_ [(Value.int .i64 x19_)] hp_2)) ∧
        ((decide (x19_ < ((x17n_ : Nat) : Int))) = false →
         CallsH Try.prog 37 #[(Value.pointer d_)] hp_2 fun en_3 hp_4 =>
         en_3 = .returned (Value.tuple #[]) ∧
         ∃ b_3 o_3, d_ = some ⟨b_3, o_3, none⟩ ∧
         ∃ x36_ : Int, cellsAt hp_4 b_3 ((o_3 + 6) + 2) [(Value.int .i64 x36_)] ∧
         ∃ x37_, IntKind.i64.wrap (x36_ + (1 : Int)) = x37_ ∧
         ∃ b_4 o_4, d_ = some ⟨b_4, o_4, none⟩ ∧
         Value.oneCell' (Value.int .i64 x37_) = true ∧ wrAt hp_4 b_4 ((o_4 + 6) + 2) 1 ∧ ∀ hp_5, hp_5 = setsH hp_4 b_4 ((o_4 + 6) + 2) [(Value.int .i64 x37_)] →
         R (.returned (Value.int .i64 (0 : Int))) hp_5)))))))) :
  CallsH Try.prog 15 #[(Value.pointer d_)] h R := calls_vc fine false Try.func15 (ann := A15) (args := [(Value.pointer d_)]) (by kernel_rfl) (Eq.mpr (by kernel_rfl) H)
/-- (*turnout/disk.Disk).Crash -/
def A16 : Ann := (.seq (.seq .nil (.cond .nil .nil)) (.cut (.seq .nil (.block (.loop [(13, (.int .i64))] (.seq .nil (.seq (.cond .nil .nil) (.seq (.block (.seq .nil (.seq (.seq .nil (.cond .nil .nil)) (.drawLast [4])))) .nil)))))) [] (.seq .nil (.seq .nil .nil))))
theorem V16 (d_ : Option Addr) (fatesp_ : Option Addr) (fatesn_ fatesc_ : Nat) (h : Hp) (R : Ending → Hp → Prop) (H :
  ∃ x7_, EqV Try.prog 25 (Value.pointer d_) (Value.pointer none) x7_ ∧
  ((x7_ = true →
    R (.returned (Value.tuple #[])) h) ∧
   (x7_ = false →
    ∃ Jv_ : List Value → Hp → Prop,
    (∃ b_ o_, d_ = some ⟨b_, o_, none⟩ ∧
     ∃ (x11p_ : Option Addr) (x11n_ x11c_ : Nat), cellsAt h b_ (o_ + 3) [(Value.slice x11p_ x11n_ x11c_)] ∧
     ∃ (Iv_ : List Value → Hp → Prop) (m_ : List Value → Hp → Nat), Iv_ [(Value.int .i64 (0 : Int))] h ∧
     (∀ (x13_ : Int) hp_, Iv_ [(Value.int .i64 x13_)] hp_ →
      (((decide (x13_ < ((x11n_ : Nat) : Int))) = true →
        ∃ b_1 o_1, x11p_ = some ⟨b_1, o_1, none⟩ ∧ 0 ≤ x13_ ∧ x13_ < (x11n_ : Int) ∧
        ∃ x17_ : Value, cellsAt hp_ b_1 (o_1 + Int.toNat x13_ * 1) [x17_] ∧
        (((decide (((fatesn_ : Nat) : Int) ≤ x13_)) = true →
          Jv_ [] hp_) ∧
         ((decide (((fatesn_ : Nat) : Int) ≤ x13_)) = false →
          ∃ Cv_ : Hp → Prop, Cv_ hp_ ∧
          ∃ b_2 o_2, d_ = some ⟨b_2, o_2, none⟩ ∧
          ∃ (x26p_ : Option Addr) (x26n_ x26c_ : Nat), (∀ h', Cv_ h' → cellsAt h' b_2 (o_2 + 0) [(Value.slice x26p_ x26n_ x26c_)]) ∧
          ∃ b_3 o_3, fatesp_ = some ⟨b_3, o_3, none⟩ ∧ 0 ≤ x13_ ∧ x13_ < (fatesn_ : Int) ∧
          ∃ x30f0_ : Int, ∃ x30f1_ : Int, cellsAt hp_ b_3 (o_3 + Int.toNat x13_ * 2) [(Value.int .i64 x30f0_), (Value.int .i64 x30f1_)] ∧
          CallsH Try.prog 38 #[(Value.agg #[(Value.int .i64 x30f0_), (Value.int .i64 x30f1_)])] hp_ fun en_ hp_1 =>
          ∃ x31_ : Int, en_ = .returned (Value.int .i64 x31_) ∧
          Cv_ hp_1 ∧
          ∃ fn_ fst_ cap_, x17_ = Value.func (.func fn_) fst_ cap_ ∧ bodied Try.prog fn_ = true ∧
          CallsH Try.prog fn_ (fst_.toList ++ [(Value.slice x26p_ x26n_ x26c_), (Value.int .i64 x31_)] ++ cap_.toList).toArray hp_1 fun en_1 hp_2 =>
          en_1 = .returned (Value.tuple #[]) ∧
          ∃ x33_, IntKind.i64.wrap (x13_ + (1 : Int)) = x33_ ∧
          (Iv_ [(Value.int .i64 x33_)] hp_2 ∧ m_ [(Value.int .i64 x33_)] hp_2 < m_ [(Value.int .i64 x13_)] hp_)))) ∧
       ((decide (x13_ < ((x11n_ : Nat) : Int))) = false →
        Jv_ [] hp_)))) ∧
    (∀  hp_3, Jv_ [] hp_3 →
     CallsH Try.prog 37 #[(Value.pointer d_)] hp_3 fun en_2 hp_4 =>
     en_2 = .returned (Value.tuple #[]) ∧
     ∃ b_4 o_4, d_ = some ⟨b_4, o_4, none⟩ ∧
     Value.oneCell' (Value.bool false) = true ∧ wrAt hp_4 b_4 (o_4 + 4) 1 ∧ ∀ hp_5, hp_5 = setsH hp_4 b_4 (o_4 + 4) [(Value.bool false)] →
     ∃ b_5 o_5, d_ = some ⟨b_5, o_5, none⟩ ∧
     Value.oneCell' (Value.int .i64 (0 : Int)) = true ∧ wrAt hp_5 b_5 (o_5 + 5) 1 ∧ ∀ hp_6, hp_6 = setsH hp_5 b_5 (o_5 + 5) [(Value.int .i64 (0 : Int))] →
     R (.returned (Value.tuple #[])) hp_6)))) :
  CallsH Try.prog 16 #[(Value.pointer d_), (Value.slice fatesp_ fatesn_ fatesc_)] h R := calls_vc fine false Try.func16 (ann := A16) (args := [(Value.pointer d_), (Value.slice fatesp_ fatesn_ fatesc_)]) (by kernel_rfl) (Eq.mpr (by kernel_rfl) H)
/-- (*turnout/disk.Disk).Write -/
def A17 : Ann := (.seq .nil (.seq .nil (.seq (.seq .nil (.cond (.seq .nil .nil) .nil)) (.seq (.seq .nil (.cond (.seq .nil .nil) .nil)) (.seq (.seq .nil (.cond (.seq .nil .nil) .nil)) (.seq .nil (.seq (.drawLast [4]) (.seq .nil (.seq .nil (.seq .nil .nil))))))))))
theorem V17 (d_ : Option Addr) (n_ : Int) (s_ : ByteArray) (h : Hp) (R : Ending → Hp → Prop) (H :
  ∀ b_ hp_, b_ = Array.size h → hp_ = Array.push h (.cells #[(Value.int .i64 n_)] 3) →
  ∀ b_1 hp_1, b_1 = Array.size hp_ → hp_1 = Array.push hp_ (.cells #[(Value.string s_)] 9) →
  ∃ x9_ : Int, cellsAt hp_1 b_ 0 [(Value.int .i64 x9_)] ∧
  CallsH Try.prog 35 #[(Value.pointer d_), (Value.int .i64 x9_)] hp_1 fun en_ hp_2 =>
  ∃ x10_ : Int, en_ = .returned (Value.int .i64 x10_) ∧
  (((decide (x10_ ≠ (0 : Int))) = true →
    R (.returned (Value.int .i64 x10_)) hp_2) ∧
   ((decide (x10_ ≠ (0 : Int))) = false →
    ∃ x14_ : ByteArray, cellsAt hp_2 b_1 0 [(Value.string x14_)] ∧
    (((decide ((ByteArray.size x14_ : Int) ≠ (512 : Int))) = true →
      R (.returned (Value.int .i64 (42 : Int))) hp_2) ∧
     ((decide ((ByteArray.size x14_ : Int) ≠ (512 : Int))) = false →
      CallsH Try.prog 36 #[(Value.pointer d_)] hp_2 fun en_1 hp_3 =>
      ∃ x18_ : Bool, en_1 = .returned (Value.bool x18_) ∧
      (((!x18_) = true →
        R (.returned (Value.int .i64 (40 : Int))) hp_3) ∧
       ((!x18_) = false →
        ∃ b_2 o_, d_ = some ⟨b_2, o_, none⟩ ∧
        ∃ x23_ : Option Nat, cellsAt hp_3 b_2 (o_ + 1) [(Value.map x23_)] ∧
        ∃ x24_ : Int, cellsAt hp_3 b_ 0 [(Value.int .i64 x24_)] ∧
        ∃ x25_ : ByteArray, cellsAt hp_3 b_1 0 [(Value.string x25_)] ∧
        SemH Try.prog (Instr.mapUpdate 73 (Value.map x23_) (Value.int .i64 x24_) (Value.string x25_)) hp_3 fun _ hp_4 =>
        ∃ Cv_ : Hp → Prop, Cv_ hp_4 ∧
        ∃ b_3 o_1, d_ = some ⟨b_3, o_1, none⟩ ∧
        ∃ (x30p_ : Option Addr) (x30n_ x30c_ : Nat), (∀ h', Cv_ h' → cellsAt h' b_3 (o_1 + 2) [(Value.slice x30p_ x30n_ x30c_)]) ∧
        ∃ x31_ : Int, cellsAt hp_4 b_ 0 [(Value.int .i64 x31_)] ∧
        SemH Try.prog (Instr.buildSlice 50 1 #[(0, (Value.int .i64 x31_))]) hp_4 fun v_ hp_5 =>
        ∃ (x32p_ : Option Addr) (x32n_ x32c_ : Nat), v_ = (Value.slice x32p_ x32n_ x32c_) ∧
        Cv_ hp_5 ∧
        SemH Try.prog (Builtin.append_ #[50, 50] 50 #[(Value.slice x30p_ x30n_ x30c_), (Value.slice x32p_ x32n_ x32c_)]) hp_5 fun v_1 hp_6 =>
        ∃ (x33p_ : Option Addr) (x33n_ x33c_ : Nat), v_1 = (Value.slice x33p_ x33n_ x33c_) ∧
        Cv_ hp_6 ∧
        ∃ b_4 o_2, d_ = some ⟨b_4, o_2, none⟩ ∧
        Value.oneCell' (Value.slice x33p_ x33n_ x33c_) = true ∧ wrAt hp_6 b_4 (o_2 + 2) 1 ∧ ∀ hp_7, hp_7 = setsH hp_6 b_4 (o_2 + 2) [(Value.slice x33p_ x33n_ x33c_)] →
        ∃ b_5 o_3, d_ = some ⟨b_5, o_3, none⟩ ∧
        ∃ (x40p_ : Option Addr) (x40n_ x40c_ : Nat), cellsAt hp_7 b_5 (o_3 + 3) [(Value.slice x40p_ x40n_ x40c_)] ∧
        SemH Try.prog (Instr.buildSlice 74 1 #[(0, (Value.func (.func 39) #[] #[(Value.pointer (some ⟨b_1, 0, none⟩)), (Value.pointer (some ⟨b_, 0, none⟩))]))]) hp_7 fun v_2 hp_8 =>
        ∃ (x42p_ : Option Addr) (x42n_ x42c_ : Nat), v_2 = (Value.slice x42p_ x42n_ x42c_) ∧
        SemH Try.prog (Builtin.append_ #[74, 74] 74 #[(Value.slice x40p_ x40n_ x40c_), (Value.slice x42p_ x42n_ x42c_)]) hp_8 fun v_3 hp_9 =>
        ∃ (x43p_ : Option Addr) (x43n_ x43c_ : Nat), v_3 = (Value.slice x43p_ x43n_ x43c_) ∧
        ∃ b_6 o_4, d_ = some ⟨b_6, o_4, none⟩ ∧
        Value.oneCell' (Value.slice x43p_ x43n_ x43c_) = true ∧ wrAt hp_9 b_6 (o_4 + 3) 1 ∧ ∀ hp_10, hp_10 = setsH hp_9 b_6 (o_4 + 3) [(Value.slice x43p_ x43n_ x43c_)] →
        ∃ b_7 o_5, d_ = some ⟨b_7, o_5, none⟩ ∧
        ∃ x50_ : Int, cellsAt hp_10 b_7 ((o_5 + 6) + 1) [(Value.int .i64 x50_)] ∧
        ∃ x51_, IntKind.i64.wrap (x50_ + (1 : Int)) = x51_ ∧
        ∃ b_8 o_6, d_ = some ⟨b_8, o_6, none⟩ ∧
        Value.oneCell' (Value.int .i64 x51_) = true ∧ wrAt hp_10 b_8 ((o_6 + 6) + 1) 1 ∧ ∀ hp_11, hp_11 = setsH hp_10 b_8 ((o_6 + 6) + 1) [(Value.int .i64 x51_)] →
        R (.returned (Value.int .i64 (0 : Int))) hp_11))))))) :
  CallsH Try.prog 17 #[(Value.pointer d_), (Value.int .i64 n_), (Value.string s_)] h R := calls_vc fine false Try.func17 (ann := A17) (args := [(Value.pointer d_), (Value.int .i64 n_), (Value.string s_)]) (by kernel_rfl) (Eq.mpr (by kernel_rfl) H)
/-- turnout/turnoutlaw04.full -/
def A18 : Ann := (.seq .nil (.seq .nil (.seq (.seq .nil (.block (.loop [(6, (.int .i64))] (.seq (.seq .nil (.cond .nil .nil)) (.seq (.block .nil) .nil))))) (.seq .nil (.seq .nil (.seq .nil .nil))))))
theorem V18 (b_ : Int) (ends_ : Int) (h : Hp) (R : Ending → Hp → Prop) (H :
  SemH Try.prog (Instr.makeSlice 62 (Value.int .i64 (512 : Int)) (Value.int .i64 (512 : Int))) h fun v_ hp_ =>
  ∃ (x7p_ : Option Addr) (x7n_ x7c_ : Nat), v_ = (Value.slice x7p_ x7n_ x7c_) ∧
  ∃ (Iv_ : List Value → Hp → Prop) (m_ : List Value → Hp → Nat), Iv_ [(Value.int .i64 (0 : Int))] hp_ ∧
  (∀ (i_ : Int) hp_1, Iv_ [(Value.int .i64 i_)] hp_1 →
   (((decide (i_ < (512 : Int))) = true →
     ∃ b_1 o_, x7p_ = some ⟨b_1, o_, none⟩ ∧ 0 ≤ i_ ∧ i_ < (x7n_ : Int) ∧
     Value.oneCell' (Value.int .u8 b_) = true ∧ wrAt hp_1 b_1 (o_ + Int.toNat i_ * 1) 1 ∧ ∀ hp_2, hp_2 = setsH hp_1 b_1 (o_ + Int.toNat i_ * 1) [(Value.int .u8 b_)] →
     ∃ x11_, IntKind.i64.wrap (i_ + (1 : Int)) = x11_ ∧
     (Iv_ [(Value.int .i64 x11_)] hp_2 ∧ m_ [(Value.int .i64 x11_)] hp_2 < m_ [(Value.int .i64 i_)] hp_1)) ∧
    ((decide (i_ < (512 : Int))) = false →
     ∃ b_2 o_1, x7p_ = some ⟨b_2, o_1, none⟩ ∧ 0 ≤ (0 : Int) ∧ (0 : Int) < (x7n_ : Int) ∧
     Value.oneCell' (Value.int .u8 ends_) = true ∧ wrAt hp_1 b_2 (o_1 + Int.toNat (0 : Int) * 1) 1 ∧ ∀ hp_3, hp_3 = setsH hp_1 b_2 (o_1 + Int.toNat (0 : Int) * 1) [(Value.int .u8 ends_)] →
     ∃ b_3 o_2, x7p_ = some ⟨b_3, o_2, none⟩ ∧ 0 ≤ (511 : Int) ∧ (511 : Int) < (x7n_ : Int) ∧
     Value.oneCell' (Value.int .u8 ends_) = true ∧ wrAt hp_3 b_3 (o_2 + Int.toNat (511 : Int) * 1) 1 ∧ ∀ hp_4, hp_4 = setsH hp_3 b_3 (o_2 + Int.toNat (511 : Int) * 1) [(Value.int .u8 ends_)] →
     SemH Try.prog (convert 62 9 (Value.slice x7p_ x7n_ x7c_)) hp_4 fun v_1 hp_5 =>
     ∃ x23_ : ByteArray, v_1 = (Value.string x23_) ∧
     R (.returned (Value.string x23_)) hp_5)))) :
  CallsH Try.prog 18 #[(Value.int .u8 b_), (Value.int .u8 ends_)] h R := calls_vc fine false Try.func18 (ann := A18) (args := [(Value.int .u8 b_), (Value.int .u8 ends_)]) (by kernel_rfl) (Eq.mpr (by kernel_rfl) H)
/-- turnout/turnoutlaw04.sector -/
def A19 : Ann := (.seq .nil (.seq (.seq .nil (.cond (.seq .nil .nil) .nil)) (.seq .nil .nil)))
theorem V19 (image_ : ByteArray) (n_ : Int) (h : Hp) (R : Ending → Hp → Prop) (H :
  ∃ x8_, IntKind.i64.wrap ((512 : Int) * n_) = x8_ ∧
  ∃ x9_, IntKind.i64.wrap (x8_ + (512 : Int)) = x9_ ∧
  (((decide ((ByteArray.size image_ : Int) < x9_)) = true →
    R (.returned (Value.string (⟨#[]⟩ : ByteArray))) h) ∧
   ((decide ((ByteArray.size image_ : Int) < x9_)) = false →
    ∃ x13_, IntKind.i64.wrap ((512 : Int) * n_) = x13_ ∧
    ∃ x15_, IntKind.i64.wrap ((512 : Int) * n_) = x15_ ∧
    ∃ x16_, IntKind.i64.wrap (x15_ + (512 : Int)) = x16_ ∧
    ∃ l_ : Nat, x13_ = (l_ : Int) ∧
    ∃ u_ : Nat, x16_ = (u_ : Int) ∧
    l_ ≤ u_ ∧ u_ ≤ ByteArray.size image_ ∧ ∃ x17_, ByteArray.extract image_ l_ u_ = x17_ ∧
    R (.returned (Value.string x17_)) h))) :
  CallsH Try.prog 19 #[(Value.string image_), (Value.int .i64 n_)] h R := calls_vc fine false Try.func19 (ann := A19) (args := [(Value.string image_), (Value.int .i64 n_)]) (by kernel_rfl) (Eq.mpr (by kernel_rfl) H)
/-- turnout/disk.New -/
def A20 : Ann := (.seq .nil (.cut (.seq (.join 12) (.cond (.seq .nil .nil) .nil)) [] (.seq .nil (.seq .nil (.seq (.seq .nil (.block (.loop [(25, (.int .i64))] (.seq .nil (.seq (.cond .nil .nil) (.seq (.block (.seq .nil .nil)) .nil)))))) (.seq .nil .nil))))))
theorem V20 (sectors_ : Int) (h : Hp) (R : Ending → Hp → Prop) (H :
  ∃ Jv_ : List Value → Hp → Prop,
  (∃ B_ : Bool, ((((decide (sectors_ < (1 : Int))) = true →
      h = h ∧ B_ = true) ∧
     ((decide (sectors_ < (1 : Int))) = false →
      h = h ∧ B_ = (decide ((4096 : Int) < sectors_))))) ∧
   ((B_ = true →
     R (.returned (Value.tuple #[(Value.pointer none), (Value.int .i64 (1 : Int))])) h) ∧
    (B_ = false →
     Jv_ [] h))) ∧
  (∀  hp_, Jv_ [] hp_ →
   SemH Try.prog (Instr.makeSlice 62 (Value.int .i64 (512 : Int)) (Value.int .i64 (512 : Int))) hp_ fun v_ hp_1 =>
   ∃ (x13p_ : Option Addr) (x13n_ x13c_ : Nat), v_ = (Value.slice x13p_ x13n_ x13c_) ∧
   SemH Try.prog (convert 62 9 (Value.slice x13p_ x13n_ x13c_)) hp_1 fun v_1 hp_2 =>
   ∃ x14_ : ByteArray, v_1 = (Value.string x14_) ∧
   SemH Try.prog (Instr.makeSlice 72 (Value.int .i64 sectors_) (Value.int .i64 sectors_)) hp_2 fun v_2 hp_3 =>
   ∃ (x16p_ : Option Addr) (x16n_ x16c_ : Nat), v_2 = (Value.slice x16p_ x16n_ x16c_) ∧
   ∀ r_ hp_4, r_ = Array.size hp_3 → hp_4 = Array.push hp_3 (.map #[] 0) →
   ∀ b_ hp_5, b_ = Array.size hp_4 → hp_5 = Array.push hp_4 (.cells #[(Value.slice x16p_ x16n_ x16c_), (Value.map (some r_)), (Value.slice none 0 0), (Value.slice none 0 0), (Value.bool false), (Value.int .i64 (0 : Int)), (Value.int .i64 (0 : Int)), (Value.int .i64 (0 : Int)), (Value.int .i64 (0 : Int))] 76) →
   ∃ (x23p_ : Option Addr) (x23n_ x23c_ : Nat), cellsAt hp_5 b_ (0 + 0) [(Value.slice x23p_ x23n_ x23c_)] ∧
   ∃ (Iv_ : List Value → Hp → Prop) (m_ : List Value → Hp → Nat), Iv_ [(Value.int .i64 (0 : Int))] hp_5 ∧
   (∀ (x25_ : Int) hp_6, Iv_ [(Value.int .i64 x25_)] hp_6 →
    (((decide (x25_ < ((x23n_ : Nat) : Int))) = true →
      ∃ (x31p_ : Option Addr) (x31n_ x31c_ : Nat), cellsAt hp_6 b_ (0 + 0) [(Value.slice x31p_ x31n_ x31c_)] ∧
      ∃ b_1 o_, x31p_ = some ⟨b_1, o_, none⟩ ∧ 0 ≤ x25_ ∧ x25_ < (x31n_ : Int) ∧
      Value.oneCell' (Value.string x14_) = true ∧ wrAt hp_6 b_1 (o_ + Int.toNat x25_ * 1) 1 ∧ ∀ hp_7, hp_7 = setsH hp_6 b_1 (o_ + Int.toNat x25_ * 1) [(Value.string x14_)] →
      ∃ x35_, IntKind.i64.wrap (x25_ + (1 : Int)) = x35_ ∧
      (Iv_ [(Value.int .i64 x35_)] hp_7 ∧ m_ [(Value.int .i64 x35_)] hp_7 < m_ [(Value.int .i64 x25_)] hp_6)) ∧
     ((decide (x25_ < ((x23n_ : Nat) : Int))) = false →
      R (.returned (Value.tuple #[(Value.pointer (some ⟨b_, 0, none⟩)), (Value.int .i64 (0 : Int))])) hp_6))))) :
  CallsH Try.prog 20 #[(Value.int .i64 sectors_)] h R := calls_vc fine false Try.func20 (ann := A20) (args := [(Value.int .i64 sectors_)]) (by kernel_rfl) (Eq.mpr (by kernel_rfl) H)
/-- (*turnout/disk.Disk).Cut -/
def A21 : Ann := (.seq (.seq (.join 11) (.cond .nil .nil)) .nil)
theorem V21 (d_ : Option Addr) (steps_ : Int) (h : Hp) (R : Ending → Hp → Prop) (H :
  ∃ B_ : Bool, (∃ x5_, EqV Try.prog 25 (Value.pointer d_) (Value.pointer none) x5_ ∧
   ((x5_ = true →
     h = h ∧ B_ = true) ∧
    (x5_ = false →
     ∃ b_ o_, d_ = some ⟨b_, o_, none⟩ ∧
     ∃ x10_ : Bool, cellsAt h b_ (o_ + 4) [(Value.bool x10_)] ∧
     h = h ∧ B_ = x10_))) ∧
  ((B_ = true →
    R (.returned (Value.tuple #[])) h) ∧
   (B_ = false →
    ∃ b_1 o_1, d_ = some ⟨b_1, o_1, none⟩ ∧
    Value.oneCell' (Value.int .i64 (max steps_ (0 : Int))) = true ∧ wrAt h b_1 (o_1 + 5) 1 ∧ ∀ hp_, hp_ = setsH h b_1 (o_1 + 5) [(Value.int .i64 (max steps_ (0 : Int)))] →
    R (.returned (Value.tuple #[])) hp_))) :
  CallsH Try.prog 21 #[(Value.pointer d_), (Value.int .i64 steps_)] h R := calls_vc fine false Try.func21 (ann := A21) (args := [(Value.pointer d_), (Value.int .i64 steps_)]) (by kernel_rfl) (Eq.mpr (by kernel_rfl) H)
/-- (*turnout/disk.Disk).Off -/
def A22 : Ann := (.seq .nil (.seq (.join 2) .nil))
theorem V22 (d_ : Option Addr) (h : Hp) (R : Ending → Hp → Prop) (H :
  ∃ B_ : Bool, (∃ x4_, EqV Try.prog 25 (Value.pointer d_) (Value.pointer none) x4_ ∧
   (((!x4_) = true →
     ∃ b_ o_, d_ = some ⟨b_, o_, none⟩ ∧
     ∃ x9_ : Bool, cellsAt h b_ (o_ + 4) [(Value.bool x9_)] ∧
     h = h ∧ B_ = x9_) ∧
    ((!x4_) = false →
     h = h ∧ B_ = false))) ∧
  R (.returned (Value.bool B_)) h) :
  CallsH Try.prog 22 #[(Value.pointer d_)] h R := calls_vc fine false Try.func22 (ann := A22) (args := [(Value.pointer d_)]) (by kernel_rfl) (Eq.mpr (by kernel_rfl) H)
/-- (*turnout/disk.Disk).Read -/
def A23 : Ann := (.seq .nil (.seq .nil (.seq (.seq .nil (.cond (.seq .nil .nil) .nil)) (.seq .nil (.seq (.seq .nil (.seq .nil (.cond (.seq .nil .nil) .nil))) (.seq .nil .nil))))))
theorem V23 (d_ : Option Addr) (n_ : Int) (h : Hp) (R : Ending → Hp → Prop) (H :
  CallsH Try.prog 35 #[(Value.pointer d_), (Value.int .i64 n_)] h fun en_ hp_ =>
  ∃ x11_ : Int, en_ = .returned (Value.int .i64 x11_) ∧
  (((decide (x11_ ≠ (0 : Int))) = true →
    R (.returned (Value.tuple #[(Value.string (⟨#[]⟩ : ByteArray)), (Value.int .i64 x11_)])) hp_) ∧
   ((decide (x11_ ≠ (0 : Int))) = false →
    ∃ b_ o_, d_ = some ⟨b_, o_, none⟩ ∧
    ∃ x19_ : Int, cellsAt hp_ b_ ((o_ + 6) + 0) [(Value.int .i64 x19_)] ∧
    ∃ x20_, IntKind.i64.wrap (x19_ + (1 : Int)) = x20_ ∧
    ∃ b_1 o_1, d_ = some ⟨b_1, o_1, none⟩ ∧
    Value.oneCell' (Value.int .i64 x20_) = true ∧ wrAt hp_ b_1 ((o_1 + 6) + 0) 1 ∧ ∀ hp_1, hp_1 = setsH hp_ b_1 ((o_1 + 6) + 0) [(Value.int .i64 x20_)] →
    ∃ b_2 o_2, d_ = some ⟨b_2, o_2, none⟩ ∧
    ∃ x28_ : Option Nat, cellsAt hp_1 b_2 (o_2 + 1) [(Value.map x28_)] ∧
    SemH Try.prog (Instr.lookup 73 (Value.map x28_) (Value.int .i64 n_) true) hp_1 fun v_ hp_2 =>
    ∃ x30r0_ : ByteArray, ∃ x30r1_ : Bool, v_ = (Value.tuple #[(Value.string x30r0_), (Value.bool x30r1_)]) ∧
    ((x30r1_ = true →
      R (.returned (Value.tuple #[(Value.string x30r0_), (Value.int .i64 (0 : Int))])) hp_2) ∧
     (x30r1_ = false →
      ∃ b_3 o_3, d_ = some ⟨b_3, o_3, none⟩ ∧
      ∃ (x38p_ : Option Addr) (x38n_ x38c_ : Nat), cellsAt hp_2 b_3 (o_3 + 0) [(Value.slice x38p_ x38n_ x38c_)] ∧
      ∃ b_4 o_4, x38p_ = some ⟨b_4, o_4, none⟩ ∧ 0 ≤ n_ ∧ n_ < (x38n_ : Int) ∧
      ∃ x41_ : ByteArray, cellsAt hp_2 b_4 (o_4 + Int.toNat n_ * 1) [(Value.string x41_)] ∧
      R (.returned (Value.tuple #[(Value.string x41_), (Value.int .i64 (0 : Int))])) hp_2))))) :
  CallsH Try.prog 23 #[(Value.pointer d_), (Value.int .i64 n_)] h R := calls_vc fine false Try.func23 (ann := A23) (args := [(Value.pointer d_), (Value.int .i64 n_)]) (by kernel_rfl) (Eq.mpr (by kernel_rfl) H)
/-- (*turnout/disk.Disk).Stats -/
def A24 : Ann := (.seq .nil (.seq (.seq .nil (.cond (.seq .nil .nil) .nil)) (.seq .nil .nil)))
theorem V24 (d_ : Option Addr) (h : Hp) (R : Ending → Hp → Prop) (H :
  ∀ b_ hp_, b_ = Array.size h → hp_ = Array.push h (.cells (zeros Try.prog 48) 48) → (∃ i z, Try.prog.info? 48 = some i ∧ i.zero = some z) ∧
  ∃ x4_, EqV Try.prog 25 (Value.pointer d_) (Value.pointer none) x4_ ∧
  ((x4_ = true →
    List.length [(Value.int .i64 (0 : Int)), (Value.int .i64 (0 : Int)), (Value.int .i64 (0 : Int))] = 3 ∧ (∀ c ∈ [(Value.int .i64 (0 : Int)), (Value.int .i64 (0 : Int)), (Value.int .i64 (0 : Int))], c.oneCell' = true) ∧ wrAt hp_ b_ 0 3 ∧ ∀ hp_1, hp_1 = setsH hp_ b_ 0 [(Value.int .i64 (0 : Int)), (Value.int .i64 (0 : Int)), (Value.int .i64 (0 : Int))] →
    ∃ resf0_ : Int, ∃ resf1_ : Int, ∃ resf2_ : Int, cellsAt hp_1 b_ 0 [(Value.int .i64 resf0_), (Value.int .i64 resf1_), (Value.int .i64 resf2_)] ∧
    R (.returned (Value.agg #[(Value.int .i64 resf0_), (Value.int .i64 resf1_), (Value.int .i64 resf2_)])) hp_1) ∧
   (x4_ = false →
    ∃ b_1 o_, d_ = some ⟨b_1, o_, none⟩ ∧
    ∃ x9f0_ : Int, ∃ x9f1_ : Int, ∃ x9f2_ : Int, cellsAt hp_ b_1 (o_ + 6) [(Value.int .i64 x9f0_), (Value.int .i64 x9f1_), (Value.int .i64 x9f2_)] ∧
    List.length [(Value.int .i64 x9f0_), (Value.int .i64 x9f1_), (Value.int .i64 x9f2_)] = 3 ∧ (∀ c ∈ [(Value.int .i64 x9f0_), (Value.int .i64 x9f1_), (Value.int .i64 x9f2_)], c.oneCell' = true) ∧ wrAt hp_ b_ 0 3 ∧ ∀ hp_2, hp_2 = setsH hp_ b_ 0 [(Value.int .i64 x9f0_), (Value.int .i64 x9f1_), (Value.int .i64 x9f2_)] →
    ∃ resf0_1 : Int, ∃ resf1_1 : Int, ∃ resf2_1 : Int, cellsAt hp_2 b_ 0 [(Value.int .i64 resf0_1), (Value.int .i64 resf1_1), (Value.int .i64 resf2_1)] ∧
    R (.returned (Value.agg #[(Value.int .i64 resf0_1), (Value.int .i64 resf1_1), (Value.int .i64 resf2_1)])) hp_2))) :
  CallsH Try.prog 24 #[(Value.pointer d_)] h R := calls_vc fine false Try.func24 (ann := A24) (args := [(Value.pointer d_)]) (by kernel_rfl) (Eq.mpr (by kernel_rfl) H)
/-- (*turnout/disk.Disk).Pending -/
def A25 : Ann := (.seq .nil (.seq (.seq .nil (.cond (.seq .nil .nil) .nil)) (.seq .nil .nil)))
theorem V25 (d_ : Option Addr) (h : Hp) (R : Ending → Hp → Prop) (H :
  ∃ x4_, EqV Try.prog 25 (Value.pointer d_) (Value.pointer none) x4_ ∧
  ((x4_ = true →
    R (.returned (Value.slice none 0 0)) h) ∧
   (x4_ = false →
    ∃ b_ o_, d_ = some ⟨b_, o_, none⟩ ∧
    ∃ (x8p_ : Option Addr) (x8n_ x8c_ : Nat), cellsAt h b_ (o_ + 2) [(Value.slice x8p_ x8n_ x8c_)] ∧
    SemH Try.prog (Builtin.append_ #[50, 50] 50 #[(Value.slice none 0 0), (Value.slice x8p_ x8n_ x8c_)]) h fun v_ hp_ =>
    ∃ (x9p_ : Option Addr) (x9n_ x9c_ : Nat), v_ = (Value.slice x9p_ x9n_ x9c_) ∧
    R (.returned (Value.slice x9p_ x9n_ x9c_)) hp_))) :
  CallsH Try.prog 25 #[(Value.pointer d_)] h R := calls_vc fine false Try.func25 (ann := A25) (args := [(Value.pointer d_)]) (by kernel_rfl) (Eq.mpr (by kernel_rfl) H)
/-- turnout/turnoutref04.New -/
def A26 : Ann := (.seq .nil (.cut (.seq (.join 11) (.cond (.seq .nil .nil) .nil)) [] (.seq .nil (.seq (.seq .nil (.block (.loop [(5, (.int .i64))] (.seq (.seq .nil (.cond .nil .nil)) (.seq (.block (.drawLast [4])) .nil))))) (.seq .nil .nil)))))
theorem V26 (sectors_ : Int) (h : Hp) (R : Ending → Hp → Prop) (H :
  ∃ Jv_ : List Value → Hp → Prop,
  (∃ B_ : Bool, ((((decide (sectors_ < (1 : Int))) = true →
      h = h ∧ B_ = true) ∧
     ((decide (sectors_ < (1 : Int))) = false →
      h = h ∧ B_ = (decide ((4096 : Int) < sectors_))))) ∧
   ((B_ = true →
     R (.returned (Value.tuple #[(Value.pointer none), (Value.int .i64 (1 : Int))])) h) ∧
    (B_ = false →
     Jv_ [] h))) ∧
  (∀  hp_, Jv_ [] hp_ →
   ∀ b_ hp_1, b_ = Array.size hp_ → hp_1 = Array.push hp_ (.cells #[(Value.slice none 0 0), (Value.slice none 0 0), (Value.bool false), (Value.int .i64 (0 : Int)), (Value.int .i64 (0 : Int)), (Value.int .i64 (0 : Int)), (Value.int .i64 (0 : Int))] 84) →
   ∃ (Iv_ : List Value → Hp → Prop) (m_ : List Value → Hp → Nat), Iv_ [(Value.int .i64 (0 : Int))] hp_1 ∧
   (∀ (i_ : Int) hp_2, Iv_ [(Value.int .i64 i_)] hp_2 →
    (((decide (i_ < sectors_)) = true →
      ∃ Cv_ : Hp → Prop, Cv_ hp_2 ∧
      ∃ (x23p_ : Option Addr) (x23n_ x23c_ : Nat), (∀ h', Cv_ h' → cellsAt h' b_ (0 + 0) [(Value.slice x23p_ x23n_ x23c_)]) ∧
      CallsH Try.prog 40 #[] hp_2 fun en_ hp_3 =>
      ∃ x24_ : ByteArray, en_ = .returned (Value.string x24_) ∧
      Cv_ hp_3 ∧
      SemH Try.prog (Instr.buildSlice 72 1 #[(0, (Value.string x24_))]) hp_3 fun v_ hp_4 =>
      ∃ (x25p_ : Option Addr) (x25n_ x25c_ : Nat), v_ = (Value.slice x25p_ x25n_ x25c_) ∧
      Cv_ hp_4 ∧
      SemH Try.prog (Builtin.append_ #[72, 72] 72 #[(Value.slice x23p_ x23n_ x23c_), (Value.slice x25p_ x25n_ x25c_)]) hp_4 fun v_1 hp_5 =>
      ∃ (x26p_ : Option Addr) (x26n_ x26c_ : Nat), v_1 = (Value.slice x26p_ x26n_ x26c_) ∧
      Cv_ hp_5 ∧
      Value.oneCell' (Value.slice x26p_ x26n_ x26c_) = true ∧ wrAt hp_5 b_ (0 + 0) 1 ∧ ∀ hp_6, hp_6 = setsH hp_5 b_ (0 + 0) [(Value.slice x26p_ x26n_ x26c_)] →
      ∃ x18_, IntKind.i64.wrap (i_ + (1 : Int)) = x18_ ∧
      (Iv_ [(Value.int .i64 x18_)] hp_6 ∧ m_ [(Value.int .i64 x18_)] hp_6 < m_ [(Value.int .i64 i_)] hp_2)) ∧
     ((decide (i_ < sectors_)) = false →
      R (.returned (Value.tuple #[(Value.pointer (some ⟨b_, 0, none⟩)), (Value.int .i64 (0 : Int))])) hp_2))))) :
  CallsH Try.prog 26 #[(Value.int .i64 sectors_)] h R := calls_vc fine false Try.func26 (ann := A26) (args := [(Value.int .i64 sectors_)]) (by kernel_rfl) (Eq.mpr (by kernel_rfl) H)
/-- turnout/disk.Load -/
def A27 : Ann := (.seq .nil (.seq .nil (.seq (.seq .nil (.cond (.seq .nil .nil) .nil)) (.seq .nil (.seq (.seq .nil (.cond (.seq .nil .nil) .nil)) (.seq (.seq .nil (.block (.loop [(29, (.int .i64))] (.seq .nil (.seq (.cond .nil .nil) (.seq (.block (.seq .nil .nil)) .nil)))))) (.seq .nil .nil)))))))
theorem V27 (image_ : ByteArray) (h : Hp) (R : Ending → Hp → Prop) (H :
  (512 : Int) ≠ 0 ∧ ∃ x10_, IntKind.i64.wrap (Int.tdiv (ByteArray.size image_ : Int) (512 : Int)) = x10_ ∧
  ∃ x12_, IntKind.i64.wrap (x10_ * (512 : Int)) = x12_ ∧
  (((decide (x12_ ≠ (ByteArray.size image_ : Int))) = true →
    R (.returned (Value.tuple #[(Value.pointer none), (Value.int .i64 (1 : Int))])) h) ∧
   ((decide (x12_ ≠ (ByteArray.size image_ : Int))) = false →
    CallsH Try.prog 20 #[(Value.int .i64 x10_)] h fun en_ hp_ =>
    ∃ x18r0_ : Option Addr, ∃ x18r1_ : Int, en_ = .returned (Value.tuple #[(Value.pointer x18r0_), (Value.int .i64 x18r1_)]) ∧
    (((decide (x18r1_ ≠ (0 : Int))) = true →
      R (.returned (Value.tuple #[(Value.pointer none), (Value.int .i64 x18r1_)])) hp_) ∧
     ((decide (x18r1_ ≠ (0 : Int))) = false →
      ∃ b_ o_, x18r0_ = some ⟨b_, o_, none⟩ ∧
      ∃ (x27p_ : Option Addr) (x27n_ x27c_ : Nat), cellsAt hp_ b_ (o_ + 0) [(Value.slice x27p_ x27n_ x27c_)] ∧
      ∃ (Iv_ : List Value → Hp → Prop) (m_ : List Value → Hp → Nat), Iv_ [(Value.int .i64 (0 : Int))] hp_ ∧
      (∀ (x29_ : Int) hp_1, Iv_ [(Value.int .i64 x29_)] hp_1 →
       (((decide (x29_ < ((x27n_ : Nat) : Int))) = true →
         ∃ b_1 o_1, x18r0_ = some ⟨b_1, o_1, none⟩ ∧
         ∃ (x35p_ : Option Addr) (x35n_ x35c_ : Nat), cellsAt hp_1 b_1 (o_1 + 0) [(Value.slice x35p_ x35n_ x35c_)] ∧
         ∃ x39_, IntKind.i64.wrap (x29_ * (512 : Int)) = x39_ ∧
         ∃ x41_, IntKind.i64.wrap (x29_ + (1 : Int)) = x41_ ∧
         ∃ x42_, IntKind.i64.wrap (x41_ * (512 : Int)) = x42_ ∧
         ∃ l_ : Nat, x39_ = (l_ : Int) ∧
         ∃ u_ : Nat, x42_ = (u_ : Int) ∧
         l_ ≤ u_ ∧ u_ ≤ ByteArray.size image_ ∧ ∃ x43_, ByteArray.extract image_ l_ u_ = x43_ ∧
         ∃ b_2 o_2, x35p_ = some ⟨b_2, o_2, none⟩ ∧ 0 ≤ x29_ ∧ x29_ < (x35n_ : Int) ∧
         Value.oneCell' (Value.string x43_) = true ∧ wrAt hp_1 b_2 (o_2 + Int.toNat x29_ * 1) 1 ∧ ∀ hp_2, hp_2 = setsH hp_1 b_2 (o_2 + Int.toNat x29_ * 1) [(Value.string x43_)] →
         ∃ x45_, IntKind.i64.wrap (x29_ + (1 : Int)) = x45_ ∧
         (Iv_ [(Value.int .i64 x45_)] hp_2 ∧ m_ [(Value.int .i64 x45_)] hp_2 < m_ [(Value.int .i64 x29_)] hp_1)) ∧
        ((decide (x29_ < ((x27n_ : Nat) : Int))) = false →
         R (.returned (Value.tuple #[(Value.pointer x18r0_), (Value.int .i64 (0 : Int))])) hp_1)))))))) :
  CallsH Try.prog 27 #[(Value.string image_)] h R := calls_vc fine false Try.func27 (ann := A27) (args := [(Value.string image_)]) (by kernel_rfl) (Eq.mpr (by kernel_rfl) H)
/-- turnout/turnoutref04.Load -/
def A28 : Ann := (.seq .nil (.cut (.seq (.join 19) (.cond (.seq .nil .nil) .nil)) [] (.seq .nil (.seq (.seq .nil (.block (.loop [(5, (.int .i64))] (.seq (.seq .nil (.cond .nil .nil)) (.seq (.block (.drawLast [4])) .nil))))) (.seq .nil .nil)))))
theorem V28 (image_ : ByteArray) (h : Hp) (R : Ending → Hp → Prop) (H :
  ∃ Jv_ : List Value → Hp → Prop,
  (∃ B_ : Bool, ((512 : Int) ≠ 0 ∧ ∃ x8_, Int.tmod (ByteArray.size image_ : Int) (512 : Int) = x8_ ∧
    (((decide (x8_ ≠ (0 : Int))) = true →
      h = h ∧ B_ = true) ∧
     ((decide (x8_ ≠ (0 : Int))) = false →
      (((decide ((ByteArray.size image_ : Int) = (0 : Int))) = true →
        h = h ∧ B_ = true) ∧
       ((decide ((ByteArray.size image_ : Int) = (0 : Int))) = false →
        h = h ∧ B_ = (decide ((2097152 : Int) < (ByteArray.size image_ : Int)))))))) ∧
   ((B_ = true →
     R (.returned (Value.tuple #[(Value.pointer none), (Value.int .i64 (1 : Int))])) h) ∧
    (B_ = false →
     Jv_ [] h))) ∧
  (∀  hp_, Jv_ [] hp_ →
   ∀ b_ hp_1, b_ = Array.size hp_ → hp_1 = Array.push hp_ (.cells #[(Value.slice none 0 0), (Value.slice none 0 0), (Value.bool false), (Value.int .i64 (0 : Int)), (Value.int .i64 (0 : Int)), (Value.int .i64 (0 : Int)), (Value.int .i64 (0 : Int))] 84) →
   ∃ (Iv_ : List Value → Hp → Prop) (m_ : List Value → Hp → Nat), Iv_ [(Value.int .i64 (0 : Int))] hp_1 ∧
   (∀ (i_ : Int) hp_2, Iv_ [(Value.int .i64 i_)] hp_2 →
    (((decide (i_ < (ByteArray.size image_ : Int))) = true →
      ∃ Cv_ : Hp → Prop, Cv_ hp_2 ∧
      ∃ (x32p_ : Option Addr) (x32n_ x32c_ : Nat), (∀ h', Cv_ h' → cellsAt h' b_ (0 + 0) [(Value.slice x32p_ x32n_ x32c_)]) ∧
      ∃ x36_, IntKind.i64.wrap (i_ + (512 : Int)) = x36_ ∧
      ∃ l_ : Nat, i_ = (l_ : Int) ∧
      ∃ u_ : Nat, x36_ = (u_ : Int) ∧
      l_ ≤ u_ ∧ u_ ≤ ByteArray.size image_ ∧ ∃ x37_, ByteArray.extract image_ l_ u_ = x37_ ∧
      SemH Try.prog (Instr.buildSlice 72 1 #[(0, (Value.string x37_))]) hp_2 fun v_ hp_3 =>
      ∃ (x38p_ : Option Addr) (x38n_ x38c_ : Nat), v_ = (Value.slice x38p_ x38n_ x38c_) ∧
      Cv_ hp_3 ∧
      SemH Try.prog (Builtin.append_ #[72, 72] 72 #[(Value.slice x32p_ x32n_ x32c_), (Value.slice x38p_ x38n_ x38c_)]) hp_3 fun v_1 hp_4 =>
      ∃ (x39p_ : Option Addr) (x39n_ x39c_ : Nat), v_1 = (Value.slice x39p_ x39n_ x39c_) ∧
      Cv_ hp_4 ∧
      Value.oneCell' (Value.slice x39p_ x39n_ x39c_) = true ∧ wrAt hp_4 b_ (0 + 0) 1 ∧ ∀ hp_5, hp_5 = setsH hp_4 b_ (0 + 0) [(Value.slice x39p_ x39n_ x39c_)] →
      ∃ x27_, IntKind.i64.wrap (i_ + (512 : Int)) = x27_ ∧
      (Iv_ [(Value.int .i64 x27_)] hp_5 ∧ m_ [(Value.int .i64 x27_)] hp_5 < m_ [(Value.int .i64 i_)] hp_2)) ∧
     ((decide (i_ < (ByteArray.size image_ : Int))) = false →
      R (.returned (Value.tuple #[(Value.pointer (some ⟨b_, 0, none⟩)), (Value.int .i64 (0 : Int))])) hp_2))))) :
  CallsH Try.prog 28 #[(Value.string image_)] h R := calls_vc fine false Try.func28 (ann := A28) (args := [(Value.string image_)]) (by kernel_rfl) (Eq.mpr (by kernel_rfl) H)
/-- (turnout/turnoutlaw04.pair).settled -/
def A29 : Ann := (.seq .nil (.seq (.drawLast [4, 12, 21]) .nil))
theorem V29 (pf0_ : Option Addr) (pf1_ : Option Addr) (h : Hp) (R : Ending → Hp → Prop) (H :
  ∀ b_ hp_, b_ = Array.size h → hp_ = Array.push h (.cells #[(Value.pointer pf0_), (Value.pointer pf1_)] 59) →
  ∃ Cv_ : Hp → Prop, Cv_ hp_ ∧
  ∃ x4_ : Option Addr, cellsAt hp_ b_ (0 + 0) [(Value.pointer x4_)] ∧
  CallsH Try.prog 32 #[(Value.pointer x4_)] hp_ fun en_ hp_1 =>
  ∃ x5_ : Int, en_ = .returned (Value.int .i64 x5_) ∧
  Cv_ hp_1 ∧
  ∃ x7_ : Option Addr, (∀ h', Cv_ h' → cellsAt h' b_ (0 + 1) [(Value.pointer x7_)]) ∧
  CallsH Try.prog 41 #[(Value.pointer x7_)] hp_1 fun en_1 hp_2 =>
  ∃ x8_ : Int, en_1 = .returned (Value.int .i64 x8_) ∧
  Cv_ hp_2 ∧
  (((decide (x5_ = x8_)) = true →
    ∃ x12_ : Option Addr, cellsAt hp_2 b_ (0 + 0) [(Value.pointer x12_)] ∧
    CallsH Try.prog 22 #[(Value.pointer x12_)] hp_2 fun en_2 hp_3 =>
    ∃ x13_ : Bool, en_2 = .returned (Value.bool x13_) ∧
    Cv_ hp_3 ∧
    ∃ x15_ : Option Addr, (∀ h', Cv_ h' → cellsAt h' b_ (0 + 1) [(Value.pointer x15_)]) ∧
    CallsH Try.prog 42 #[(Value.pointer x15_)] hp_3 fun en_3 hp_4 =>
    ∃ x16_ : Bool, en_3 = .returned (Value.bool x16_) ∧
    Cv_ hp_4 ∧
    ∃ x17_, EqV Try.prog 4 (Value.bool x13_) (Value.bool x16_) x17_ ∧
    ((x17_ = true →
      ∃ x21_ : Option Addr, cellsAt hp_4 b_ (0 + 0) [(Value.pointer x21_)] ∧
      CallsH Try.prog 24 #[(Value.pointer x21_)] hp_4 fun en_4 hp_5 =>
      ∃ x22f0_ : Int, ∃ x22f1_ : Int, ∃ x22f2_ : Int, en_4 = .returned (Value.agg #[(Value.int .i64 x22f0_), (Value.int .i64 x22f1_), (Value.int .i64 x22f2_)]) ∧
      Cv_ hp_5 ∧
      ∃ x24_ : Option Addr, (∀ h', Cv_ h' → cellsAt h' b_ (0 + 1) [(Value.pointer x24_)]) ∧
      CallsH Try.prog 43 #[(Value.pointer x24_)] hp_5 fun en_5 hp_6 =>
      ∃ x25f0_ : Int, ∃ x25f1_ : Int, ∃ x25f2_ : Int, en_5 = .returned (Value.agg #[(Value.int .i64 x25f0_), (Value.int .i64 x25f1_), (Value.int .i64 x25f2_)]) ∧
      Cv_ hp_6 ∧
      ∃ x26_, EqV Try.prog 48 (Value.agg #[(Value.int .i64 x22f0_), (Value.int .i64 x22f1_), (Value.int .i64 x22f2_)]) (Value.agg #[(Value.int .i64 x25f0_), (Value.int .i64 x25f1_), (Value.int .i64 x25f2_)]) x26_ ∧
      R (.returned (Value.bool x26_)) hp_6) ∧
     (x17_ = false →
      R (.returned (Value.bool false)) hp_4))) ∧
   ((decide (x5_ = x8_)) = false →
    R (.returned (Value.bool false)) hp_2))) :
  CallsH Try.prog 29 #[(Value.agg #[(Value.pointer pf0_), (Value.pointer pf1_)])] h R := calls_vc fine false Try.func29 (ann := A29) (args := [(Value.agg #[(Value.pointer pf0_), (Value.pointer pf1_)])]) (by kernel_rfl) (Eq.mpr (by kernel_rfl) H)
/-- (turnout/turnoutlaw04.pair).read -/
def A30 : Ann := (.seq .nil (.seq .nil (.seq .nil (.seq (.join 4) .nil))))
theorem V30 (pf0_ : Option Addr) (pf1_ : Option Addr) (n_ : Int) (h : Hp) (R : Ending → Hp → Prop) (H :
  ∀ b_ hp_, b_ = Array.size h → hp_ = Array.push h (.cells #[(Value.pointer pf0_), (Value.pointer pf1_)] 59) →
  ∃ x11_ : Option Addr, cellsAt hp_ b_ (0 + 0) [(Value.pointer x11_)] ∧
  CallsH Try.prog 23 #[(Value.pointer x11_), (Value.int .i64 n_)] hp_ fun en_ hp_1 =>
  ∃ x13r0_ : ByteArray, ∃ x13r1_ : Int, en_ = .returned (Value.tuple #[(Value.string x13r0_), (Value.int .i64 x13r1_)]) ∧
  ∃ x18_ : Option Addr, cellsAt hp_1 b_ (0 + 1) [(Value.pointer x18_)] ∧
  CallsH Try.prog 44 #[(Value.pointer x18_), (Value.int .i64 n_)] hp_1 fun en_1 hp_2 =>
  ∃ x20r0_ : ByteArray, ∃ x20r1_ : Int, en_1 = .returned (Value.tuple #[(Value.string x20r0_), (Value.int .i64 x20r1_)]) ∧
  ∃ B_ : Bool, ((((decide (x13r0_ = x20r0_)) = true →
     hp_2 = hp_2 ∧ B_ = (decide (x13r1_ = x20r1_))) ∧
    ((decide (x13r0_ = x20r0_)) = false →
     hp_2 = hp_2 ∧ B_ = false))) ∧
  R (.returned (Value.bool B_)) hp_2) :
  CallsH Try.prog 30 #[(Value.agg #[(Value.pointer pf0_), (Value.pointer pf1_)]), (Value.int .i64 n_)] h R := calls_vc fine false Try.func30 (ann := A30) (args := [(Value.agg #[(Value.pointer pf0_), (Value.pointer pf1_)]), (Value.int .i64 n_)]) (by kernel_rfl) (Eq.mpr (by kernel_rfl) H)
/-- (*turnout/turnoutref04.Disk).Image -/
def A31 : Ann := (.seq .nil (.seq .nil (.seq (.seq .nil (.block (.loop [(3, .slice), (4, (.int .i64))] (.seq (.seq .nil (.cond .nil .nil)) (.seq (.block .nil) .nil))))) (.seq .nil .nil))))
theorem V31 (d_ : Option Addr) (h : Hp) (R : Ending → Hp → Prop) (H :
  ∃ (Iv_ : List Value → Hp → Prop) (m_ : List Value → Hp → Nat), Iv_ [(Value.slice none 0 0), (Value.int .i64 (0 : Int))] h ∧
  (∀ (bp_ : Option Addr) (bn_ bc_ : Nat) (i_ : Int) hp_, Iv_ [(Value.slice bp_ bn_ bc_), (Value.int .i64 i_)] hp_ →
   ∃ b_ o_, d_ = some ⟨b_, o_, none⟩ ∧
   ∃ (x9p_ : Option Addr) (x9n_ x9c_ : Nat), cellsAt hp_ b_ (o_ + 0) [(Value.slice x9p_ x9n_ x9c_)] ∧
   (((decide (i_ < ((x9n_ : Nat) : Int))) = true →
     ∃ b_1 o_1, d_ = some ⟨b_1, o_1, none⟩ ∧
     ∃ (x18p_ : Option Addr) (x18n_ x18c_ : Nat), cellsAt hp_ b_1 (o_1 + 0) [(Value.slice x18p_ x18n_ x18c_)] ∧
     ∃ b_2 o_2, x18p_ = some ⟨b_2, o_2, none⟩ ∧ 0 ≤ i_ ∧ i_ < (x18n_ : Int) ∧
     ∃ x21_ : ByteArray, cellsAt hp_ b_2 (o_2 + Int.toNat i_ * 1) [(Value.string x21_)] ∧
     SemH Try.prog (Builtin.append_ #[62, 9] 62 #[(Value.slice bp_ bn_ bc_), (Value.string x21_)]) hp_ fun v_ hp_1 =>
     ∃ (x22p_ : Option Addr) (x22n_ x22c_ : Nat), v_ = (Value.slice x22p_ x22n_ x22c_) ∧
     ∃ x13_, IntKind.i64.wrap (i_ + (1 : Int)) = x13_ ∧
     (Iv_ [(Value.slice x22p_ x22n_ x22c_), (Value.int .i64 x13_)] hp_1 ∧ m_ [(Value.slice x22p_ x22n_ x22c_), (Value.int .i64 x13_)] hp_1 < m_ [(Value.slice bp_ bn_ bc_), (Value.int .i64 i_)] hp_)) ∧
    ((decide (i_ < ((x9n_ : Nat) : Int))) = false →
     SemH Try.prog (convert 62 9 (Value.slice bp_ bn_ bc_)) hp_ fun v_1 hp_2 =>
     ∃ x24_ : ByteArray, v_1 = (Value.string x24_) ∧
     R (.returned (Value.string x24_)) hp_2)))) :
  CallsH Try.prog 31 #[(Value.pointer d_)] h R := calls_vc fine false Try.func31 (ann := A31) (args := [(Value.pointer d_)]) (by kernel_rfl) (Eq.mpr (by kernel_rfl) H)
/-- (*turnout/disk.Disk).Size -/
def A32 : Ann := (.seq .nil (.seq (.seq .nil (.cond (.seq .nil .nil) .nil)) (.seq .nil .nil)))
theorem V32 (d_ : Option Addr) (h : Hp) (R : Ending → Hp → Prop) (H :
  ∃ x4_, EqV Try.prog 25 (Value.pointer d_) (Value.pointer none) x4_ ∧
  ((x4_ = true →
    R (.returned (Value.int .i64 (0 : Int))) h) ∧
   (x4_ = false →
    ∃ b_ o_, d_ = some ⟨b_, o_, none⟩ ∧
    ∃ (x8p_ : Option Addr) (x8n_ x8c_ : Nat), cellsAt h b_ (o_ + 0) [(Value.slice x8p_ x8n_ x8c_)] ∧
    R (.returned (Value.int .i64 ((x8n_ : Nat) : Int))) h))) :
  CallsH Try.prog 32 #[(Value.pointer d_)] h R := calls_vc fine false Try.func32 (ann := A32) (args := [(Value.pointer d_)]) (by kernel_rfl) (Eq.mpr (by kernel_rfl) H)
/-- (turnout/turnoutlaw04.pair).play -/
def A33 : Ann := (.seq .nil (.seq (.seq .nil (.block (.seq .nil (.cond (.seq .nil .nil) (.seq .nil (.cond (.seq (.drawLast [8, 10, 12]) .nil) (.seq .nil (.cond (.seq (.drawLast [1]) (.seq .nil (.seq (.drawLast [6]) .nil))) (.seq .nil (.cond (.seq (.drawLast [4]) .nil) (.seq .nil (.cond (.seq .nil .nil) (.seq .nil (.cond (.seq .nil .nil) (.seq .nil (.cond (.seq .nil .nil) (.seq .nil (.cond (.seq (.drawLast [4]) .nil) (.seq .nil (.cond (.seq .nil (.block (.loop [(7, (.int .i64))] (.cut (.seq .nil (.cond .nil .nil)) [] (.seq (.block (.seq .nil (.seq .nil (.cond (.seq .nil .nil) .nil)))) .nil))))) .nil)))))))))))))))))))) (.seq .nil .nil)))
theorem V33 (pf0_ : Option Addr) (pf1_ : Option Addr) (of0_ : Int) (of1_ : Int) (of2_ : Int) (of3_ : ByteArray) (of4_ : Int) (of5p_ : Option Addr) (of5n_ of5c_ : Nat) (h : Hp) (R : Ending → Hp → Prop) (H :
  ∀ b_ hp_, b_ = Array.size h → hp_ = Array.push h (.cells #[(Value.pointer pf0_), (Value.pointer pf1_)] 59) →
  ∀ b_1 hp_1, b_1 = Array.size hp_ → hp_1 = Array.push hp_ (.cells #[(Value.int .i64 of0_), (Value.int .i64 of1_), (Value.int .i64 of2_), (Value.string of3_), (Value.int .u8 of4_), (Value.slice of5p_ of5n_ of5c_)] 69) →
  ∃ x10_ : Int, cellsAt hp_1 b_1 (0 + 0) [(Value.int .i64 x10_)] ∧
  (((decide (x10_ = (1 : Int))) = true →
    ∃ x13f0_ : Option Addr, ∃ x13f1_ : Option Addr, cellsAt hp_1 b_ 0 [(Value.pointer x13f0_), (Value.pointer x13f1_)] ∧
    ∃ x15_ : Int, cellsAt hp_1 b_1 (0 + 2) [(Value.int .i64 x15_)] ∧
    CallsH Try.prog 30 #[(Value.agg #[(Value.pointer x13f0_), (Value.pointer x13f1_)]), (Value.int .i64 x15_)] hp_1 fun en_ hp_2 =>
    ∃ x16_ : Bool, en_ = .returned (Value.bool x16_) ∧
    R (.returned (Value.bool x16_)) hp_2) ∧
   ((decide (x10_ = (1 : Int))) = false →
    (((decide (x10_ = (2 : Int))) = true →
      ∃ Cv_ : Hp → Prop, Cv_ hp_1 ∧
      ∃ x20_ : Option Addr, cellsAt hp_1 b_ (0 + 0) [(Value.pointer x20_)] ∧
      ∃ x22_ : Int, cellsAt hp_1 b_1 (0 + 2) [(Value.int .i64 x22_)] ∧
      ∃ x24_ : ByteArray, cellsAt hp_1 b_1 (0 + 3) [(Value.string x24_)] ∧
      CallsH Try.prog 17 #[(Value.pointer x20_), (Value.int .i64 x22_), (Value.string x24_)] hp_1 fun en_1 hp_3 =>
      ∃ x25_ : Int, en_1 = .returned (Value.int .i64 x25_) ∧
      Cv_ hp_3 ∧
      ∃ x27_ : Option Addr, (∀ h', Cv_ h' → cellsAt h' b_ (0 + 1) [(Value.pointer x27_)]) ∧
      ∃ x29_ : Int, (∀ h', Cv_ h' → cellsAt h' b_1 (0 + 2) [(Value.int .i64 x29_)]) ∧
      ∃ x31_ : ByteArray, (∀ h', Cv_ h' → cellsAt h' b_1 (0 + 3) [(Value.string x31_)]) ∧
      CallsH Try.prog 45 #[(Value.pointer x27_), (Value.int .i64 x29_), (Value.string x31_)] hp_3 fun en_2 hp_4 =>
      ∃ x32_ : Int, en_2 = .returned (Value.int .i64 x32_) ∧
      Cv_ hp_4 ∧
      R (.returned (Value.bool (decide (x25_ = x32_)))) hp_4) ∧
     ((decide (x10_ = (2 : Int))) = false →
      (((decide (x10_ = (3 : Int))) = true →
        ∃ Cv_1 : Hp → Prop, Cv_1 hp_1 ∧
        ∃ x37_ : Int, (∀ h', Cv_1 h' → cellsAt h' b_1 (0 + 2) [(Value.int .i64 x37_)]) ∧
        ∃ x39_ : Option Addr, cellsAt hp_1 b_ (0 + 1) [(Value.pointer x39_)] ∧
        CallsH Try.prog 41 #[(Value.pointer x39_)] hp_1 fun en_3 hp_5 =>
        ∃ x40_ : Int, en_3 = .returned (Value.int .i64 x40_) ∧
        Cv_1 hp_5 ∧
        CallsH Try.prog 12 #[(Value.int .i64 x37_), (Value.int .i64 x40_)] hp_5 fun en_4 hp_6 =>
        ∃ x41_ : Int, en_4 = .returned (Value.int .i64 x41_) ∧
        Cv_1 hp_6 ∧
        ∃ x43_ : Int, cellsAt hp_6 b_1 (0 + 4) [(Value.int .u8 x43_)] ∧
        ∃ x45_ : Int, cellsAt hp_6 b_1 (0 + 4) [(Value.int .u8 x45_)] ∧
        ∃ x46_, xorI .u8 x45_ (1 : Int) = x46_ ∧
        CallsH Try.prog 18 #[(Value.int .u8 x43_), (Value.int .u8 x46_)] hp_6 fun en_5 hp_7 =>
        ∃ x47_ : ByteArray, en_5 = .returned (Value.string x47_) ∧
        ∃ Cv_2 : Hp → Prop, Cv_2 hp_7 ∧
        ∃ x49_ : Option Addr, cellsAt hp_7 b_ (0 + 0) [(Value.pointer x49_)] ∧
        CallsH Try.prog 17 #[(Value.pointer x49_), (Value.int .i64 x41_), (Value.string x47_)] hp_7 fun en_6 hp_8 =>
        ∃ x52_ : Int, en_6 = .returned (Value.int .i64 x52_) ∧
        Cv_2 hp_8 ∧
        ∃ x54_ : Option Addr, (∀ h', Cv_2 h' → cellsAt h' b_ (0 + 1) [(Value.pointer x54_)]) ∧
        CallsH Try.prog 45 #[(Value.pointer x54_), (Value.int .i64 x41_), (Value.string x47_)] hp_8 fun en_7 hp_9 =>
        ∃ x57_ : Int, en_7 = .returned (Value.int .i64 x57_) ∧
        Cv_2 hp_9 ∧
        R (.returned (Value.bool (decide (x52_ = x57_)))) hp_9) ∧
       ((decide (x10_ = (3 : Int))) = false →
        (((decide (x10_ = (4 : Int))) = true →
          ∃ Cv_3 : Hp → Prop, Cv_3 hp_1 ∧
          ∃ x62_ : Option Addr, cellsAt hp_1 b_ (0 + 0) [(Value.pointer x62_)] ∧
          CallsH Try.prog 15 #[(Value.pointer x62_)] hp_1 fun en_8 hp_10 =>
          ∃ x63_ : Int, en_8 = .returned (Value.int .i64 x63_) ∧
          Cv_3 hp_10 ∧
          ∃ x65_ : Option Addr, (∀ h', Cv_3 h' → cellsAt h' b_ (0 + 1) [(Value.pointer x65_)]) ∧
          CallsH Try.prog 46 #[(Value.pointer x65_)] hp_10 fun en_9 hp_11 =>
          ∃ x66_ : Int, en_9 = .returned (Value.int .i64 x66_) ∧
          Cv_3 hp_11 ∧
          R (.returned (Value.bool (decide (x63_ = x66_)))) hp_11) ∧
         ((decide (x10_ = (4 : Int))) = false →
          (((decide (x10_ = (5 : Int))) = true →
            ∃ x71_ : Option Addr, cellsAt hp_1 b_ (0 + 0) [(Value.pointer x71_)] ∧
            ∃ x73_ : Int, cellsAt hp_1 b_1 (0 + 2) [(Value.int .i64 x73_)] ∧
            CallsH Try.prog 21 #[(Value.pointer x71_), (Value.int .i64 x73_)] hp_1 fun en_10 hp_12 =>
            en_10 = .returned (Value.tuple #[]) ∧
            ∃ x76_ : Option Addr, cellsAt hp_12 b_ (0 + 1) [(Value.pointer x76_)] ∧
            ∃ x78_ : Int, cellsAt hp_12 b_1 (0 + 2) [(Value.int .i64 x78_)] ∧
            CallsH Try.prog 47 #[(Value.pointer x76_), (Value.int .i64 x78_)] hp_12 fun en_11 hp_13 =>
            en_11 = .returned (Value.tuple #[]) ∧
            R (.returned (Value.bool true)) hp_13) ∧
           ((decide (x10_ = (5 : Int))) = false →
            (((decide (x10_ = (6 : Int))) = true →
              ∃ x82f0_ : Option Addr, ∃ x82f1_ : Option Addr, cellsAt hp_1 b_ 0 [(Value.pointer x82f0_), (Value.pointer x82f1_)] ∧
              ∃ (x84p_ : Option Addr) (x84n_ x84c_ : Nat), cellsAt hp_1 b_1 (0 + 5) [(Value.slice x84p_ x84n_ x84c_)] ∧
              CallsH Try.prog 48 #[(Value.agg #[(Value.pointer x82f0_), (Value.pointer x82f1_)]), (Value.slice x84p_ x84n_ x84c_)] hp_1 fun en_12 hp_14 =>
              ∃ x85_ : Bool, en_12 = .returned (Value.bool x85_) ∧
              R (.returned (Value.bool x85_)) hp_14) ∧
             ((decide (x10_ = (6 : Int))) = false →
              (((decide (x10_ = (7 : Int))) = true →
                ∃ x88f0_ : Option Addr, ∃ x88f1_ : Option Addr, cellsAt hp_1 b_ 0 [(Value.pointer x88f0_), (Value.pointer x88f1_)] ∧
                CallsH Try.prog 34 #[(Value.agg #[(Value.pointer x88f0_), (Value.pointer x88f1_)])] hp_1 fun en_13 hp_15 =>
                ∃ x89_ : Bool, en_13 = .returned (Value.bool x89_) ∧
                R (.returned (Value.bool x89_)) hp_15) ∧
               ((decide (x10_ = (7 : Int))) = false →
                (((decide (x10_ = (8 : Int))) = true →
                  ∃ Cv_4 : Hp → Prop, Cv_4 hp_1 ∧
                  ∃ x93_ : Option Addr, cellsAt hp_1 b_ (0 + 0) [(Value.pointer x93_)] ∧
                  CallsH Try.prog 14 #[(Value.pointer x93_)] hp_1 fun en_14 hp_16 =>
                  ∃ x94_ : ByteArray, en_14 = .returned (Value.string x94_) ∧
                  Cv_4 hp_16 ∧
                  ∃ x96_ : Option Addr, (∀ h', Cv_4 h' → cellsAt h' b_ (0 + 1) [(Value.pointer x96_)]) ∧
                  CallsH Try.prog 31 #[(Value.pointer x96_)] hp_16 fun en_15 hp_17 =>
                  ∃ x97_ : ByteArray, en_15 = .returned (Value.string x97_) ∧
                  Cv_4 hp_17 ∧
                  R (.returned (Value.bool (decide (x94_ = x97_)))) hp_17) ∧
                 ((decide (x10_ = (8 : Int))) = false →
                  (((decide (x10_ = (9 : Int))) = true →
                    ∃ (Iv_ : List Value → Hp → Prop) (m_ : List Value → Hp → Nat), Iv_ [(Value.int .i64 (0 : Int))] hp_1 ∧
                    (∀ (i_ : Int) hp_18, Iv_ [(Value.int .i64 i_)] hp_18 →
                     ∃ Jv_ : List Value → Hp → Prop,
                     (∃ x103_ : Option Addr, cellsAt hp_18 b_ (0 + 1) [(Value.pointer x103_)] ∧
                      CallsH Try.prog 41 #[(Value.pointer x103_)] hp_18 fun en_16 hp_19 =>
                      ∃ x104_ : Int, en_16 = .returned (Value.int .i64 x104_) ∧
                      (((decide (i_ < x104_)) = true →
                        (((decide (i_ < (64 : Int))) = true →
                          Jv_ [] hp_19) ∧
                         ((decide (i_ < (64 : Int))) = false →
                          R (.returned (Value.bool true)) hp_19))) ∧
                       ((decide (i_ < x104_)) = false →
                        R (.returned (Value.bool true)) hp_19))) ∧
                     (∀  hp_20, Jv_ [] hp_20 →
                      ∃ x112f0_ : Option Addr, ∃ x112f1_ : Option Addr, cellsAt hp_20 b_ 0 [(Value.pointer x112f0_), (Value.pointer x112f1_)] ∧
                      CallsH Try.prog 30 #[(Value.agg #[(Value.pointer x112f0_), (Value.pointer x112f1_)]), (Value.int .i64 i_)] hp_20 fun en_17 hp_21 =>
                      ∃ x114_ : Bool, en_17 = .returned (Value.bool x114_) ∧
                      (((!x114_) = true →
                        R (.returned (Value.bool false)) hp_21) ∧
                       ((!x114_) = false →
                        ∃ x111_, IntKind.i64.wrap (i_ + (1 : Int)) = x111_ ∧
                        (Iv_ [(Value.int .i64 x111_)] hp_21 ∧ m_ [(Value.int .i64 x111_)] hp_21 < m_ [(Value.int .i64 i_)] hp_18)))))) ∧
                   ((decide (x10_ = (9 : Int))) = false →
                    R (.returned (Value.bool true)) hp_1))))))))))))))))))) :
  CallsH Try.prog 33 #[(Value.agg #[(Value.pointer pf0_), (Value.pointer pf1_)]), (Value.agg #[(Value.int .i64 of0_), (Value.int .i64 of1_), (Value.int .i64 of2_), (Value.string of3_), (Value.int .u8 of4_), (Value.slice of5p_ of5n_ of5c_)])] h R := calls_vc fine false Try.func33 (ann := A33) (args := [(Value.agg #[(Value.pointer pf0_), (Value.pointer pf1_)]), (Value.agg #[(Value.int .i64 of0_), (Value.int .i64 of1_), (Value.int .i64 of2_), (Value.string of3_), (Value.int .u8 of4_), (Value.slice of5p_ of5n_ of5c_)])]) (by kernel_rfl) (Eq.mpr (by kernel_rfl) H)
/-- (turnout/turnoutlaw04.pair).pending -/
def A34 : Ann := (.seq .nil (.seq .nil (.seq .nil (.seq .nil (.seq .nil (.seq .nil (.seq (.seq .nil (.block (.loop [(8, (.int .i64))] (.seq (.seq .nil (.cond .nil .nil)) (.seq (.block .nil) .nil))))) (.seq (.seq .nil (.block (.loop [(3, .slice), (9, (.int .i64))] (.seq (.seq .nil (.cond .nil .nil)) (.seq (.block .nil) .nil))))) (.seq .nil (.seq .nil (.seq .nil (.seq (.join 2) .nil))))))))))))
theorem V34 (pf0_ : Option Addr) (pf1_ : Option Addr) (h : Hp) (R : Ending → Hp → Prop) (H :
  ∀ b_ hp_, b_ = Array.size h → hp_ = Array.push h (.cells #[(Value.pointer pf0_), (Value.pointer pf1_)] 59) →
  ∃ x14_ : Option Addr, cellsAt hp_ b_ (0 + 0) [(Value.pointer x14_)] ∧
  CallsH Try.prog 25 #[(Value.pointer x14_)] hp_ fun en_ hp_1 =>
  ∃ (x15p_ : Option Addr) (x15n_ x15c_ : Nat), en_ = .returned (Value.slice x15p_ x15n_ x15c_) ∧
  ∃ x17_ : Option Addr, cellsAt hp_1 b_ (0 + 0) [(Value.pointer x17_)] ∧
  CallsH Try.prog 25 #[(Value.pointer x17_)] hp_1 fun en_1 hp_2 =>
  ∃ (x18p_ : Option Addr) (x18n_ x18c_ : Nat), en_1 = .returned (Value.slice x18p_ x18n_ x18c_) ∧
  ∃ x20_ : Option Addr, cellsAt hp_2 b_ (0 + 1) [(Value.pointer x20_)] ∧
  CallsH Try.prog 49 #[(Value.pointer x20_)] hp_2 fun en_2 hp_3 =>
  ∃ (x21p_ : Option Addr) (x21n_ x21c_ : Nat), en_2 = .returned (Value.slice x21p_ x21n_ x21c_) ∧
  CallsH Try.prog 50 #[(Value.slice x15p_ x15n_ x15c_), (Value.slice x21p_ x21n_ x21c_)] hp_3 fun en_3 hp_4 =>
  ∃ x24_ : Bool, en_3 = .returned (Value.bool x24_) ∧
  CallsH Try.prog 50 #[(Value.slice x18p_ x18n_ x18c_), (Value.slice x21p_ x21n_ x21c_)] hp_4 fun en_4 hp_5 =>
  ∃ x27_ : Bool, en_4 = .returned (Value.bool x27_) ∧
  ∃ (Iv_ : List Value → Hp → Prop) (m_ : List Value → Hp → Nat), Iv_ [(Value.int .i64 (0 : Int))] hp_5 ∧
  (∀ (i_ : Int) hp_6, Iv_ [(Value.int .i64 i_)] hp_6 →
   (((decide (i_ < ((x15n_ : Nat) : Int))) = true →
     ∃ b_1 o_, x15p_ = some ⟨b_1, o_, none⟩ ∧ 0 ≤ i_ ∧ i_ < (x15n_ : Int) ∧
     Value.oneCell' (Value.int .i64 (-1 : Int)) = true ∧ wrAt hp_6 b_1 (o_ + Int.toNat i_ * 1) 1 ∧ ∀ hp_7, hp_7 = setsH hp_6 b_1 (o_ + Int.toNat i_ * 1) [(Value.int .i64 (-1 : Int))] →
     ∃ x33_, IntKind.i64.wrap (i_ + (1 : Int)) = x33_ ∧
     (Iv_ [(Value.int .i64 x33_)] hp_7 ∧ m_ [(Value.int .i64 x33_)] hp_7 < m_ [(Value.int .i64 i_)] hp_6)) ∧
    ((decide (i_ < ((x15n_ : Nat) : Int))) = false →
     ∃ (Iv_1 : List Value → Hp → Prop) (m_1 : List Value → Hp → Nat), Iv_1 [(Value.slice x15p_ x15n_ x15c_), (Value.int .i64 (0 : Int))] hp_6 ∧
     (∀ (xp_ : Option Addr) (xn_ xc_ : Nat) (i_1 : Int) hp_8, Iv_1 [(Value.slice xp_ xn_ xc_), (Value.int .i64 i_1)] hp_8 →
      (((decide (i_1 < (9 : Int))) = true →
        SemH Try.prog (Instr.buildSlice 50 1 #[(0, (Value.int .i64 (-1 : Int)))]) hp_8 fun v_ hp_9 =>
        ∃ (x42p_ : Option Addr) (x42n_ x42c_ : Nat), v_ = (Value.slice x42p_ x42n_ x42c_) ∧
        SemH Try.prog (Builtin.append_ #[50, 50] 50 #[(Value.slice xp_ xn_ xc_), (Value.slice x42p_ x42n_ x42c_)]) hp_9 fun v_1 hp_10 =>
        ∃ (x43p_ : Option Addr) (x43n_ x43c_ : Nat), v_1 = (Value.slice x43p_ x43n_ x43c_) ∧
        ∃ x40_, IntKind.i64.wrap (i_1 + (1 : Int)) = x40_ ∧
        (Iv_1 [(Value.slice x43p_ x43n_ x43c_), (Value.int .i64 x40_)] hp_10 ∧ m_1 [(Value.slice x43p_ x43n_ x43c_), (Value.int .i64 x40_)] hp_10 < m_1 [(Value.slice xp_ xn_ xc_), (Value.int .i64 i_1)] hp_8)) ∧
       ((decide (i_1 < (9 : Int))) = false →
        CallsH Try.prog 50 #[(Value.slice x18p_ x18n_ x18c_), (Value.slice x21p_ x21n_ x21c_)] hp_8 fun en_5 hp_11 =>
        ∃ x46_ : Bool, en_5 = .returned (Value.bool x46_) ∧
        ∃ x48_ : Option Addr, cellsAt hp_11 b_ (0 + 0) [(Value.pointer x48_)] ∧
        CallsH Try.prog 25 #[(Value.pointer x48_)] hp_11 fun en_6 hp_12 =>
        ∃ (x49p_ : Option Addr) (x49n_ x49c_ : Nat), en_6 = .returned (Value.slice x49p_ x49n_ x49c_) ∧
        CallsH Try.prog 50 #[(Value.slice x49p_ x49n_ x49c_), (Value.slice x21p_ x21n_ x21c_)] hp_12 fun en_7 hp_13 =>
        ∃ x52_ : Bool, en_7 = .returned (Value.bool x52_) ∧
        ∃ B_ : Bool, (((x24_ = true →
           ((x27_ = true →
             ((x46_ = true →
               hp_13 = hp_13 ∧ B_ = x52_) ∧
              (x46_ = false →
               hp_13 = hp_13 ∧ B_ = false))) ∧
            (x27_ = false →
             hp_13 = hp_13 ∧ B_ = false))) ∧
          (x24_ = false →
           hp_13 = hp_13 ∧ B_ = false))) ∧
        R (.returned (Value.bool B_)) hp_13))))))) :
  CallsH Try.prog 34 #[(Value.agg #[(Value.pointer pf0_), (Value.pointer pf1_)])] h R := calls_vc fine false Try.func34 (ann := A34) (args := [(Value.agg #[(Value.pointer pf0_), (Value.pointer pf1_)])]) (by kernel_rfl) (Eq.mpr (by kernel_rfl) H)
/-- (*turnout/disk.Disk).asked -/
def A35 : Ann := (.seq .nil (.seq (.block (.seq .nil (.cond (.seq .nil .nil) (.seq .nil (.cond (.seq .nil .nil) (.seq (.join 13) (.cond (.seq .nil .nil) .nil))))))) (.seq .nil .nil)))
theorem V35 (d_ : Option Addr) (n_ : Int) (h : Hp) (R : Ending → Hp → Prop) (H :
  ∃ x7_, EqV Try.prog 25 (Value.pointer d_) (Value.pointer none) x7_ ∧
  ((x7_ = true →
    R (.returned (Value.int .i64 (1 : Int))) h) ∧
   (x7_ = false →
    ∃ b_ o_, d_ = some ⟨b_, o_, none⟩ ∧
    ∃ x12_ : Bool, cellsAt h b_ (o_ + 4) [(Value.bool x12_)] ∧
    ((x12_ = true →
      R (.returned (Value.int .i64 (40 : Int))) h) ∧
     (x12_ = false →
      ∃ B_ : Bool, ((((decide (n_ < (0 : Int))) = true →
         h = h ∧ B_ = true) ∧
        ((decide (n_ < (0 : Int))) = false →
         ∃ b_1 o_1, d_ = some ⟨b_1, o_1, none⟩ ∧
         ∃ (x21p_ : Option Addr) (x21n_ x21c_ : Nat), cellsAt h b_1 (o_1 + 0) [(Value.slice x21p_ x21n_ x21c_)] ∧
         h = h ∧ B_ = (decide (((x21n_ : Nat) : Int) ≤ n_))))) ∧
      ((B_ = true →
        R (.returned (Value.int .i64 (41 : Int))) h) ∧
       (B_ = false →
        R (.returned (Value.int .i64 (0 : Int))) h))))))) :
  CallsH Try.prog 35 #[(Value.pointer d_), (Value.int .i64 n_)] h R := calls_vc fine false Try.func35 (ann := A35) (args := [(Value.pointer d_), (Value.int .i64 n_)]) (by kernel_rfl) (Eq.mpr (by kernel_rfl) H)
/-- (*turnout/disk.Disk).step -/
def A36 : Ann := (.seq .nil (.seq (.seq .nil (.cond (.seq .nil .nil) .nil)) (.seq .nil (.seq .nil (.seq .nil .nil)))))
theorem V36 (d_ : Option Addr) (h : Hp) (R : Ending → Hp → Prop) (H :
  ∃ b_ o_, d_ = some ⟨b_, o_, none⟩ ∧
  ∃ x6_ : Int, cellsAt h b_ (o_ + 5) [(Value.int .i64 x6_)] ∧
  (((decide (x6_ = (0 : Int))) = true →
    R (.returned (Value.bool true)) h) ∧
   ((decide (x6_ = (0 : Int))) = false →
    ∃ b_1 o_1, d_ = some ⟨b_1, o_1, none⟩ ∧
    ∃ x11_ : Int, cellsAt h b_1 (o_1 + 5) [(Value.int .i64 x11_)] ∧
    ∃ x12_, IntKind.i64.wrap (x11_ - (1 : Int)) = x12_ ∧
    ∃ b_2 o_2, d_ = some ⟨b_2, o_2, none⟩ ∧
    Value.oneCell' (Value.int .i64 x12_) = true ∧ wrAt h b_2 (o_2 + 5) 1 ∧ ∀ hp_, hp_ = setsH h b_2 (o_2 + 5) [(Value.int .i64 x12_)] →
    ∃ b_3 o_3, d_ = some ⟨b_3, o_3, none⟩ ∧
    ∃ x19_ : Int, cellsAt hp_ b_3 (o_3 + 5) [(Value.int .i64 x19_)] ∧
    ∃ b_4 o_4, d_ = some ⟨b_4, o_4, none⟩ ∧
    Value.oneCell' (Value.bool (decide (x19_ = (0 : Int)))) = true ∧ wrAt hp_ b_4 (o_4 + 4) 1 ∧ ∀ hp_1, hp_1 = setsH hp_ b_4 (o_4 + 4) [(Value.bool (decide (x19_ = (0 : Int))))] →
    ∃ b_5 o_5, d_ = some ⟨b_5, o_5, none⟩ ∧
    ∃ x26_ : Bool, cellsAt hp_1 b_5 (o_5 + 4) [(Value.bool x26_)] ∧
    R (.returned (Value.bool (!x26_))) hp_1))) :
  CallsH Try.prog 36 #[(Value.pointer d_)] h R := calls_vc fine false Try.func36 (ann := A36) (args := [(Value.pointer d_)]) (by kernel_rfl) (Eq.mpr (by kernel_rfl) H)
/-- (*turnout/disk.Disk).forget -/
def A37 : Ann := (.seq .nil (.seq .nil .nil))
theorem V37 (d_ : Option Addr) (h : Hp) (R : Ending → Hp → Prop) (H :
  ∃ b_ o_, d_ = some ⟨b_, o_, none⟩ ∧
  ∃ x5_ : Option Nat, cellsAt h b_ (o_ + 1) [(Value.map x5_)] ∧
  SemH Try.prog (Builtin.clear_ #[73] 0 #[(Value.map x5_)]) h fun v_ hp_ =>
  v_ = (Value.tuple #[]) ∧
  ∃ b_1 o_1, d_ = some ⟨b_1, o_1, none⟩ ∧
  Value.oneCell' (Value.slice none 0 0) = true ∧ wrAt hp_ b_1 (o_1 + 2) 1 ∧ ∀ hp_1, hp_1 = setsH hp_ b_1 (o_1 + 2) [(Value.slice none 0 0)] →
  ∃ b_2 o_2, d_ = some ⟨b_2, o_2, none⟩ ∧
  Value.oneCell' (Value.slice none 0 0) = true ∧ wrAt hp_1 b_2 (o_2 + 3) 1 ∧ ∀ hp_2, hp_2 = setsH hp_1 b_2 (o_2 + 3) [(Value.slice none 0 0)] →
  R (.returned (Value.tuple #[])) hp_2) :
  CallsH Try.prog 37 #[(Value.pointer d_)] h R := calls_vc fine false Try.func37 (ann := A37) (args := [(Value.pointer d_)]) (by kernel_rfl) (Eq.mpr (by kernel_rfl) H)
/-- turnout/disk.kept -/
def A38 : Ann := (.seq .nil (.seq (.seq .nil (.block (.seq .nil (.cond (.seq .nil .nil) (.seq .nil (.cond (.seq .nil .nil) .nil)))))) (.seq .nil .nil)))
theorem V38 (ff0_ : Int) (ff1_ : Int) (h : Hp) (R : Ending → Hp → Prop) (H :
  ∀ b_ hp_, b_ = Array.size h → hp_ = Array.push h (.cells #[(Value.int .i64 ff0_), (Value.int .i64 ff1_)] 30) →
  ∃ x4_ : Int, cellsAt hp_ b_ (0 + 0) [(Value.int .i64 x4_)] ∧
  (((decide (x4_ = (1 : Int))) = true →
    R (.returned (Value.int .i64 (512 : Int))) hp_) ∧
   ((decide (x4_ = (1 : Int))) = false →
    (((decide (x4_ = (2 : Int))) = true →
      ∃ x10_ : Int, cellsAt hp_ b_ (0 + 1) [(Value.int .i64 x10_)] ∧
      R (.returned (Value.int .i64 (min (max x10_ (0 : Int)) (512 : Int)))) hp_) ∧
     ((decide (x4_ = (2 : Int))) = false →
      R (.returned (Value.int .i64 (0 : Int))) hp_))))) :
  CallsH Try.prog 38 #[(Value.agg #[(Value.int .i64 ff0_), (Value.int .i64 ff1_)])] h R := calls_vc fine false Try.func38 (ann := A38) (args := [(Value.agg #[(Value.int .i64 ff0_), (Value.int .i64 ff1_)])]) (by kernel_rfl) (Eq.mpr (by kernel_rfl) H)
/-- (*turnout/disk.Disk).Write$1 -/
def A39 : Ann := .nil
theorem V39 (safep_ : Option Addr) (safen_ safec_ : Nat) (keep_ : Int) (a2_ : Option Addr) (a3_ : Option Addr) (h : Hp) (R : Ending → Hp → Prop) (H :
  ∃ b_ o_, a3_ = some ⟨b_, o_, none⟩ ∧
  ∃ x7_ : Int, cellsAt h b_ o_ [(Value.int .i64 x7_)] ∧
  ∃ b_1 o_1, a2_ = some ⟨b_1, o_1, none⟩ ∧
  ∃ x8_ : ByteArray, cellsAt h b_1 o_1 [(Value.string x8_)] ∧
  ∃ u_ : Nat, keep_ = (u_ : Int) ∧
  0 ≤ u_ ∧ u_ ≤ ByteArray.size x8_ ∧ ∃ x10_, ByteArray.extract x8_ 0 u_ = x10_ ∧
  ∃ b_2 o_2, a3_ = some ⟨b_2, o_2, none⟩ ∧
  ∃ x12_ : Int, cellsAt h b_2 o_2 [(Value.int .i64 x12_)] ∧
  ∃ b_3 o_3, safep_ = some ⟨b_3, o_3, none⟩ ∧ 0 ≤ x12_ ∧ x12_ < (safen_ : Int) ∧
  ∃ x14_ : ByteArray, cellsAt h b_3 (o_3 + Int.toNat x12_ * 1) [(Value.string x14_)] ∧
  ∃ l_ : Nat, keep_ = (l_ : Int) ∧
  l_ ≤ (ByteArray.size x14_) ∧ (ByteArray.size x14_) ≤ ByteArray.size x14_ ∧ ∃ x16_, ByteArray.extract x14_ l_ (ByteArray.size x14_) = x16_ ∧
  ByteArray.size x10_ + ByteArray.size x16_ ≤ 9223372036854775807 ∧ ∃ x17_, x10_ ++ x16_ = x17_ ∧
  ∃ b_4 o_4, safep_ = some ⟨b_4, o_4, none⟩ ∧ 0 ≤ x7_ ∧ x7_ < (safen_ : Int) ∧
  Value.oneCell' (Value.string x17_) = true ∧ wrAt h b_4 (o_4 + Int.toNat x7_ * 1) 1 ∧ ∀ hp_, hp_ = setsH h b_4 (o_4 + Int.toNat x7_ * 1) [(Value.string x17_)] →
  R (.returned (Value.tuple #[])) hp_) :
  CallsH Try.prog 39 #[(Value.slice safep_ safen_ safec_), (Value.int .i64 keep_), (Value.pointer a2_), (Value.pointer a3_)] h R := calls_vc fine false Try.func39 (ann := A39) (args := [(Value.slice safep_ safen_ safec_), (Value.int .i64 keep_), (Value.pointer a2_), (Value.pointer a3_)]) (by kernel_rfl) (Eq.mpr (by kernel_rfl) H)
/-- turnout/turnoutref04.noughts -/
def A40 : Ann := (.seq .nil (.seq .nil .nil))
theorem V40  (h : Hp) (R : Ending → Hp → Prop) (H :
  SemH Try.prog (Instr.makeSlice 62 (Value.int .i64 (512 : Int)) (Value.int .i64 (512 : Int))) h fun v_ hp_ =>
  ∃ (x1p_ : Option Addr) (x1n_ x1c_ : Nat), v_ = (Value.slice x1p_ x1n_ x1c_) ∧
  SemH Try.prog (convert 62 9 (Value.slice x1p_ x1n_ x1c_)) hp_ fun v_1 hp_1 =>
  ∃ x2_ : ByteArray, v_1 = (Value.string x2_) ∧
  R (.returned (Value.string x2_)) hp_1) :
  CallsH Try.prog 40 #[] h R := calls_vc fine false Try.func40 (ann := A40) (args := []) (by kernel_rfl) (Eq.mpr (by kernel_rfl) H)
/-- (*turnout/turnoutref04.Disk).Size -/
def A41 : Ann := (.seq .nil (.seq .nil .nil))
theorem V41 (d_ : Option Addr) (h : Hp) (R : Ending → Hp → Prop) (H :
  ∃ b_ o_, d_ = some ⟨b_, o_, none⟩ ∧
  ∃ (x6p_ : Option Addr) (x6n_ x6c_ : Nat), cellsAt h b_ (o_ + 0) [(Value.slice x6p_ x6n_ x6c_)] ∧
  R (.returned (Value.int .i64 ((x6n_ : Nat) : Int))) h) :
  CallsH Try.prog 41 #[(Value.pointer d_)] h R := calls_vc fine false Try.func41 (ann := A41) (args := [(Value.pointer d_)]) (by kernel_rfl) (Eq.mpr (by kernel_rfl) H)
/-- (*turnout/turnoutref04.Disk).Off -/
def A42 : Ann := (.seq .nil (.seq .nil .nil))
theorem V42 (d_ : Option Addr) (h : Hp) (R : Ending → Hp → Prop) (H :
  ∃ b_ o_, d_ = some ⟨b_, o_, none⟩ ∧
  ∃ x6_ : Bool, cellsAt h b_ (o_ + 2) [(Value.bool x6_)] ∧
  R (.returned (Value.bool x6_)) h) :
  CallsH Try.prog 42 #[(Value.pointer d_)] h R := calls_vc fine false Try.func42 (ann := A42) (args := [(Value.pointer d_)]) (by kernel_rfl) (Eq.mpr (by kernel_rfl) H)
/-- (*turnout/turnoutref04.Disk).Stats -/
def A43 : Ann := (.seq .nil (.seq .nil .nil))
theorem V43 (d_ : Option Addr) (h : Hp) (R : Ending → Hp → Prop) (H :
  ∀ b_ hp_, b_ = Array.size h → hp_ = Array.push h (.cells (zeros Try.prog 48) 48) → (∃ i z, Try.prog.info? 48 = some i ∧ i.zero = some z) ∧
  ∃ b_1 o_, d_ = some ⟨b_1, o_, none⟩ ∧
  ∃ x6f0_ : Int, ∃ x6f1_ : Int, ∃ x6f2_ : Int, cellsAt hp_ b_1 (o_ + 4) [(Value.int .i64 x6f0_), (Value.int .i64 x6f1_), (Value.int .i64 x6f2_)] ∧
  List.length [(Value.int .i64 x6f0_), (Value.int .i64 x6f1_), (Value.int .i64 x6f2_)] = 3 ∧ (∀ c ∈ [(Value.int .i64 x6f0_), (Value.int .i64 x6f1_), (Value.int .i64 x6f2_)], c.oneCell' = true) ∧ wrAt hp_ b_ 0 3 ∧ ∀ hp_1, hp_1 = setsH hp_ b_ 0 [(Value.int .i64 x6f0_), (Value.int .i64 x6f1_), (Value.int .i64 x6f2_)] →
  ∃ resf0_ : Int, ∃ resf1_ : Int, ∃ resf2_ : Int, cellsAt hp_1 b_ 0 [(Value.int .i64 resf0_), (Value.int .i64 resf1_), (Value.int .i64 resf2_)] ∧
  R (.returned (Value.agg #[(Value.int .i64 resf0_), (Value.int .i64 resf1_), (Value.int .i64 resf2_)])) hp_1) :
  CallsH Try.prog 43 #[(Value.pointer d_)] h R := calls_vc fine false Try.func43 (ann := A43) (args := [(Value.pointer d_)]) (by kernel_rfl) (Eq.mpr (by kernel_rfl) H)
/-- (*turnout/turnoutref04.Disk).Read -/
def A44 : Ann := (.seq .nil (.seq (.seq .nil (.cond (.seq .nil .nil) .nil)) (.cut (.seq (.join 20) (.cond (.seq .nil .nil) .nil)) [] (.seq .nil (.seq .nil .nil)))))
theorem V44 (d_ : Option Addr) (n_ : Int) (h : Hp) (R : Ending → Hp → Prop) (H :
  ∃ b_ o_, d_ = some ⟨b_, o_, none⟩ ∧
  ∃ x9_ : Bool, cellsAt h b_ (o_ + 2) [(Value.bool x9_)] ∧
  ((x9_ = true →
    R (.returned (Value.tuple #[(Value.string (⟨#[]⟩ : ByteArray)), (Value.int .i64 (40 : Int))])) h) ∧
   (x9_ = false →
    ∃ Jv_ : List Value → Hp → Prop,
    (∃ B_ : Bool, ((((decide (n_ < (0 : Int))) = true →
        h = h ∧ B_ = true) ∧
       ((decide (n_ < (0 : Int))) = false →
        ∃ b_1 o_1, d_ = some ⟨b_1, o_1, none⟩ ∧
        ∃ (x17p_ : Option Addr) (x17n_ x17c_ : Nat), cellsAt h b_1 (o_1 + 0) [(Value.slice x17p_ x17n_ x17c_)] ∧
        h = h ∧ B_ = (decide (((x17n_ : Nat) : Int) ≤ n_))))) ∧
     ((B_ = true →
       R (.returned (Value.tuple #[(Value.string (⟨#[]⟩ : ByteArray)), (Value.int .i64 (41 : Int))])) h) ∧
      (B_ = false →
       Jv_ [] h))) ∧
    (∀  hp_, Jv_ [] hp_ →
     ∃ b_2 o_2, d_ = some ⟨b_2, o_2, none⟩ ∧
     ∃ x25_ : Int, cellsAt hp_ b_2 ((o_2 + 4) + 0) [(Value.int .i64 x25_)] ∧
     ∃ x26_, IntKind.i64.wrap (x25_ + (1 : Int)) = x26_ ∧
     ∃ b_3 o_3, d_ = some ⟨b_3, o_3, none⟩ ∧
     Value.oneCell' (Value.int .i64 x26_) = true ∧ wrAt hp_ b_3 ((o_3 + 4) + 0) 1 ∧ ∀ hp_1, hp_1 = setsH hp_ b_3 ((o_3 + 4) + 0) [(Value.int .i64 x26_)] →
     CallsH Try.prog 51 #[(Value.pointer d_), (Value.int .i64 n_)] hp_1 fun en_ hp_2 =>
     ∃ x32_ : ByteArray, en_ = .returned (Value.string x32_) ∧
     R (.returned (Value.tuple #[(Value.string x32_), (Value.int .i64 (0 : Int))])) hp_2)))) :
  CallsH Try.prog 44 #[(Value.pointer d_), (Value.int .i64 n_)] h R := calls_vc fine false Try.func44 (ann := A44) (args := [(Value.pointer d_), (Value.int .i64 n_)]) (by kernel_rfl) (Eq.mpr (by kernel_rfl) H)
/-- (*turnout/turnoutref04.Disk).Write -/
def A45 : Ann := (.seq .nil (.seq (.seq .nil (.cond (.seq .nil .nil) .nil)) (.cut (.seq (.join 22) (.cond (.seq .nil .nil) .nil)) [] (.seq (.seq .nil (.cond (.seq .nil .nil) .nil)) (.seq .nil (.seq (.seq .nil (.cond (.seq .nil .nil) .nil)) (.seq .nil (.seq .nil (.seq .nil .nil)))))))))
theorem V45 (d_ : Option Addr) (n_ : Int) (s_ : ByteArray) (h : Hp) (R : Ending → Hp → Prop) (H :
  ∃ b_ o_, d_ = some ⟨b_, o_, none⟩ ∧
  ∃ x11_ : Bool, cellsAt h b_ (o_ + 2) [(Value.bool x11_)] ∧
  ((x11_ = true →
    R (.returned (Value.int .i64 (40 : Int))) h) ∧
   (x11_ = false →
    ∃ Jv_ : List Value → Hp → Prop,
    (∃ B_ : Bool, ((((decide (n_ < (0 : Int))) = true →
        h = h ∧ B_ = true) ∧
       ((decide (n_ < (0 : Int))) = false →
        ∃ b_1 o_1, d_ = some ⟨b_1, o_1, none⟩ ∧
        ∃ (x19p_ : Option Addr) (x19n_ x19c_ : Nat), cellsAt h b_1 (o_1 + 0) [(Value.slice x19p_ x19n_ x19c_)] ∧
        h = h ∧ B_ = (decide (((x19n_ : Nat) : Int) ≤ n_))))) ∧
     ((B_ = true →
       R (.returned (Value.int .i64 (41 : Int))) h) ∧
      (B_ = false →
       Jv_ [] h))) ∧
    (∀  hp_, Jv_ [] hp_ →
     (((decide ((ByteArray.size s_ : Int) ≠ (512 : Int))) = true →
       R (.returned (Value.int .i64 (42 : Int))) hp_) ∧
      ((decide ((ByteArray.size s_ : Int) ≠ (512 : Int))) = false →
       CallsH Try.prog 52 #[(Value.pointer d_)] hp_ fun en_ hp_1 =>
       ∃ x27_ : Bool, en_ = .returned (Value.bool x27_) ∧
       ((x27_ = true →
         R (.returned (Value.int .i64 (40 : Int))) hp_1) ∧
        (x27_ = false →
         ∃ b_2 o_2, d_ = some ⟨b_2, o_2, none⟩ ∧
         ∃ (x33p_ : Option Addr) (x33n_ x33c_ : Nat), cellsAt hp_1 b_2 (o_2 + 1) [(Value.slice x33p_ x33n_ x33c_)] ∧
         SemH Try.prog (Instr.buildSlice 82 1 #[(0, (Value.agg #[(Value.int .i64 n_), (Value.string s_)]))]) hp_1 fun v_ hp_2 =>
         ∃ (x37p_ : Option Addr) (x37n_ x37c_ : Nat), v_ = (Value.slice x37p_ x37n_ x37c_) ∧
         SemH Try.prog (Builtin.append_ #[82, 82] 82 #[(Value.slice x33p_ x33n_ x33c_), (Value.slice x37p_ x37n_ x37c_)]) hp_2 fun v_1 hp_3 =>
         ∃ (x38p_ : Option Addr) (x38n_ x38c_ : Nat), v_1 = (Value.slice x38p_ x38n_ x38c_) ∧
         ∃ b_3 o_3, d_ = some ⟨b_3, o_3, none⟩ ∧
         Value.oneCell' (Value.slice x38p_ x38n_ x38c_) = true ∧ wrAt hp_3 b_3 (o_3 + 1) 1 ∧ ∀ hp_4, hp_4 = setsH hp_3 b_3 (o_3 + 1) [(Value.slice x38p_ x38n_ x38c_)] →
         ∃ b_4 o_4, d_ = some ⟨b_4, o_4, none⟩ ∧
         ∃ x45_ : Int, cellsAt hp_4 b_4 ((o_4 + 4) + 1) [(Value.int .i64 x45_)] ∧
         ∃ x46_, IntKind.i64.wrap (x45_ + (1 : Int)) = x46_ ∧
         ∃ b_5 o_5, d_ = some ⟨b_5, o_5, none⟩ ∧
         Value.oneCell' (Value.int .i64 x46_) = true ∧ wrAt hp_4 b_5 ((o_5 + 4) + 1) 1 ∧ ∀ hp_5, hp_5 = setsH hp_4 b_5 ((o_5 + 4) + 1) [(Value.int .i64 x46_)] →
         R (.returned (Value.int .i64 (0 : Int))) hp_5)))))))) :
  CallsH Try.prog 45 #[(Value.pointer d_), (Value.int .i64 n_), (Value.string s_)] h R := calls_vc fine false Try.func45 (ann := A45) (args := [(Value.pointer d_), (Value.int .i64 n_), (Value.string s_)]) (by kernel_rfl) (Eq.mpr (by kernel_rfl) H)
/-- (*turnout/turnoutref04.Disk).Flush -/
def A46 : Ann := (.seq .nil (.seq (.seq .nil (.cond (.seq .nil .nil) .nil)) (.seq .nil (.seq (.seq .nil (.cond (.seq .nil .nil) .nil)) (.seq (.seq .nil (.block (.loop [(4, (.int .i64))] (.seq (.seq .nil (.cond .nil .nil)) (.seq (.block .nil) .nil))))) (.seq .nil (.seq .nil (.seq .nil .nil))))))))
theorem V46 (d_ : Option Addr) (h : Hp) (R : Ending → Hp → Prop) (H :
  ∃ b_ o_, d_ = some ⟨b_, o_, none⟩ ∧
  ∃ x8_ : Bool, cellsAt h b_ (o_ + 2) [(Value.bool x8_)] ∧
  ((x8_ = true →
    R (.returned (Value.int .i64 (40 : Int))) h) ∧
   (x8_ = false →
    CallsH Try.prog 52 #[(Value.pointer d_)] h fun en_ hp_ =>
    ∃ x10_ : Bool, en_ = .returned (Value.bool x10_) ∧
    ((x10_ = true →
      R (.returned (Value.int .i64 (40 : Int))) hp_) ∧
     (x10_ = false →
      ∃ (Iv_ : List Value → Hp → Prop) (m_ : List Value → Hp → Nat), Iv_ [(Value.int .i64 (0 : Int))] hp_ ∧
      (∀ (i_ : Int) hp_1, Iv_ [(Value.int .i64 i_)] hp_1 →
       ∃ b_1 o_1, d_ = some ⟨b_1, o_1, none⟩ ∧
       ∃ (x16p_ : Option Addr) (x16n_ x16c_ : Nat), cellsAt hp_1 b_1 (o_1 + 1) [(Value.slice x16p_ x16n_ x16c_)] ∧
       (((decide (i_ < ((x16n_ : Nat) : Int))) = true →
         ∃ b_2 o_2, d_ = some ⟨b_2, o_2, none⟩ ∧
         ∃ (x24p_ : Option Addr) (x24n_ x24c_ : Nat), cellsAt hp_1 b_2 (o_2 + 0) [(Value.slice x24p_ x24n_ x24c_)] ∧
         ∃ b_3 o_3, d_ = some ⟨b_3, o_3, none⟩ ∧
         ∃ (x28p_ : Option Addr) (x28n_ x28c_ : Nat), cellsAt hp_1 b_3 (o_3 + 1) [(Value.slice x28p_ x28n_ x28c_)] ∧
         ∃ b_4 o_4, x28p_ = some ⟨b_4, o_4, none⟩ ∧ 0 ≤ i_ ∧ i_ < (x28n_ : Int) ∧
         ∃ x32_ : Int, cellsAt hp_1 b_4 ((o_4 + Int.toNat i_ * 2) + 0) [(Value.int .i64 x32_)] ∧
         ∃ b_5 o_5, d_ = some ⟨b_5, o_5, none⟩ ∧
         ∃ (x36p_ : Option Addr) (x36n_ x36c_ : Nat), cellsAt hp_1 b_5 (o_5 + 1) [(Value.slice x36p_ x36n_ x36c_)] ∧
         ∃ b_6 o_6, x36p_ = some ⟨b_6, o_6, none⟩ ∧ 0 ≤ i_ ∧ i_ < (x36n_ : Int) ∧
         ∃ x40_ : ByteArray, cellsAt hp_1 b_6 ((o_6 + Int.toNat i_ * 2) + 1) [(Value.string x40_)] ∧
         ∃ b_7 o_7, x24p_ = some ⟨b_7, o_7, none⟩ ∧ 0 ≤ x32_ ∧ x32_ < (x24n_ : Int) ∧
         Value.oneCell' (Value.string x40_) = true ∧ wrAt hp_1 b_7 (o_7 + Int.toNat x32_ * 1) 1 ∧ ∀ hp_2, hp_2 = setsH hp_1 b_7 (o_7 + Int.toNat x32_ * 1) [(Value.string x40_)] →
         ∃ x20_, IntKind.i64.wrap (i_ + (1 : Int)) = x20_ ∧
         (Iv_ [(Value.int .i64 x20_)] hp_2 ∧ m_ [(Value.int .i64 x20_)] hp_2 < m_ [(Value.int .i64 i_)] hp_1)) ∧
        ((decide (i_ < ((x16n_ : Nat) : Int))) = false →
         ∃ b_8 o_8, d_ = some ⟨b_8, o_8, none⟩ ∧
         Value.oneCell' (Value.slice none 0 0) = true ∧ wrAt hp_1 b_8 (o_8 + 1) 1 ∧ ∀ hp_3, hp_3 = setsH hp_1 b_8 (o_8 + 1) [(Value.slice none 0 0)] →
         ∃ b_9 o_9, d_ = some ⟨b_9, o_9, none⟩ ∧
         ∃ x49_ : Int, cellsAt hp_3 b_9 ((o_9 + 4) + 2) [(Value.int .i64 x49_)] ∧
         ∃ x50_, IntKind.i64.wrap (x49_ + (1 : Int)) = x50_ ∧
         ∃ b_10 o_10, d_ = some ⟨b_10, o_10, none⟩ ∧
         Value.oneCell' (Value.int .i64 x50_) = true ∧ wrAt hp_3 b_10 ((o_10 + 4) + 2) 1 ∧ ∀ hp_4, hp_4 = setsH hp_3 b_10 ((o_10 + 4) + 2) [(Value.int .i64 x50_)] →
         R (.returned (Value.int .i64 (0 : Int))) hp_4)))))))) :
  CallsH Try.prog 46 #[(Value.pointer d_)] h R := calls_vc fine false Try.func46 (ann := A46) (args := [(Value.pointer d_)]) (by kernel_rfl) (Eq.mpr (by kernel_rfl) H)
/-- (*turnout/turnoutref04.Disk).Cut -/
def A47 : Ann := (.seq .nil (.seq (.join 15) (.cond .nil .nil)))
theorem V47 (d_ : Option Addr) (steps_ : Int) (h : Hp) (R : Ending → Hp → Prop) (H :
  ∃ b_ o_, d_ = some ⟨b_, o_, none⟩ ∧
  Value.oneCell' (Value.int .i64 (0 : Int)) = true ∧ wrAt h b_ (o_ + 3) 1 ∧ ∀ hp_, hp_ = setsH h b_ (o_ + 3) [(Value.int .i64 (0 : Int))] →
  ∃ B_ : Bool, ((((decide ((0 : Int) < steps_)) = true →
     ∃ b_1 o_1, d_ = some ⟨b_1, o_1, none⟩ ∧
     ∃ x13_ : Bool, cellsAt hp_ b_1 (o_1 + 2) [(Value.bool x13_)] ∧
     hp_ = hp_ ∧ B_ = (!x13_)) ∧
    ((decide ((0 : Int) < steps_)) = false →
     hp_ = hp_ ∧ B_ = false))) ∧
  ((B_ = true →
    ∃ b_2 o_2, d_ = some ⟨b_2, o_2, none⟩ ∧
    Value.oneCell' (Value.int .i64 steps_) = true ∧ wrAt hp_ b_2 (o_2 + 3) 1 ∧ ∀ hp_1, hp_1 = setsH hp_ b_2 (o_2 + 3) [(Value.int .i64 steps_)] →
    R (.returned (Value.tuple #[])) hp_1) ∧
   (B_ = false →
    R (.returned (Value.tuple #[])) hp_))) :
  CallsH Try.prog 47 #[(Value.pointer d_), (Value.int .i64 steps_)] h R := calls_vc fine false Try.func47 (ann := A47) (args := [(Value.pointer d_), (Value.int .i64 steps_)]) (by kernel_rfl) (Eq.mpr (by kernel_rfl) H)
/-- (turnout/turnoutlaw04.pair).crash -/
def A48 : Ann := (.seq .nil (.seq .nil (.seq .nil (.seq .nil (.seq .nil .nil)))))
theorem V48 (pf0_ : Option Addr) (pf1_ : Option Addr) (lp_ : Option Addr) (ln_ lc_ : Nat) (h : Hp) (R : Ending → Hp → Prop) (H :
  ∀ b_ hp_, b_ = Array.size h → hp_ = Array.push h (.cells #[(Value.pointer pf0_), (Value.pointer pf1_)] 59) →
  CallsH Try.prog 53 #[(Value.slice lp_ ln_ lc_)] hp_ fun en_ hp_1 =>
  ∃ (x7p_ : Option Addr) (x7n_ x7c_ : Nat), en_ = .returned (Value.slice x7p_ x7n_ x7c_) ∧
  ∃ x9_ : Option Addr, cellsAt hp_1 b_ (0 + 0) [(Value.pointer x9_)] ∧
  ∃ u_ : Nat, ((ln_ : Nat) : Int) = (u_ : Int) ∧
  0 ≤ u_ ∧ u_ ≤ x7c_ ∧ ∃ x13p_, cutP x7p_ x7c_ 0 2 = x13p_ ∧
  CallsH Try.prog 16 #[(Value.pointer x9_), (Value.slice x13p_ (u_ - 0) (x7c_ - 0))] hp_1 fun en_1 hp_2 =>
  en_1 = .returned (Value.tuple #[]) ∧
  ∃ x16_ : Option Addr, cellsAt hp_2 b_ (0 + 1) [(Value.pointer x16_)] ∧
  CallsH Try.prog 54 #[(Value.pointer x16_), (Value.slice lp_ ln_ lc_)] hp_2 fun en_2 hp_3 =>
  en_2 = .returned (Value.tuple #[]) ∧
  CallsH Try.prog 55 #[(Value.slice x7p_ x7n_ x7c_), (Value.slice lp_ ln_ lc_)] hp_3 fun en_3 hp_4 =>
  ∃ x21_ : Bool, en_3 = .returned (Value.bool x21_) ∧
  R (.returned (Value.bool x21_)) hp_4) :
  CallsH Try.prog 48 #[(Value.agg #[(Value.pointer pf0_), (Value.pointer pf1_)]), (Value.slice lp_ ln_ lc_)] h R := calls_vc fine false Try.func48 (ann := A48) (args := [(Value.agg #[(Value.pointer pf0_), (Value.pointer pf1_)]), (Value.slice lp_ ln_ lc_)]) (by kernel_rfl) (Eq.mpr (by kernel_rfl) H)
/-- (*turnout/turnoutref04.Disk).Pending -/
def A49 : Ann := (.seq .nil (.seq .nil (.seq (.seq .nil (.block (.loop [(3, .slice), (4, (.int .i64))] (.seq (.seq .nil (.cond .nil .nil)) (.seq (.block .nil) .nil))))) (.seq .nil .nil))))
theorem V49 (d_ : Option Addr) (h : Hp) (R : Ending → Hp → Prop) (H :
  ∃ (Iv_ : List Value → Hp → Prop) (m_ : List Value → Hp → Nat), Iv_ [(Value.slice none 0 0), (Value.int .i64 (0 : Int))] h ∧
  (∀ (outp_ : Option Addr) (outn_ outc_ : Nat) (i_ : Int) hp_, Iv_ [(Value.slice outp_ outn_ outc_), (Value.int .i64 i_)] hp_ →
   ∃ b_ o_, d_ = some ⟨b_, o_, none⟩ ∧
   ∃ (x9p_ : Option Addr) (x9n_ x9c_ : Nat), cellsAt hp_ b_ (o_ + 1) [(Value.slice x9p_ x9n_ x9c_)] ∧
   (((decide (i_ < ((x9n_ : Nat) : Int))) = true →
     ∃ b_1 o_1, d_ = some ⟨b_1, o_1, none⟩ ∧
     ∃ (x18p_ : Option Addr) (x18n_ x18c_ : Nat), cellsAt hp_ b_1 (o_1 + 1) [(Value.slice x18p_ x18n_ x18c_)] ∧
     ∃ b_2 o_2, x18p_ = some ⟨b_2, o_2, none⟩ ∧ 0 ≤ i_ ∧ i_ < (x18n_ : Int) ∧
     ∃ x22_ : Int, cellsAt hp_ b_2 ((o_2 + Int.toNat i_ * 2) + 0) [(Value.int .i64 x22_)] ∧
     SemH Try.prog (Instr.buildSlice 50 1 #[(0, (Value.int .i64 x22_))]) hp_ fun v_ hp_1 =>
     ∃ (x23p_ : Option Addr) (x23n_ x23c_ : Nat), v_ = (Value.slice x23p_ x23n_ x23c_) ∧
     SemH Try.prog (Builtin.append_ #[50, 50] 50 #[(Value.slice outp_ outn_ outc_), (Value.slice x23p_ x23n_ x23c_)]) hp_1 fun v_1 hp_2 =>
     ∃ (x24p_ : Option Addr) (x24n_ x24c_ : Nat), v_1 = (Value.slice x24p_ x24n_ x24c_) ∧
     ∃ x13_, IntKind.i64.wrap (i_ + (1 : Int)) = x13_ ∧
     (Iv_ [(Value.slice x24p_ x24n_ x24c_), (Value.int .i64 x13_)] hp_2 ∧ m_ [(Value.slice x24p_ x24n_ x24c_), (Value.int .i64 x13_)] hp_2 < m_ [(Value.slice outp_ outn_ outc_), (Value.int .i64 i_)] hp_)) ∧
    ((decide (i_ < ((x9n_ : Nat) : Int))) = false →
     R (.returned (Value.slice outp_ outn_ outc_)) hp_)))) :
  CallsH Try.prog 49 #[(Value.pointer d_)] h R := calls_vc fine false Try.func49 (ann := A49) (args := [(Value.pointer d_)]) (by kernel_rfl) (Eq.mpr (by kernel_rfl) H)
/-- turnout/turnoutlaw04.same -/
def A50 : Ann := (.seq .nil (.seq (.seq .nil (.cond (.seq .nil .nil) .nil)) (.seq (.seq .nil (.block (.loop [(5, (.int .i64))] (.seq (.seq .nil (.cond .nil .nil)) (.seq (.block (.seq .nil (.cond (.seq .nil .nil) .nil))) .nil))))) (.seq .nil .nil))))
theorem V50 (ap_ : Option Addr) (an_ ac_ : Nat) (bp_ : Option Addr) (bn_ bc_ : Nat) (h : Hp) (R : Ending → Hp → Prop) (H :
  (((decide (((an_ : Nat) : Int) ≠ ((bn_ : Nat) : Int))) = true →
    R (.returned (Value.bool false)) h) ∧
   ((decide (((an_ : Nat) : Int) ≠ ((bn_ : Nat) : Int))) = false →
    ∃ (Iv_ : List Value → Hp → Prop) (m_ : List Value → Hp → Nat), Iv_ [(Value.int .i64 (0 : Int))] h ∧
    (∀ (i_ : Int) hp_, Iv_ [(Value.int .i64 i_)] hp_ →
     (((decide (i_ < ((an_ : Nat) : Int))) = true →
       ∃ b_ o_, ap_ = some ⟨b_, o_, none⟩ ∧ 0 ≤ i_ ∧ i_ < (an_ : Int) ∧
       ∃ x20_ : Int, cellsAt hp_ b_ (o_ + Int.toNat i_ * 1) [(Value.int .i64 x20_)] ∧
       ∃ b_1 o_1, bp_ = some ⟨b_1, o_1, none⟩ ∧ 0 ≤ i_ ∧ i_ < (bn_ : Int) ∧
       ∃ x24_ : Int, cellsAt hp_ b_1 (o_1 + Int.toNat i_ * 1) [(Value.int .i64 x24_)] ∧
       (((decide (x20_ ≠ x24_)) = true →
         R (.returned (Value.bool false)) hp_) ∧
        ((decide (x20_ ≠ x24_)) = false →
         ∃ x16_, IntKind.i64.wrap (i_ + (1 : Int)) = x16_ ∧
         (Iv_ [(Value.int .i64 x16_)] hp_ ∧ m_ [(Value.int .i64 x16_)] hp_ < m_ [(Value.int .i64 i_)] hp_)))) ∧
      ((decide (i_ < ((an_ : Nat) : Int))) = false →
       R (.returned (Value.bool true)) hp_)))))) :
  CallsH Try.prog 50 #[(Value.slice ap_ an_ ac_), (Value.slice bp_ bn_ bc_)] h R := calls_vc fine false Try.func50 (ann := A50) (args := [(Value.slice ap_ an_ ac_), (Value.slice bp_ bn_ bc_)]) (by kernel_rfl) (Eq.mpr (by kernel_rfl) H)
/-- (*turnout/turnoutref04.Disk).Look -/
def A51 : Ann := (.seq .nil (.seq (.seq .nil (.block (.loop [(5, (.int .i64))] (.seq (.seq .nil (.cond .nil .nil)) (.seq (.block (.seq .nil (.cond (.seq .nil .nil) .nil))) .nil))))) (.seq .nil .nil)))
theorem V51 (d_ : Option Addr) (n_ : Int) (h : Hp) (R : Ending → Hp → Prop) (H :
  ∃ b_ o_, d_ = some ⟨b_, o_, none⟩ ∧
  ∃ (x9p_ : Option Addr) (x9n_ x9c_ : Nat), cellsAt h b_ (o_ + 1) [(Value.slice x9p_ x9n_ x9c_)] ∧
  ∃ x11_, IntKind.i64.wrap (((x9n_ : Nat) : Int) - (1 : Int)) = x11_ ∧
  ∃ (Iv_ : List Value → Hp → Prop) (m_ : List Value → Hp → Nat), Iv_ [(Value.int .i64 x11_)] h ∧
  (∀ (i_ : Int) hp_, Iv_ [(Value.int .i64 i_)] hp_ →
   (((decide ((0 : Int) ≤ i_)) = true →
     ∃ b_1 o_1, d_ = some ⟨b_1, o_1, none⟩ ∧
     ∃ (x19p_ : Option Addr) (x19n_ x19c_ : Nat), cellsAt hp_ b_1 (o_1 + 1) [(Value.slice x19p_ x19n_ x19c_)] ∧
     ∃ b_2 o_2, x19p_ = some ⟨b_2, o_2, none⟩ ∧ 0 ≤ i_ ∧ i_ < (x19n_ : Int) ∧
     ∃ x23_ : Int, cellsAt hp_ b_2 ((o_2 + Int.toNat i_ * 2) + 0) [(Value.int .i64 x23_)] ∧
     (((decide (x23_ = n_)) = true →
       ∃ b_3 o_3, d_ = some ⟨b_3, o_3, none⟩ ∧
       ∃ (x29p_ : Option Addr) (x29n_ x29c_ : Nat), cellsAt hp_ b_3 (o_3 + 1) [(Value.slice x29p_ x29n_ x29c_)] ∧
       ∃ b_4 o_4, x29p_ = some ⟨b_4, o_4, none⟩ ∧ 0 ≤ i_ ∧ i_ < (x29n_ : Int) ∧
       ∃ x33_ : ByteArray, cellsAt hp_ b_4 ((o_4 + Int.toNat i_ * 2) + 1) [(Value.string x33_)] ∧
       R (.returned (Value.string x33_)) hp_) ∧
      ((decide (x23_ = n_)) = false →
       ∃ x15_, IntKind.i64.wrap (i_ - (1 : Int)) = x15_ ∧
       (Iv_ [(Value.int .i64 x15_)] hp_ ∧ m_ [(Value.int .i64 x15_)] hp_ < m_ [(Value.int .i64 i_)] hp_)))) ∧
    ((decide ((0 : Int) ≤ i_)) = false →
     ∃ b_5 o_5, d_ = some ⟨b_5, o_5, none⟩ ∧
     ∃ (x37p_ : Option Addr) (x37n_ x37c_ : Nat), cellsAt hp_ b_5 (o_5 + 0) [(Value.slice x37p_ x37n_ x37c_)] ∧
     ∃ b_6 o_6, x37p_ = some ⟨b_6, o_6, none⟩ ∧ 0 ≤ n_ ∧ n_ < (x37n_ : Int) ∧
     ∃ x40_ : ByteArray, cellsAt hp_ b_6 (o_6 + Int.toNat n_ * 1) [(Value.string x40_)] ∧
     R (.returned (Value.string x40_)) hp_)))) :
  CallsH Try.prog 51 #[(Value.pointer d_), (Value.int .i64 n_)] h R := calls_vc fine false Try.func51 (ann := A51) (args := [(Value.pointer d_), (Value.int .i64 n_)]) (by kernel_rfl) (Eq.mpr (by kernel_rfl) H)
/-- (*turnout/turnoutref04.Disk).step -/
def A52 : Ann := (.seq .nil (.seq (.seq .nil (.cond (.seq .nil .nil) .nil)) (.seq .nil .nil)))
theorem V52 (d_ : Option Addr) (h : Hp) (R : Ending → Hp → Prop) (H :
  ∃ b_ o_, d_ = some ⟨b_, o_, none⟩ ∧
  ∃ x6_ : Int, cellsAt h b_ (o_ + 3) [(Value.int .i64 x6_)] ∧
  (((decide ((0 : Int) < x6_)) = true →
    ∃ b_1 o_1, d_ = some ⟨b_1, o_1, none⟩ ∧
    ∃ x11_ : Int, cellsAt h b_1 (o_1 + 3) [(Value.int .i64 x11_)] ∧
    ∃ x12_, IntKind.i64.wrap (x11_ - (1 : Int)) = x12_ ∧
    ∃ b_2 o_2, d_ = some ⟨b_2, o_2, none⟩ ∧
    Value.oneCell' (Value.int .i64 x12_) = true ∧ wrAt h b_2 (o_2 + 3) 1 ∧ ∀ hp_, hp_ = setsH h b_2 (o_2 + 3) [(Value.int .i64 x12_)] →
    ∃ b_3 o_3, d_ = some ⟨b_3, o_3, none⟩ ∧
    ∃ x19_ : Int, cellsAt hp_ b_3 (o_3 + 3) [(Value.int .i64 x19_)] ∧
    ∃ b_4 o_4, d_ = some ⟨b_4, o_4, none⟩ ∧
    Value.oneCell' (Value.bool (decide (x19_ = (0 : Int)))) = true ∧ wrAt hp_ b_4 (o_4 + 2) 1 ∧ ∀ hp_1, hp_1 = setsH hp_ b_4 (o_4 + 2) [(Value.bool (decide (x19_ = (0 : Int))))] →
    ∃ b_5 o_5, d_ = some ⟨b_5, o_5, none⟩ ∧
    ∃ x26_ : Bool, cellsAt hp_1 b_5 (o_5 + 2) [(Value.bool x26_)] ∧
    R (.returned (Value.bool x26_)) hp_1) ∧
   ((decide ((0 : Int) < x6_)) = false →
    ∃ b_6 o_6, d_ = some ⟨b_6, o_6, none⟩ ∧
    ∃ x26_1 : Bool, cellsAt h b_6 (o_6 + 2) [(Value.bool x26_1)] ∧
    R (.returned (Value.bool x26_1)) h))) :
  CallsH Try.prog 52 #[(Value.pointer d_)] h R := calls_vc fine false Try.func52 (ann := A52) (args := [(Value.pointer d_)]) (by kernel_rfl) (Eq.mpr (by kernel_rfl) H)
/-- turnout/turnoutlaw04.lent -/
def A53 : Ann := (.seq .nil (.seq .nil (.seq (.seq .nil (.block (.loop [(4, (.int .i64))] (.seq (.seq .nil (.cond .nil .nil)) (.seq (.block (.seq .nil (.seq .nil (.cond .nil .nil)))) .nil))))) (.seq .nil .nil))))
theorem V53 (lp_ : Option Addr) (ln_ lc_ : Nat) (h : Hp) (R : Ending → Hp → Prop) (H :
  ∃ x7_, IntKind.i64.wrap (((ln_ : Nat) : Int) + (3 : Int)) = x7_ ∧
  SemH Try.prog (Instr.makeSlice 28 (Value.int .i64 x7_) (Value.int .i64 x7_)) h fun v_ hp_ =>
  ∃ (x8p_ : Option Addr) (x8n_ x8c_ : Nat), v_ = (Value.slice x8p_ x8n_ x8c_) ∧
  ∃ (Iv_ : List Value → Hp → Prop) (m_ : List Value → Hp → Nat), Iv_ [(Value.int .i64 (0 : Int))] hp_ ∧
  (∀ (i_ : Int) hp_1, Iv_ [(Value.int .i64 i_)] hp_1 →
   (((decide (i_ < ((x8n_ : Nat) : Int))) = true →
     ∃ b_ o_, x8p_ = some ⟨b_, o_, none⟩ ∧ 0 ≤ i_ ∧ i_ < (x8n_ : Int) ∧
     List.length [(Value.int .i64 (-7 : Int)), (Value.int .i64 (-7 : Int))] = 2 ∧ (∀ c ∈ [(Value.int .i64 (-7 : Int)), (Value.int .i64 (-7 : Int))], c.oneCell' = true) ∧ wrAt hp_1 b_ (o_ + Int.toNat i_ * 2) 2 ∧ ∀ hp_2, hp_2 = setsH hp_1 b_ (o_ + Int.toNat i_ * 2) [(Value.int .i64 (-7 : Int)), (Value.int .i64 (-7 : Int))] →
     (((decide (i_ < ((ln_ : Nat) : Int))) = true →
       ∃ b_1 o_1, lp_ = some ⟨b_1, o_1, none⟩ ∧ 0 ≤ i_ ∧ i_ < (ln_ : Int) ∧
       ∃ x28f0_ : Int, ∃ x28f1_ : Int, cellsAt hp_2 b_1 (o_1 + Int.toNat i_ * 2) [(Value.int .i64 x28f0_), (Value.int .i64 x28f1_)] ∧
       ∃ b_2 o_2, x8p_ = some ⟨b_2, o_2, none⟩ ∧ 0 ≤ i_ ∧ i_ < (x8n_ : Int) ∧
       List.length [(Value.int .i64 x28f0_), (Value.int .i64 x28f1_)] = 2 ∧ (∀ c ∈ [(Value.int .i64 x28f0_), (Value.int .i64 x28f1_)], c.oneCell' = true) ∧ wrAt hp_2 b_2 (o_2 + Int.toNat i_ * 2) 2 ∧ ∀ hp_3, hp_3 = setsH hp_2 b_2 (o_2 + Int.toNat i_ * 2) [(Value.int .i64 x28f0_), (Value.int .i64 x28f1_)] →
       ∃ x14_, IntKind.i64.wrap (i_ + (1 : Int)) = x14_ ∧
       (Iv_ [(Value.int .i64 x14_)] hp_3 ∧ m_ [(Value.int .i64 x14_)] hp_3 < m_ [(Value.int .i64 i_)] hp_1)) ∧
      ((decide (i_ < ((ln_ : Nat) : Int))) = false →
       ∃ x14_1, IntKind.i64.wrap (i_ + (1 : Int)) = x14_1 ∧
       (Iv_ [(Value.int .i64 x14_1)] hp_2 ∧ m_ [(Value.int .i64 x14_1)] hp_2 < m_ [(Value.int .i64 i_)] hp_1)))) ∧
    ((decide (i_ < ((x8n_ : Nat) : Int))) = false →
     R (.returned (Value.slice x8p_ x8n_ x8c_)) hp_1)))) :
  CallsH Try.prog 53 #[(Value.slice lp_ ln_ lc_)] h R := calls_vc fine false Try.func53 (ann := A53) (args := [(Value.slice lp_ ln_ lc_)]) (by kernel_rfl) (Eq.mpr (by kernel_rfl) H)
/-- (*turnout/turnoutref04.Disk).Crash -/
def A54 : Ann := (.cut (.seq .nil (.block (.loop [(4, (.int .i64))] (.cut (.seq (.join 19) (.cond .nil .nil)) [] (.seq (.block (.seq .nil (.seq .nil (.cut (.seq .nil (.block (.seq .nil (.cond .nil (.seq .nil (.cond .nil .nil)))))) [(6, (.int .i64))] .nil)))) .nil))))) [] (.seq .nil (.seq .nil .nil)))
theorem V54 (d_ : Option Addr) (fatesp_ : Option Addr) (fatesn_ fatesc_ : Nat) (h : Hp) (R : Ending → Hp → Prop) (H :
  ∃ Jv_ : List Value → Hp → Prop,
  (∃ (Iv_ : List Value → Hp → Prop) (m_ : List Value → Hp → Nat), Iv_ [(Value.int .i64 (0 : Int))] h ∧
   (∀ (i_ : Int) hp_, Iv_ [(Value.int .i64 i_)] hp_ →
    ∃ Jv_1 : List Value → Hp → Prop,
    (∃ B_ : Bool, (∃ b_ o_, d_ = some ⟨b_, o_, none⟩ ∧
      ∃ (x11p_ : Option Addr) (x11n_ x11c_ : Nat), cellsAt hp_ b_ (o_ + 1) [(Value.slice x11p_ x11n_ x11c_)] ∧
      (((decide (i_ < ((x11n_ : Nat) : Int))) = true →
        hp_ = hp_ ∧ B_ = (decide (i_ < ((fatesn_ : Nat) : Int)))) ∧
       ((decide (i_ < ((x11n_ : Nat) : Int))) = false →
        hp_ = hp_ ∧ B_ = false))) ∧
     ((B_ = true →
       Jv_1 [] hp_) ∧
      (B_ = false →
       Jv_ [] hp_))) ∧
    (∀  hp_1, Jv_1 [] hp_1 →
     ∃ b_1 o_1, d_ = some ⟨b_1, o_1, none⟩ ∧
     ∃ (x25p_ : Option Addr) (x25n_ x25c_ : Nat), cellsAt hp_1 b_1 (o_1 + 1) [(Value.slice x25p_ x25n_ x25c_)] ∧
     ∃ b_2 o_2, x25p_ = some ⟨b_2, o_2, none⟩ ∧ 0 ≤ i_ ∧ i_ < (x25n_ : Int) ∧
     ∃ x28f0_ : Int, ∃ x28f1_ : ByteArray, cellsAt hp_1 b_2 (o_2 + Int.toNat i_ * 2) [(Value.int .i64 x28f0_), (Value.string x28f1_)] ∧
     ∀ b_3 hp_2, b_3 = Array.size hp_1 → hp_2 = Array.push hp_1 (.cells (zeros Try.prog 89) 89) → (∃ i z, Try.prog.info? 89 = some i ∧ i.zero = some z) ∧
     List.length [(Value.int .i64 x28f0_), (Value.string x28f1_)] = 2 ∧ (∀ c ∈ [(Value.int .i64 x28f0_), (Value.string x28f1_)], c.oneCell' = true) ∧ wrAt hp_2 b_3 0 2 ∧ ∀ hp_3, hp_3 = setsH hp_2 b_3 0 [(Value.int .i64 x28f0_), (Value.string x28f1_)] →
     ∃ Jv_2 : List Value → Hp → Prop,
     (∃ b_4 o_3, fatesp_ = some ⟨b_4, o_3, none⟩ ∧ 0 ≤ i_ ∧ i_ < (fatesn_ : Int) ∧
      ∃ x33_ : Int, cellsAt hp_3 b_4 ((o_3 + Int.toNat i_ * 2) + 0) [(Value.int .i64 x33_)] ∧
      (((decide (x33_ = (1 : Int))) = true →
        Jv_2 [(Value.int .i64 (512 : Int))] hp_3) ∧
       ((decide (x33_ = (1 : Int))) = false →
        (((decide (x33_ = (2 : Int))) = true →
          ∃ b_5 o_4, fatesp_ = some ⟨b_5, o_4, none⟩ ∧ 0 ≤ i_ ∧ i_ < (fatesn_ : Int) ∧
          ∃ x42_ : Int, cellsAt hp_3 b_5 ((o_4 + Int.toNat i_ * 2) + 1) [(Value.int .i64 x42_)] ∧
          Jv_2 [(Value.int .i64 (min (max x42_ (0 : Int)) (512 : Int)))] hp_3) ∧
         ((decide (x33_ = (2 : Int))) = false →
          Jv_2 [(Value.int .i64 (0 : Int))] hp_3))))) ∧
     (∀ (k_ : Int) hp_4, Jv_2 [(Value.int .i64 k_)] hp_4 →
      ∃ b_6 o_5, d_ = some ⟨b_6, o_5, none⟩ ∧
      ∃ (x48p_ : Option Addr) (x48n_ x48c_ : Nat), cellsAt hp_4 b_6 (o_5 + 0) [(Value.slice x48p_ x48n_ x48c_)] ∧
      ∃ x50_ : Int, cellsAt hp_4 b_3 (0 + 0) [(Value.int .i64 x50_)] ∧
      ∃ x52_ : ByteArray, cellsAt hp_4 b_3 (0 + 1) [(Value.string x52_)] ∧
      ∃ u_ : Nat, k_ = (u_ : Int) ∧
      0 ≤ u_ ∧ u_ ≤ ByteArray.size x52_ ∧ ∃ x54_, ByteArray.extract x52_ 0 u_ = x54_ ∧
      ∃ b_7 o_6, d_ = some ⟨b_7, o_6, none⟩ ∧
      ∃ (x58p_ : Option Addr) (x58n_ x58c_ : Nat), cellsAt hp_4 b_7 (o_6 + 0) [(Value.slice x58p_ x58n_ x58c_)] ∧
      ∃ x60_ : Int, cellsAt hp_4 b_3 (0 + 0) [(Value.int .i64 x60_)] ∧
      ∃ b_8 o_7, x58p_ = some ⟨b_8, o_7, none⟩ ∧ 0 ≤ x60_ ∧ x60_ < (x58n_ : Int) ∧
      ∃ x62_ : ByteArray, cellsAt hp_4 b_8 (o_7 + Int.toNat x60_ * 1) [(Value.string x62_)] ∧
      ∃ l_ : Nat, k_ = (l_ : Int) ∧
      l_ ≤ (ByteArray.size x62_) ∧ (ByteArray.size x62_) ≤ ByteArray.size x62_ ∧ ∃ x64_, ByteArray.extract x62_ l_ (ByteArray.size x62_) = x64_ ∧
      ByteArray.size x54_ + ByteArray.size x64_ ≤ 9223372036854775807 ∧ ∃ x65_, x54_ ++ x64_ = x65_ ∧
      ∃ b_9 o_8, x48p_ = some ⟨b_9, o_8, none⟩ ∧ 0 ≤ x50_ ∧ x50_ < (x48n_ : Int) ∧
      Value.oneCell' (Value.string x65_) = true ∧ wrAt hp_4 b_9 (o_8 + Int.toNat x50_ * 1) 1 ∧ ∀ hp_5, hp_5 = setsH hp_4 b_9 (o_8 + Int.toNat x50_ * 1) [(Value.string x65_)] →
      ∃ x21_, IntKind.i64.wrap (i_ + (1 : Int)) = x21_ ∧
      (Iv_ [(Value.int .i64 x21_)] hp_5 ∧ m_ [(Value.int .i64 x21_)] hp_5 < m_ [(Value.int .i64 i_)] hp_))))) ∧
  (∀  hp_6, Jv_ [] hp_6 →
   ∃ b_10 o_9, d_ = some ⟨b_10, o_9, none⟩ ∧
   Value.oneCell' (Value.slice none 0 0) = true ∧ wrAt hp_6 b_10 (o_9 + 1) 1 ∧ ∀ hp_7, hp_7 = setsH hp_6 b_10 (o_9 + 1) [(Value.slice none 0 0)] →
   ∃ b_11 o_10, d_ = some ⟨b_11, o_10, none⟩ ∧
   Value.oneCell' (Value.bool false) = true ∧ wrAt hp_7 b_11 (o_10 + 2) 1 ∧ ∀ hp_8, hp_8 = setsH hp_7 b_11 (o_10 + 2) [(Value.bool false)] →
   ∃ b_12 o_11, d_ = some ⟨b_12, o_11, none⟩ ∧
   Value.oneCell' (Value.int .i64 (0 : Int)) = true ∧ wrAt hp_8 b_12 (o_11 + 3) 1 ∧ ∀ hp_9, hp_9 = setsH hp_8 b_12 (o_11 + 3) [(Value.int .i64 (0 : Int))] →
   R (.returned (Value.tuple #[])) hp_9)) :
  CallsH Try.prog 54 #[(Value.pointer d_), (Value.slice fatesp_ fatesn_ fatesc_)] h R := calls_vc fine false Try.func54 (ann := A54) (args := [(Value.pointer d_), (Value.slice fatesp_ fatesn_ fatesc_)]) (by kernel_rfl) (Eq.mpr (by kernel_rfl) H)
/-- turnout/turnoutlaw04.still -/
def A55 : Ann := (.seq .nil (.seq .nil (.seq (.seq .nil (.block (.loop [(5, .bool), (6, (.int .i64))] (.seq (.seq .nil (.cond .nil .nil)) (.seq (.block (.seq (.seq (.join 41) (.cond .nil .nil)) .nil)) .nil))))) (.seq .nil .nil))))
theorem V55 (allp_ : Option Addr) (alln_ allc_ : Nat) (lp_ : Option Addr) (ln_ lc_ : Nat) (h : Hp) (R : Ending → Hp → Prop) (H :
  ∃ (Iv_ : List Value → Hp → Prop) (m_ : List Value → Hp → Nat), Iv_ [(Value.bool true), (Value.int .i64 (0 : Int))] h ∧
  (∀ (ok_ : Bool) (i_ : Int) hp_, Iv_ [(Value.bool ok_), (Value.int .i64 i_)] hp_ →
   (((decide (i_ < ((alln_ : Nat) : Int))) = true →
     ∃ B_ : Bool, ((((decide (i_ < ((ln_ : Nat) : Int))) = true →
        ∃ b_ o_, allp_ = some ⟨b_, o_, none⟩ ∧ 0 ≤ i_ ∧ i_ < (alln_ : Int) ∧
        ∃ x21f0_ : Int, ∃ x21f1_ : Int, cellsAt hp_ b_ (o_ + Int.toNat i_ * 2) [(Value.int .i64 x21f0_), (Value.int .i64 x21f1_)] ∧
        ∃ b_1 o_1, lp_ = some ⟨b_1, o_1, none⟩ ∧ 0 ≤ i_ ∧ i_ < (ln_ : Int) ∧
        ∃ x25f0_ : Int, ∃ x25f1_ : Int, cellsAt hp_ b_1 (o_1 + Int.toNat i_ * 2) [(Value.int .i64 x25f0_), (Value.int .i64 x25f1_)] ∧
        ∃ x26_, EqV Try.prog 30 (Value.agg #[(Value.int .i64 x21f0_), (Value.int .i64 x21f1_)]) (Value.agg #[(Value.int .i64 x25f0_), (Value.int .i64 x25f1_)]) x26_ ∧
        (((!x26_) = true →
          hp_ = hp_ ∧ B_ = true) ∧
         ((!x26_) = false →
          (((decide (((ln_ : Nat) : Int) ≤ i_)) = true →
            ∃ b_2 o_2, allp_ = some ⟨b_2, o_2, none⟩ ∧ 0 ≤ i_ ∧ i_ < (alln_ : Int) ∧
            ∃ x37f0_ : Int, ∃ x37f1_ : Int, cellsAt hp_ b_2 (o_2 + Int.toNat i_ * 2) [(Value.int .i64 x37f0_), (Value.int .i64 x37f1_)] ∧
            ∃ x39_, EqV Try.prog 30 (Value.agg #[(Value.int .i64 x37f0_), (Value.int .i64 x37f1_)]) (Value.agg #[(Value.int .i64 (-7 : Int)), (Value.int .i64 (-7 : Int))]) x39_ ∧
            hp_ = hp_ ∧ B_ = (!x39_)) ∧
           ((decide (((ln_ : Nat) : Int) ≤ i_)) = false →
            hp_ = hp_ ∧ B_ = false))))) ∧
       ((decide (i_ < ((ln_ : Nat) : Int))) = false →
        (((decide (((ln_ : Nat) : Int) ≤ i_)) = true →
          ∃ b_3 o_3, allp_ = some ⟨b_3, o_3, none⟩ ∧ 0 ≤ i_ ∧ i_ < (alln_ : Int) ∧
          ∃ x37f0_1 : Int, ∃ x37f1_1 : Int, cellsAt hp_ b_3 (o_3 + Int.toNat i_ * 2) [(Value.int .i64 x37f0_1), (Value.int .i64 x37f1_1)] ∧
          ∃ x39_1, EqV Try.prog 30 (Value.agg #[(Value.int .i64 x37f0_1), (Value.int .i64 x37f1_1)]) (Value.agg #[(Value.int .i64 (-7 : Int)), (Value.int .i64 (-7 : Int))]) x39_1 ∧
          hp_ = hp_ ∧ B_ = (!x39_1)) ∧
         ((decide (((ln_ : Nat) : Int) ≤ i_)) = false →
          hp_ = hp_ ∧ B_ = false))))) ∧
     ((B_ = true →
       ∃ b_4 o_4, allp_ = some ⟨b_4, o_4, none⟩ ∧ 0 ≤ i_ ∧ i_ < (alln_ : Int) ∧
       List.length [(Value.int .i64 (1 : Int)), (Value.int .i64 (0 : Int))] = 2 ∧ (∀ c ∈ [(Value.int .i64 (1 : Int)), (Value.int .i64 (0 : Int))], c.oneCell' = true) ∧ wrAt hp_ b_4 (o_4 + Int.toNat i_ * 2) 2 ∧ ∀ hp_1, hp_1 = setsH hp_ b_4 (o_4 + Int.toNat i_ * 2) [(Value.int .i64 (1 : Int)), (Value.int .i64 (0 : Int))] →
       ∃ x12_, IntKind.i64.wrap (i_ + (1 : Int)) = x12_ ∧
       (Iv_ [(Value.bool false), (Value.int .i64 x12_)] hp_1 ∧ m_ [(Value.bool false), (Value.int .i64 x12_)] hp_1 < m_ [(Value.bool ok_), (Value.int .i64 i_)] hp_)) ∧
      (B_ = false →
       ∃ b_5 o_5, allp_ = some ⟨b_5, o_5, none⟩ ∧ 0 ≤ i_ ∧ i_ < (alln_ : Int) ∧
       List.length [(Value.int .i64 (1 : Int)), (Value.int .i64 (0 : Int))] = 2 ∧ (∀ c ∈ [(Value.int .i64 (1 : Int)), (Value.int .i64 (0 : Int))], c.oneCell' = true) ∧ wrAt hp_ b_5 (o_5 + Int.toNat i_ * 2) 2 ∧ ∀ hp_2, hp_2 = setsH hp_ b_5 (o_5 + Int.toNat i_ * 2) [(Value.int .i64 (1 : Int)), (Value.int .i64 (0 : Int))] →
       ∃ x12_1, IntKind.i64.wrap (i_ + (1 : Int)) = x12_1 ∧
       (Iv_ [(Value.bool ok_), (Value.int .i64 x12_1)] hp_2 ∧ m_ [(Value.bool ok_), (Value.int .i64 x12_1)] hp_2 < m_ [(Value.bool ok_), (Value.int .i64 i_)] hp_)))) ∧
    ((decide (i_ < ((alln_ : Nat) : Int))) = false →
     R (.returned (Value.bool ok_)) hp_)))) :
  CallsH Try.prog 55 #[(Value.slice allp_ alln_ allc_), (Value.slice lp_ ln_ lc_)] h R := calls_vc fine false Try.func55 (ann := A55) (args := [(Value.slice allp_ alln_ allc_), (Value.slice lp_ ln_ lc_)]) (by kernel_rfl) (Eq.mpr (by kernel_rfl) H)
end Go.Vc
