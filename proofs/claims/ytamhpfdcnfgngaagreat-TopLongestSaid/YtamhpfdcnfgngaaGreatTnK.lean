/- TopLongest: one operation on both tables. -/
import Derived.Test.YtamhpfdcnfgngaaGreatTnJ
set_option maxRecDepth 10000
namespace Go.Vc
open Go Go.Proofs Go.MapKept

theorem row97 : RowT Tryz.prog 97 55 6 96 := RowT.of (by kernel_rfl)

abbrev opL (k gone : Bool) (mp n ab : Nat) : List Value := [.int .i64 (cond gone 3 1), .string (nm k), sl mp 1 1, vI (cond k (n + 1) 0), .string (cond gone ⟨#[]⟩ sOut), cond gone nilS (sl ab 1 1)]
def Resp (gone : Bool) (E : Bool → Nat → B128 → BitVec 64 → Prop) (k : Bool) (n : Nat) (v : B128) (y : BitVec 64) (m : Bool → Nat) (code : Int) (m' : Bool → Nat) (E' : Bool → Nat → B128 → BitVec 64 → Prop) : Prop :=
  match gone with
  | false => (code = 121 ∧ (∃ y, E k n v y) ∧ m' = m ∧ E' = E) ∨ (code = 0 ∧ (¬ ∃ y, E k n v y) ∧ m' = upd m k (m k + 1) ∧ E' = addE' E k n v y)
  | true => (code = 122 ∧ (¬ ∃ y, E k n v y) ∧ m' = m ∧ E' = E) ∨ (code = 0 ∧ (∃ y, E k n v y) ∧ m' = m ∧ E' = delE' E k n v)

section
variable {h : Hp} {w : Nat} {X : TB}

theorem DoOp_c {Z : Nat → Prop} {m : Bool → Nat} {E : Bool → Nat → B128 → BitVec 64 → Prop} (D0 : SetIs h w X Z m E) (hZ : ∀ q, Z q → q < h.size) (k gone : Bool) (hmk : m k < 200) {mp n ab ob oc : Nat} {v : B128} {y : BitVec 64}
    (ho : cellsAt h ob 0 (opL k gone mp n ab)) (hm : cellsAt h mp 0 (mcells k w n v)) (hn : n ≤ w) (hv : v &&& msk w n = v) (ha : cellsAt h ab 0 [.int .u64 0, vW y]) :
    CallsH Tryz.prog 10 #[vP X.t, sl ob 1 oc] h fun e h' => ∃ code m' E', e = .returned (.tuple #[vZ 0, vZ code]) ∧ Sam Z h h' ∧ SetIs h' w X (Zn Z h) m' E' ∧ Resp gone E k n v y m code m' E' := by
  cases gone
  · refine play_c D0 hZ k (kd := 1) (p := ((cond k (n + 1) 0 : Nat) : Int)) (a := sOut) (ap := some ⟨ab, 0, none⟩) (an := 1) (ac := 1) ho (C := fun code m' E' => Resp false E k n v y m code m' E') (fun q xq => ?_) (fun q xq => ?_)
    · obtain ⟨N, gv, gs, dd, _⟩ := D0.ext xq
      exact rightI_c dd k (xq.cells hm) hn hv (xq.cells ha)
    · refine (doI_c (D0.ext xq) k hmk (xq.cells hm) hn hv (xq.cells ha)).mono ?_
      rintro en h' ⟨f, hf, s, ⟨rfl, hy, D'⟩ | ⟨rfl, hy, D'⟩⟩
      · exact ⟨f, 121, m, E, rfl, hf, s, D', .inl ⟨rfl, hy, rfl, rfl⟩⟩
      · exact ⟨f, 0, _, _, rfl, hf, s, D', .inr ⟨rfl, hy, rfl, rfl⟩⟩
  · refine play_c D0 hZ k (kd := 3) (p := ((cond k (n + 1) 0 : Nat) : Int)) (a := ⟨#[]⟩) (ap := none) (an := 0) (ac := 0) ho (C := fun code m' E' => Resp true E k n v y m code m' E') (fun q xq => ?_) (fun q xq => ?_)
    · obtain ⟨N, gv, gs, dd, _⟩ := D0.ext xq
      exact rightD_c dd k (xq.cells hm) hn hv
    · refine (doD_c (D0.ext xq) k (by omega) (xq.cells hm) hn hv).mono ?_
      rintro en h' ⟨f, hf, s, ⟨rfl, hy, D'⟩ | ⟨rfl, hy, D'⟩⟩
      · exact ⟨f, 122, m, E, rfl, hf, s, D', .inl ⟨rfl, hy, rfl, rfl⟩⟩
      · exact ⟨f, 0, _, _, rfl, hf, s, D', .inr ⟨rfl, hy, rfl, rfl⟩⟩

theorem resp_both {gone : Bool} {E E1 E2 : Bool → Nat → B128 → BitVec 64 → Prop} {n : Nat} {v : B128} {y : BitVec 64} {m m1 m2 : Bool → Nat} {c1 c2 : Int} {i : Nat} (sym : ∀ n v y, E false n v y ↔ E true n v y) (hm : ∀ k, m k ≤ i)
    (r1 : Resp gone E false n v y m c1 m1 E1) (r2 : Resp gone E1 true n v y m1 c2 m2 E2) : c1 = c2 ∧ (c1 = 0 ∨ c1 = 121 ∨ c1 = 122) ∧ (∀ k, m2 k ≤ i + 1) ∧ ∀ n v y, E2 false n v y ↔ E2 true n v y := by
  have hle : ∀ k, m k ≤ i + 1 := fun k => Nat.le_succ_of_le (hm k)
  cases gone
  · rcases r1 with ⟨rfl, ⟨y1, h1⟩, rfl, rfl⟩ | ⟨rfl, h1, rfl, rfl⟩
    · rcases r2 with ⟨rfl, h2, rfl, rfl⟩ | ⟨rfl, h2, rfl, rfl⟩
      · exact ⟨rfl, .inr (.inl rfl), hle, sym⟩
      · exact (h2 ⟨y1, (sym _ _ _).1 h1⟩).elim
    · rcases r2 with ⟨rfl, ⟨y2, h2⟩, rfl, rfl⟩ | ⟨rfl, h2, rfl, rfl⟩
      · rcases h2 with h2 | ⟨h2, _⟩
        · exact (h1 ⟨y2, (sym _ _ _).2 h2⟩).elim
        · cases h2
      · refine ⟨rfl, .inl rfl, fun k => ?_, fun n' v' y' => ?_⟩
        · have := hm k
          have := hm true
          have := hm false
          simp only [upd]
          cases k <;> simp <;> omega
        · simp only [addE']
          have := sym n' v' y'
          constructor
          · rintro ((h3 | ⟨_, h3⟩) | ⟨h3, _⟩)
            · exact .inl (.inl (this.1 h3))
            · exact .inr ⟨trivial, h3⟩
            · cases h3
          · rintro ((h3 | ⟨h3, _⟩) | ⟨_, h3⟩)
            · exact .inl (.inl (this.2 h3))
            · cases h3
            · exact .inl (.inr ⟨trivial, h3⟩)
  · rcases r1 with ⟨rfl, h1, rfl, rfl⟩ | ⟨rfl, ⟨y1, h1⟩, rfl, rfl⟩
    · rcases r2 with ⟨rfl, h2, rfl, rfl⟩ | ⟨rfl, ⟨y2, h2⟩, rfl, rfl⟩
      · exact ⟨rfl, .inr (.inr rfl), hle, sym⟩
      · exact (h1 ⟨y2, (sym _ _ _).2 h2⟩).elim
    · rcases r2 with ⟨rfl, h2, rfl, rfl⟩ | ⟨rfl, h2, rfl, rfl⟩
      · exact (h2 ⟨y1, (sym _ _ _).1 h1, fun e => by cases e.1⟩).elim
      · refine ⟨rfl, .inl rfl, hle, fun n' v' y' => ?_⟩
        simp only [delE']
        have := sym n' v' y'
        constructor
        · rintro ⟨⟨h3, h4⟩, _⟩
          exact ⟨⟨this.1 h3, fun e => by cases e.1⟩, fun e => h4 ⟨trivial, e.2⟩⟩
        · rintro ⟨⟨h3, _⟩, h4⟩
          exact ⟨⟨this.2 h3, fun e => h4 ⟨trivial, e.2⟩⟩, fun e => by cases e.1⟩

theorem SetIs.bound {Z : Nat → Prop} {m : Bool → Nat} {E : Bool → Nat → B128 → BitVec 64 → Prop} (D : SetIs h w X Z m E) : SetIs h w X (fun q => Z q ∧ q < h.size) m E :=
  let ⟨N, gv, gs, d, a, b, e⟩ := D; ⟨N, gv, gs, d, a, fun k q hq => ⟨b k q hq, (d.lst k).foot_lt hq⟩, e⟩
end

def TailV (routesp_ : Option Addr) (routesn_ : Nat) (i_ x61_ x65r1_ : Int) (x35r0_ : Option Addr) (b_1 b_3 : Nat) (R : Ending → Hp → Prop) (Iv_ : List Value → Hp → Prop) (m_ : List Value → Hp → Nat) (hp_4 hp_13 : Hp) : Prop :=
       ∃ b_4 o_2, routesp_ = some ⟨b_4, o_2, none⟩ ∧ 0 ≤ i_ ∧ i_ < (routesn_ : Int) ∧
       ∃ x81_ : Int, cellsAt hp_13 b_4 ((o_2 + Int.toNat i_ * 5) + 3) [(Value.int .u64 x81_)] ∧
       SemH Tryz.prog (Instr.buildSlice 23 1 #[(0, (Value.agg #[(Value.int .u64 (0 : Int)), (Value.int .u64 x81_)]))]) hp_13 fun v_ hp_14 =>
       ∃ (x83p_ : Option Addr) (x83n_ x83c_ : Nat), v_ = (Value.slice x83p_ x83n_ x83c_) ∧
       ∀ b_5 hp_15, b_5 = Array.size hp_14 → hp_15 = Array.push hp_14 (.cells (zeros Tryz.prog 48) 48) → (∃ i z, Tryz.prog.info? 48 = some i ∧ i.zero = some z) ∧
       List.length [(Value.string (⟨#[111, 117, 116]⟩ : ByteArray)), (Value.slice x83p_ x83n_ x83c_)] = 2 ∧ (∀ c ∈ [(Value.string (⟨#[111, 117, 116]⟩ : ByteArray)), (Value.slice x83p_ x83n_ x83c_)], c.oneCell' = true) ∧ wrAt hp_15 b_5 0 2 ∧ ∀ hp_16, hp_16 = setsH hp_15 b_5 0 [(Value.string (⟨#[111, 117, 116]⟩ : ByteArray)), (Value.slice x83p_ x83n_ x83c_)] →
       ∃ x85f0_ : Int, ∃ x85f1_ : Int, cellsAt hp_16 b_3 0 [(Value.int .u64 x85f0_), (Value.int .u64 x85f1_)] ∧
       SemH Tryz.prog (Instr.buildSlice 51 1 #[(0, (Value.agg #[(Value.int .u64 x85f0_), (Value.int .u64 x85f1_), (Value.int .u64 (0 : Int)), (Value.int .u64 (0 : Int)), (Value.int .i64 x61_)]))]) hp_16 fun v_1 hp_17 =>
       ∃ (x88p_ : Option Addr) (x88n_ x88c_ : Nat), v_1 = (Value.slice x88p_ x88n_ x88c_) ∧
       ∃ x89f0_ : ByteArray, ∃ (x89f1p_ : Option Addr) (x89f1n_ x89f1c_ : Nat), cellsAt hp_17 b_5 0 [(Value.string x89f0_), (Value.slice x89f1p_ x89f1n_ x89f1c_)] ∧
       ∀ b_6 hp_18, b_6 = Array.size hp_17 → hp_18 = Array.push hp_17 (.cells (zeros Tryz.prog 55) 55) → (∃ i z, Tryz.prog.info? 55 = some i ∧ i.zero = some z) ∧
       List.length [(Value.int .i64 (1 : Int)), (Value.string (⟨#[108, 111, 110, 103]⟩ : ByteArray)), (Value.slice x88p_ x88n_ x88c_), (Value.int .i64 (0 : Int)), (Value.string x89f0_), (Value.slice x89f1p_ x89f1n_ x89f1c_)] = 6 ∧ (∀ c ∈ [(Value.int .i64 (1 : Int)), (Value.string (⟨#[108, 111, 110, 103]⟩ : ByteArray)), (Value.slice x88p_ x88n_ x88c_), (Value.int .i64 (0 : Int)), (Value.string x89f0_), (Value.slice x89f1p_ x89f1n_ x89f1c_)], c.oneCell' = true) ∧ wrAt hp_18 b_6 0 6 ∧ ∀ hp_19, hp_19 = setsH hp_18 b_6 0 [(Value.int .i64 (1 : Int)), (Value.string (⟨#[108, 111, 110, 103]⟩ : ByteArray)), (Value.slice x88p_ x88n_ x88c_), (Value.int .i64 (0 : Int)), (Value.string x89f0_), (Value.slice x89f1p_ x89f1n_ x89f1c_)] →
       ∃ x92f0_ : Int, ∃ x92f1_ : Int, cellsAt hp_19 b_3 0 [(Value.int .u64 x92f0_), (Value.int .u64 x92f1_)] ∧
       ∃ x93f0_ : Int, ∃ x93f1_ : Int, cellsAt hp_19 b_1 0 [(Value.int .u64 x93f0_), (Value.int .u64 x93f1_)] ∧
       SemH Tryz.prog (Instr.buildSlice 51 1 #[(0, (Value.agg #[(Value.int .u64 x92f0_), (Value.int .u64 x92f1_), (Value.int .u64 x93f0_), (Value.int .u64 x93f1_), (Value.int .i64 (0 : Int))]))]) hp_19 fun v_2 hp_20 =>
       ∃ (x95p_ : Option Addr) (x95n_ x95c_ : Nat), v_2 = (Value.slice x95p_ x95n_ x95c_) ∧
       ∃ x97_, IntKind.i64.wrap (x61_ + (1 : Int)) = x97_ ∧
       ∃ x98f0_ : ByteArray, ∃ (x98f1p_ : Option Addr) (x98f1n_ x98f1c_ : Nat), cellsAt hp_20 b_5 0 [(Value.string x98f0_), (Value.slice x98f1p_ x98f1n_ x98f1c_)] ∧
       ∀ b_7 hp_21, b_7 = Array.size hp_20 → hp_21 = Array.push hp_20 (.cells (zeros Tryz.prog 55) 55) → (∃ i z, Tryz.prog.info? 55 = some i ∧ i.zero = some z) ∧
       List.length [(Value.int .i64 (1 : Int)), (Value.string (⟨#[104, 105, 103, 104]⟩ : ByteArray)), (Value.slice x95p_ x95n_ x95c_), (Value.int .i64 x97_), (Value.string x98f0_), (Value.slice x98f1p_ x98f1n_ x98f1c_)] = 6 ∧ (∀ c ∈ [(Value.int .i64 (1 : Int)), (Value.string (⟨#[104, 105, 103, 104]⟩ : ByteArray)), (Value.slice x95p_ x95n_ x95c_), (Value.int .i64 x97_), (Value.string x98f0_), (Value.slice x98f1p_ x98f1n_ x98f1c_)], c.oneCell' = true) ∧ wrAt hp_21 b_7 0 6 ∧ ∀ hp_22, hp_22 = setsH hp_21 b_7 0 [(Value.int .i64 (1 : Int)), (Value.string (⟨#[104, 105, 103, 104]⟩ : ByteArray)), (Value.slice x95p_ x95n_ x95c_), (Value.int .i64 x97_), (Value.string x98f0_), (Value.slice x98f1p_ x98f1n_ x98f1c_)] →
       ∃ Jv_3 : List Value → Hp → Prop,
       (∃ b_8 o_3, routesp_ = some ⟨b_8, o_3, none⟩ ∧ 0 ≤ i_ ∧ i_ < (routesn_ : Int) ∧
        ∃ x105_ : Bool, cellsAt hp_22 b_8 ((o_3 + Int.toNat i_ * 5) + 4) [(Value.bool x105_)] ∧
        ((x105_ = true →
          Value.oneCell' (Value.int .i64 (3 : Int)) = true ∧ wrAt hp_22 b_6 (0 + 0) 1 ∧ ∀ hp_23, hp_23 = setsH hp_22 b_6 (0 + 0) [(Value.int .i64 (3 : Int))] →
          Value.oneCell' (Value.int .i64 (3 : Int)) = true ∧ wrAt hp_23 b_7 (0 + 0) 1 ∧ ∀ hp_24, hp_24 = setsH hp_23 b_7 (0 + 0) [(Value.int .i64 (3 : Int))] →
          List.length [(Value.string (⟨#[]⟩ : ByteArray)), (Value.slice none 0 0)] = 2 ∧ (∀ c ∈ [(Value.string (⟨#[]⟩ : ByteArray)), (Value.slice none 0 0)], c.oneCell' = true) ∧ wrAt hp_24 b_6 ((0 + 2) + 2) 2 ∧ ∀ hp_25, hp_25 = setsH hp_24 b_6 ((0 + 2) + 2) [(Value.string (⟨#[]⟩ : ByteArray)), (Value.slice none 0 0)] →
          List.length [(Value.string (⟨#[]⟩ : ByteArray)), (Value.slice none 0 0)] = 2 ∧ (∀ c ∈ [(Value.string (⟨#[]⟩ : ByteArray)), (Value.slice none 0 0)], c.oneCell' = true) ∧ wrAt hp_25 b_7 ((0 + 2) + 2) 2 ∧ ∀ hp_26, hp_26 = setsH hp_25 b_7 ((0 + 2) + 2) [(Value.string (⟨#[]⟩ : ByteArray)), (Value.slice none 0 0)] →
          Jv_3 [] hp_26) ∧
         (x105_ = false →
          Jv_3 [] hp_22))) ∧
       (∀  hp_27, Jv_3 [] hp_27 →
        ∃ x116f0_ : Int, ∃ x116f1_ : ByteArray, ∃ (x116f2p_ : Option Addr) (x116f2n_ x116f2c_ : Nat), ∃ x116f3_ : Int, ∃ x116f4_ : ByteArray, ∃ (x116f5p_ : Option Addr) (x116f5n_ x116f5c_ : Nat), cellsAt hp_27 b_6 0 [(Value.int .i64 x116f0_), (Value.string x116f1_), (Value.slice x116f2p_ x116f2n_ x116f2c_), (Value.int .i64 x116f3_), (Value.string x116f4_), (Value.slice x116f5p_ x116f5n_ x116f5c_)] ∧
        SemH Tryz.prog (Instr.buildSlice 97 1 #[(0, (Value.agg #[(Value.int .i64 x116f0_), (Value.string x116f1_), (Value.slice x116f2p_ x116f2n_ x116f2c_), (Value.int .i64 x116f3_), (Value.string x116f4_), (Value.slice x116f5p_ x116f5n_ x116f5c_)]))]) hp_27 fun v_3 hp_28 =>
        ∃ (x117p_ : Option Addr) (x117n_ x117c_ : Nat), v_3 = (Value.slice x117p_ x117n_ x117c_) ∧
        CallsH Tryz.prog 10 #[(Value.pointer x35r0_), (Value.slice x117p_ x117n_ x117c_)] hp_28 fun en_7 hp_29 =>
        ∃ x118r0_ : Int, ∃ x118r1_ : Int, en_7 = .returned (Value.tuple #[(Value.int .i64 x118r0_), (Value.int .i64 x118r1_)]) ∧
        ∃ x123f0_ : Int, ∃ x123f1_ : ByteArray, ∃ (x123f2p_ : Option Addr) (x123f2n_ x123f2c_ : Nat), ∃ x123f3_ : Int, ∃ x123f4_ : ByteArray, ∃ (x123f5p_ : Option Addr) (x123f5n_ x123f5c_ : Nat), cellsAt hp_29 b_7 0 [(Value.int .i64 x123f0_), (Value.string x123f1_), (Value.slice x123f2p_ x123f2n_ x123f2c_), (Value.int .i64 x123f3_), (Value.string x123f4_), (Value.slice x123f5p_ x123f5n_ x123f5c_)] ∧
        SemH Tryz.prog (Instr.buildSlice 97 1 #[(0, (Value.agg #[(Value.int .i64 x123f0_), (Value.string x123f1_), (Value.slice x123f2p_ x123f2n_ x123f2c_), (Value.int .i64 x123f3_), (Value.string x123f4_), (Value.slice x123f5p_ x123f5n_ x123f5c_)]))]) hp_29 fun v_4 hp_30 =>
        ∃ (x124p_ : Option Addr) (x124n_ x124c_ : Nat), v_4 = (Value.slice x124p_ x124n_ x124c_) ∧
        CallsH Tryz.prog 10 #[(Value.pointer x35r0_), (Value.slice x124p_ x124n_ x124c_)] hp_30 fun en_8 hp_31 =>
        ∃ x125r0_ : Int, ∃ x125r1_ : Int, en_8 = .returned (Value.tuple #[(Value.int .i64 x125r0_), (Value.int .i64 x125r1_)]) ∧
        (((decide (x65r1_ ≠ (0 : Int))) = true →
          R (.returned (Value.bool false)) hp_31) ∧
         ((decide (x65r1_ ≠ (0 : Int))) = false →
          (((decide (x118r1_ ≠ x125r1_)) = true →
            R (.returned (Value.bool false)) hp_31) ∧
           ((decide (x118r1_ ≠ x125r1_)) = false →
            (((decide (x118r1_ ≠ (0 : Int))) = true →
              (((decide (x118r1_ ≠ (121 : Int))) = true →
                (((decide (x118r1_ ≠ (122 : Int))) = true →
                  R (.returned (Value.bool false)) hp_31) ∧
                 ((decide (x118r1_ ≠ (122 : Int))) = false →
                  ∃ x53_, IntKind.i64.wrap (i_ + (1 : Int)) = x53_ ∧
                  (Iv_ [(Value.int .i64 x53_)] hp_31 ∧ m_ [(Value.int .i64 x53_)] hp_31 < m_ [(Value.int .i64 i_)] hp_4)))) ∧
               ((decide (x118r1_ ≠ (121 : Int))) = false →
                ∃ x53_1, IntKind.i64.wrap (i_ + (1 : Int)) = x53_1 ∧
                (Iv_ [(Value.int .i64 x53_1)] hp_31 ∧ m_ [(Value.int .i64 x53_1)] hp_31 < m_ [(Value.int .i64 i_)] hp_4)))) ∧
             ((decide (x118r1_ ≠ (0 : Int))) = false →
              ∃ x53_2, IntKind.i64.wrap (i_ + (1 : Int)) = x53_2 ∧
              (Iv_ [(Value.int .i64 x53_2)] hp_31 ∧ m_ [(Value.int .i64 x53_2)] hp_31 < m_ [(Value.int .i64 i_)] hp_4))))))))

def Inv1 (h : Hp) (w : Nat) (X : TB) (rn : Nat) (vs : List Value) (q : Hp) : Prop :=
  ∃ i Z m E, vs = [vI i] ∧ i ≤ rn ∧ i ≤ 150 ∧ Ext h q ∧ SetIs q w X Z m E ∧ (∀ k, m k ≤ i) ∧ (∀ b, Z b → h.size ≤ b ∧ b < q.size) ∧ ∀ n v y, E false n v y ↔ E true n v y

structure Ro where
  val : B128
  len : Int
  arg : BitVec 64
  gone : Bool
abbrev Ro.cells (r : Ro) : List Value := [vW (hiW r.val), vW (loW r.val), .int .i64 r.len, vW r.arg, .bool r.gone]

section
variable {h : Hp} {w : Nat} {X : TB}

theorem mcF (w n : Nat) (v : B128) : mcells false w n v = [vW (hiW v), vW (loW v), .int .u64 0, .int .u64 0, vI n] := by
  simp only [mcells, cond_false, hi_0, lo_0]; rfl

theorem tail_ok {rp : Option Addr} {rn : Nat} {rs : List Ro} (S : SegS h rp rn 5 (rs.map Ro.cells)) {i n : Nat} (hi : i < rn) (hi2 : i < 150) {Z : Nat → Prop} {m : Bool → Nat} {E : Bool → Nat → B128 → BitVec 64 → Prop} {q4 q13 : Hp} (x4 : Ext h q4) (D : SetIs q4 w X Z m E)
    (hm : ∀ k, m k ≤ i) (hZ : ∀ b, Z b → h.size ≤ b ∧ b < q4.size) (sym : ∀ n v y, E false n v y ↔ E true n v y) (x13 : Ext q4 q13) {b1 b3 : Nat} {v : B128} (c1 : q13[b1]? = some (.cells (bitsL (msk w n)).toArray 40)) (c3 : q13[b3]? = some (.cells (bitsL v).toArray 40)) (hn : n ≤ w) (hw : w ≤ 128) (hv : v &&& msk w n = v) :
    TailV rp rn i n 0 (some ⟨X.t, 0, none⟩) b1 b3 (RetX (.bool true) h) (Inv1 h w X rn) (fun vs _ => 150 - (numAt vs 0).toNat) q4 q13 := by
  unfold TailV
  have hlen : rs.length = rn := by have := S.1; simpa using this
  obtain ⟨r, hr⟩ : ∃ r, rs[i]? = some r := ⟨rs[i], List.getElem?_eq_getElem (by omega)⟩
  obtain ⟨b, o, e1, e2, e3, hrow⟩ := S.get (i := i) (by simpa [hlen] using hi)
  have hri : (rs.map Ro.cells)[i]'(by simpa [hlen] using hi) = r.cells := by rw [List.getElem_map, (List.getElem?_eq_some_iff.1 hr).2]
  rw [hri] at hrow
  have x013 := x4.trans x13
  refine ⟨b, o, e1, e2, e3, _, x013.cells (hrow 3 _ rfl), ?_⟩
  refine semH_buildS row23.ht (by decide) (buildS_hi row23) (rows := [[.int .u64 0, vW r.arg]]) (by simp) rfl rfl (by simp) (by simp) ?_
  have x14 := Ext.push q13 (.cells ([[.int .u64 0, vW r.arg]] : List (List Value)).flatten.toArray 40)
  have c14 := push_last (h := q13) (o := .cells ([[.int .u64 0, vW r.arg]] : List (List Value)).flatten.toArray 40)
  generalize hq14 : q13.push (.cells ([[.int .u64 0, vW r.arg]] : List (List Value)).flatten.toArray 40) = q14 at *
  generalize hab : q13.size = ab at *
  refine ⟨_, _, _, rfl, ?_⟩
  refine layN info48 z48_size rfl (by simp [Value.oneCell']) fun q16 x16 c16 => ?_
  generalize hb5 : q14.size = b5 at *
  refine ⟨_, _, cellsAt_all ((x14.trans x16).at c3), ?_⟩
  refine semH_buildS row51.ht (by decide) (buildS_hi row51) (rows := [[vW (hiW v), vW (loW v), .int .u64 0, .int .u64 0, vI n]]) (by simp) rfl rfl (by simp) (by simp) ?_
  have x17 := Ext.push q16 (.cells ([[vW (hiW v), vW (loW v), .int .u64 0, .int .u64 0, vI n]] : List (List Value)).flatten.toArray 50)
  have c17 := push_last (h := q16) (o := .cells ([[vW (hiW v), vW (loW v), .int .u64 0, .int .u64 0, vI n]] : List (List Value)).flatten.toArray 50)
  generalize hq17 : q16.push (.cells ([[vW (hiW v), vW (loW v), .int .u64 0, .int .u64 0, vI n]] : List (List Value)).flatten.toArray 50) = q17 at *
  generalize hm1 : q16.size = m1 at *
  refine ⟨_, _, _, rfl, _, _, _, _, cellsAt_all (x17.at c16), ?_⟩
  refine layN info55 z55_size rfl (by simp [Value.oneCell']) fun q19 x19 c19 => ?_
  generalize hb6 : q17.size = b6 at *
  have x1319 := x14.trans (x16.trans (x17.trans x19))
  refine ⟨_, _, cellsAt_all (x1319.at c3), _, _, cellsAt_all (x1319.at c1), ?_⟩
  refine semH_buildS row51.ht (by decide) (buildS_hi row51) (rows := [[vW (hiW v), vW (loW v), vW (hiW (msk w n)), vW (loW (msk w n)), .int .i64 0]]) (by simp) rfl rfl (by simp) (by simp) ?_
  have x20 := Ext.push q19 (.cells ([[vW (hiW v), vW (loW v), vW (hiW (msk w n)), vW (loW (msk w n)), .int .i64 0]] : List (List Value)).flatten.toArray 50)
  have c20 := push_last (h := q19) (o := .cells ([[vW (hiW v), vW (loW v), vW (hiW (msk w n)), vW (loW (msk w n)), .int .i64 0]] : List (List Value)).flatten.toArray 50)
  generalize hq20 : q19.push (.cells ([[vW (hiW v), vW (loW v), vW (hiW (msk w n)), vW (loW (msk w n)), .int .i64 0]] : List (List Value)).flatten.toArray 50) = q20 at *
  generalize hm2 : q19.size = m2 at *
  refine ⟨_, _, _, rfl, ((n + 1 : Nat) : Int), incI (by omega), _, _, _, _, cellsAt_all ((x17.trans (x19.trans x20)).at c16), ?_⟩
  refine layN info55 z55_size rfl (by simp [Value.oneCell']) fun q22 x22 c22 => ?_
  generalize hb7 : q20.size = b7 at *
  have x422 := x13.trans (x1319.trans (x20.trans x22))
  have l14 := (Array.getElem?_eq_some_iff.1 c14).1
  have l16 := (Array.getElem?_eq_some_iff.1 c16).1
  have l17 := (Array.getElem?_eq_some_iff.1 c17).1
  have l19 := (Array.getElem?_eq_some_iff.1 c19).1
  have l20 := (Array.getElem?_eq_some_iff.1 c20).1
  have z4 := x13.size
  have hM1 : cellsAt q22 m1 0 (mcells false w n v) := by
    rw [mcF]
    exact cellsAt_all (vs := [vW (hiW v), vW (loW v), .int .u64 0, .int .u64 0, vI n]) ((x19.trans (x20.trans x22)).at c17)
  have hM2 : cellsAt q22 m2 0 (mcells true w n v) := cellsAt_all (vs := [vW (hiW v), vW (loW v), vW (hiW (msk w n)), vW (loW (msk w n)), .int .i64 0]) (x22.at c20)
  have hA : cellsAt q22 ab 0 [.int .u64 0, vW r.arg] := cellsAt_all (vs := [.int .u64 0, vW r.arg]) ((x16.trans (x17.trans (x19.trans (x20.trans x22)))).at c14)
  have c622 := (x20.trans x22).at c19
  refine ⟨fun _ q => Ext q4 q ∧ q[b6]? = some (.cells (opL false r.gone m1 n ab).toArray 55) ∧ q[b7]? = some (.cells (opL true r.gone m2 n ab).toArray 55) ∧ cellsAt q m1 0 (mcells false w n v) ∧ cellsAt q m2 0 (mcells true w n v) ∧ cellsAt q ab 0 [.int .u64 0, vW r.arg], ?_, ?_⟩
  · refine ⟨b, o, e1, e2, e3, r.gone, (x4.trans x422).cells (hrow 4 _ rfl), fun hg => ?_, fun hg => ?_⟩
    · rw [hg]
      refine ⟨rfl, wrAt_of c622 (by simp) (.inl (Nat.zero_le _)), ?_⟩
      intro h23 hh23
      have k23 : ∀ q, q ≠ b6 → h23[q]? = q22[q]? := fun q hq => by rw [hh23]; exact setsH_ne hq
      have d23 : h23[b6]? = some (.cells #[.int .i64 3, .string sLong, sl m1 1 1, vZ 0, .string sOut, sl ab 1 1] 55) := by rw [hh23]; exact setsH_at c622
      have x23 : Ext q4 h23 := by rw [hh23]; exact x422.sets (by omega) _
      clear hh23
      have f23 := (k23 b7 (by omega)).trans c22
      refine ⟨rfl, wrAt_of f23 (by simp) (.inl (Nat.zero_le _)), ?_⟩
      intro h24 hh24
      have k24 : ∀ q, q ≠ b7 → h24[q]? = h23[q]? := fun q hq => by rw [hh24]; exact setsH_ne hq
      have f24 : h24[b7]? = some (.cells #[.int .i64 3, .string sHigh, sl m2 1 1, vI (n + 1), .string sOut, sl ab 1 1] 55) := by rw [hh24]; exact setsH_at f23
      have x24 : Ext q4 h24 := by rw [hh24]; exact x23.sets (by omega) _
      clear hh24
      have d24 := (k24 b6 (by omega)).trans d23
      refine ⟨rfl, (by simp [Value.oneCell']), wrAt_of d24 (by simp) (.inl (Nat.zero_le _)), ?_⟩
      intro h25 hh25
      have k25 : ∀ q, q ≠ b6 → h25[q]? = h24[q]? := fun q hq => by rw [hh25]; exact setsH_ne hq
      have d25 : h25[b6]? = some (.cells #[.int .i64 3, .string sLong, sl m1 1 1, vZ 0, .string ⟨#[]⟩, nilS] 55) := by rw [hh25]; exact setsH_at d24
      have x25 : Ext q4 h25 := by rw [hh25]; exact x24.sets (by omega) _
      clear hh25
      have f25 := (k25 b7 (by omega)).trans f24
      refine ⟨rfl, (by simp [Value.oneCell']), wrAt_of f25 (by simp) (.inl (Nat.zero_le _)), ?_⟩
      intro h26 hh26
      have k26 : ∀ q, q ≠ b7 → h26[q]? = h25[q]? := fun q hq => by rw [hh26]; exact setsH_ne hq
      have f26 : h26[b7]? = some (.cells #[.int .i64 3, .string sHigh, sl m2 1 1, vI (n + 1), .string ⟨#[]⟩, nilS] 55) := by rw [hh26]; exact setsH_at f25
      have x26 : Ext q4 h26 := by rw [hh26]; exact x25.sets (by omega) _
      clear hh26
      have d26 := (k26 b6 (by omega)).trans d25
      have kk : ∀ q, q ≠ b6 → q ≠ b7 → h26[q]? = q22[q]? := fun q h1 h2 => (k26 q h2).trans ((k25 q h1).trans ((k24 q h2).trans (k23 q h1)))
      exact ⟨x26, d26, f26, cellsAt_congr (kk m1 (by omega) (by omega)) hM1, cellsAt_congr (kk m2 (by omega) (by omega)) hM2, cellsAt_congr (kk ab (by omega) (by omega)) hA⟩
    · rw [hg]
      exact ⟨x422, c622, c22, hM1, hM2, hA⟩
  rintro q27 ⟨x27, c6, c7, hm1', hm2', ha'⟩
  have hgs : ∃ ap an ac, (cond r.gone nilS (sl ab 1 1) : Value) = .slice ap an ac := by cases r.gone <;> exact ⟨_, _, _, rfl⟩
  obtain ⟨ap, an, ac, hga⟩ := hgs
  have hc6 : cellsAt q27 b6 0 [.int .i64 (cond r.gone 3 1), .string sLong, sl m1 1 1, vZ 0, .string (cond r.gone ⟨#[]⟩ sOut), .slice ap an ac] := by rw [← hga]; exact cellsAt_all (vs := opL false r.gone m1 n ab) c6
  refine ⟨_, _, _, _, _, _, _, _, _, _, hc6, ?_⟩
  refine semH_buildS row97.ht (by decide) (buildS_hi row97) (rows := [[.int .i64 (cond r.gone 3 1), .string sLong, sl m1 1 1, vZ 0, .string (cond r.gone ⟨#[]⟩ sOut), .slice ap an ac]]) (by simp) rfl rfl (by simp) (by simp) ?_
  have x28 := Ext.push q27 (.cells ([[.int .i64 (cond r.gone 3 1), .string sLong, sl m1 1 1, vZ 0, .string (cond r.gone ⟨#[]⟩ sOut), .slice ap an ac]] : List (List Value)).flatten.toArray 55)
  have c28 := push_last (h := q27) (o := .cells ([[.int .i64 (cond r.gone 3 1), .string sLong, sl m1 1 1, vZ 0, .string (cond r.gone ⟨#[]⟩ sOut), .slice ap an ac]] : List (List Value)).flatten.toArray 55)
  generalize hq28 : q27.push (.cells ([[.int .i64 (cond r.gone 3 1), .string sLong, sl m1 1 1, vZ 0, .string (cond r.gone ⟨#[]⟩ sOut), .slice ap an ac]] : List (List Value)).flatten.toArray 55) = q28 at *
  have x428 := x27.trans x28
  have ho28 : cellsAt q28 q27.size 0 (opL false r.gone m1 n ab) := by
    have : opL false r.gone m1 n ab = [.int .i64 (cond r.gone 3 1), .string sLong, sl m1 1 1, vZ 0, .string (cond r.gone ⟨#[]⟩ sOut), .slice ap an ac] := by rw [← hga]; rfl
    rw [this]
    exact cellsAt_all (vs := [.int .i64 (cond r.gone 3 1), .string sLong, sl m1 1 1, vZ 0, .string (cond r.gone ⟨#[]⟩ sOut), .slice ap an ac]) c28
  have z428 := x428.size
  refine ⟨_, _, _, rfl, (DoOp_c (D.ext x428) (fun q hq => by have := (hZ q hq).2; omega) false r.gone (by have := hm false; omega) ho28 (x28.cells hm1') hn hv (x28.cells ha')).mono ?_⟩
  rintro en q29 ⟨code1, mm1, E1, rfl, s29, D29, r1⟩
  refine ⟨_, _, rfl, ?_⟩
  have si6 : KeepsSI q27 q29 := (Sam.of_ext (Z := Z) x28).si.trans s29.si
  have c729 : q29[b7]? = some (.cells (opL true r.gone m2 n ab).toArray 55) := (si6 b7 ⟨_, (cellH_at c7).trans rfl, rfl⟩).trans c7
  have hc7 : cellsAt q29 b7 0 [.int .i64 (cond r.gone 3 1), .string sHigh, sl m2 1 1, vI (n + 1), .string (cond r.gone ⟨#[]⟩ sOut), .slice ap an ac] := by rw [← hga]; exact cellsAt_all (vs := opL true r.gone m2 n ab) c729
  refine ⟨_, _, _, _, _, _, _, _, _, _, hc7, ?_⟩
  refine semH_buildS row97.ht (by decide) (buildS_hi row97) (rows := [[.int .i64 (cond r.gone 3 1), .string sHigh, sl m2 1 1, vI (n + 1), .string (cond r.gone ⟨#[]⟩ sOut), .slice ap an ac]]) (by simp) rfl rfl (by simp) (by simp) ?_
  have x30 := Ext.push q29 (.cells ([[.int .i64 (cond r.gone 3 1), .string sHigh, sl m2 1 1, vI (n + 1), .string (cond r.gone ⟨#[]⟩ sOut), .slice ap an ac]] : List (List Value)).flatten.toArray 55)
  have c30 := push_last (h := q29) (o := .cells ([[.int .i64 (cond r.gone 3 1), .string sHigh, sl m2 1 1, vI (n + 1), .string (cond r.gone ⟨#[]⟩ sOut), .slice ap an ac]] : List (List Value)).flatten.toArray 55)
  generalize hq30 : q29.push (.cells ([[.int .i64 (cond r.gone 3 1), .string sHigh, sl m2 1 1, vI (n + 1), .string (cond r.gone ⟨#[]⟩ sOut), .slice ap an ac]] : List (List Value)).flatten.toArray 55) = q30 at *
  have ho30 : cellsAt q30 q29.size 0 (opL true r.gone m2 n ab) := by
    have : opL true r.gone m2 n ab = [.int .i64 (cond r.gone 3 1), .string sHigh, sl m2 1 1, vI (n + 1), .string (cond r.gone ⟨#[]⟩ sOut), .slice ap an ac] := by rw [← hga]; rfl
    rw [this]
    exact cellsAt_all (vs := [.int .i64 (cond r.gone 3 1), .string sHigh, sl m2 1 1, vI (n + 1), .string (cond r.gone ⟨#[]⟩ sOut), .slice ap an ac]) c30
  have hm2k : mm1 true < 200 := by
    have := hm true
    cases hgn : r.gone <;> rw [hgn] at r1 <;> rcases r1 with ⟨_, _, rfl, _⟩ | ⟨_, _, rfl, _⟩ <;> simp [upd] <;> omega
  have si30 : KeepsSI q27 q30 := si6.trans (Sam.of_ext (Z := Z) x30).si
  refine ⟨_, _, _, rfl, (DoOp_c (D29.bound.ext x30) (fun q hq => by have := hq.2; have := x30.size; omega) true r.gone hm2k ho30 (si30.cells hm2' rfl) hn hv (si30.cells ha' rfl)).mono ?_⟩
  rintro en q31 ⟨code2, mm2, E2, rfl, s31, D31, r2⟩
  obtain ⟨hcc, hcs, hmm, sym2⟩ := resp_both sym hm r1 r2
  have z4h := x4.size
  have hz29 := s29.size
  have hz30 := x30.size
  have hz31 := s31.size
  have xh29 : Ext h q29 := ⟨by omega, fun q hq => (s29.loc q (by omega) (fun hz => by have := (hZ q hz).1; omega)).trans ((x4.trans x428).old q hq)⟩
  have xh30 := xh29.trans x30
  have xh31 : Ext h q31 := ⟨by omega, fun q hq => (s31.loc q (by have := xh30.size; omega) (fun hz => by
    rcases hz.1 with hz | hz
    · have := (hZ q hz).1; omega
    · omega)).trans (xh30.old q hq)⟩
  have nxt : ∃ x53_, IntKind.i64.wrap ((i : Int) + (1 : Int)) = x53_ ∧ (Inv1 h w X rn [(Value.int .i64 x53_)] q31 ∧ 150 - (numAt [Value.int .i64 x53_] 0).toNat < 150 - (numAt [Value.int .i64 (i : Int)] 0).toNat) := by
    refine ⟨((i + 1 : Nat) : Int), incI (by omega), ⟨i + 1, _, mm2, E2, rfl, hi, hi2, xh31, D31.bound, hmm, fun b hb => ⟨?_, hb.2⟩, sym2⟩, by simp only [numAt]; omega⟩
    rcases hb.1 with ⟨hz | hz, _⟩ | hz
    · exact (hZ b hz).1
    · omega
    · omega
  refine ⟨_, _, rfl, fun hf => absurd hf (by decide), fun _ => ⟨fun hf => ?_, fun _ => ⟨fun h0 => ⟨fun h121 => ⟨fun h122 => ?_, fun _ => nxt⟩, fun _ => nxt⟩, fun _ => nxt⟩⟩⟩
  · exact absurd hcc (of_decide_eq_true hf)
  · have := of_decide_eq_true h0
    have := of_decide_eq_true h121
    have := of_decide_eq_true h122
    omega
end
end Go.Vc
