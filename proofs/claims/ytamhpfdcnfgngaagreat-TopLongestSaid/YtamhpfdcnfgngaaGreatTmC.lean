/- TopLongest: the schema as it lies in memory, what is looked up in it. -/
import Derived.Test.YtamhpfdcnfgngaaGreatTmB
set_option maxRecDepth 10000
namespace Go.Vc
open Go Go.Proofs Go.MapKept

abbrev sl (b n c : Nat) : Value := .slice (some ⟨b, 0, none⟩) n c
abbrev nilS : Value := .slice none 0 0
abbrev sTo : ByteArray := ⟨#[116, 111]⟩
abbrev sOut : ByteArray := ⟨#[111, 117, 116]⟩
abbrev sNone : ByteArray := ⟨#[110, 111, 110, 101]⟩
abbrev sPort : ByteArray := ⟨#[112, 111, 114, 116]⟩
abbrev sLong : ByteArray := ⟨#[108, 111, 110, 103]⟩
abbrev sHigh : ByteArray := ⟨#[104, 105, 103, 104]⟩
abbrev sMeta : ByteArray := ⟨#[109, 101, 116, 97]⟩

/-! ## Copies of slices -/

theorem row30 : RowT Tryz.prog 30 89 2 24 := RowT.of (by kernel_rfl)
theorem cln36_c {h : Hp} {b o n c : Nat} {vs : List Value} (hc : cellsAt h b o vs) (hl : vs.length = n * 2) (h0 : 0 < n) (hn : n ≤ 1000000) (h1 : ∀ v ∈ vs, v.oneCell' = true) :
    CallsH Tryz.prog 36 #[.slice (some ⟨b, o, none⟩) n c] h fun e h' => ∃ b' c', h.size ≤ b' ∧ Ext h h' ∧ Own h' h.size 89 2 (sl b' n c') n vs ∧ e = .returned (sl b' n c') :=
  V36 _ _ _ h _ ⟨false, eqv_slice_some row30.ht _ _ _, fun hf => (by cases hf), fun _ =>
    semH_clone row30 (by decide) hc hl h0 h1 (by omega) (by omega) fun b' c' h' g1 g2 g3 => ⟨b', c', g1, g2, g3, rfl⟩⟩
theorem cln36_nil {h : Hp} : CallsH Tryz.prog 36 #[nilS] h fun e h' => h' = h ∧ e = .returned nilS :=
  V36 _ _ _ h _ ⟨true, eqv_slice_nil row30.ht, fun _ => ⟨rfl, rfl⟩, fun hf => by cases hf⟩

theorem row32 : RowT Tryz.prog 32 92 3 64 := RowT.of (by kernel_rfl)
theorem cln39_c {h : Hp} {b o n c : Nat} {vs : List Value} (hc : cellsAt h b o vs) (hl : vs.length = n * 3) (h0 : 0 < n) (hn : n ≤ 1000000) (h1 : ∀ v ∈ vs, v.oneCell' = true) :
    CallsH Tryz.prog 39 #[.slice (some ⟨b, o, none⟩) n c] h fun e h' => ∃ b' c', h.size ≤ b' ∧ Ext h h' ∧ Own h' h.size 92 3 (sl b' n c') n vs ∧ e = .returned (sl b' n c') :=
  V39 _ _ _ h _ ⟨false, eqv_slice_some row32.ht _ _ _, fun hf => (by cases hf), fun _ =>
    semH_clone row32 (by decide) hc hl h0 h1 (by omega) (by omega) fun b' c' h' g1 g2 g3 => ⟨b', c', g1, g2, g3, rfl⟩⟩
theorem row33 : RowT Tryz.prog 33 73 7 120 := RowT.of (by kernel_rfl)
theorem cln41_c {h : Hp} {b o n c : Nat} {vs : List Value} (hc : cellsAt h b o vs) (hl : vs.length = n * 7) (h0 : 0 < n) (hn : n ≤ 1000000) (h1 : ∀ v ∈ vs, v.oneCell' = true) :
    CallsH Tryz.prog 41 #[.slice (some ⟨b, o, none⟩) n c] h fun e h' => ∃ b' c', h.size ≤ b' ∧ Ext h h' ∧ Own h' h.size 73 7 (sl b' n c') n vs ∧ e = .returned (sl b' n c') :=
  V41 _ _ _ h _ ⟨false, eqv_slice_some row33.ht _ _ _, fun hf => (by cases hf), fun _ =>
    semH_clone row33 (by decide) hc hl h0 h1 (by omega) (by omega) fun b' c' h' g1 g2 g3 => ⟨b', c', g1, g2, g3, rfl⟩⟩
theorem row70 : RowT Tryz.prog 70 94 3 40 := RowT.of (by kernel_rfl)
theorem cln67_c {h : Hp} {b o n c : Nat} {vs : List Value} (hc : cellsAt h b o vs) (hl : vs.length = n * 3) (h0 : 0 < n) (hn : n ≤ 1000000) (h1 : ∀ v ∈ vs, v.oneCell' = true) :
    CallsH Tryz.prog 67 #[.slice (some ⟨b, o, none⟩) n c] h fun e h' => ∃ b' c', h.size ≤ b' ∧ Ext h h' ∧ Own h' h.size 94 3 (sl b' n c') n vs ∧ e = .returned (sl b' n c') :=
  V67 _ _ _ h _ ⟨false, eqv_slice_some row70.ht _ _ _, fun hf => (by cases hf), fun _ =>
    semH_clone row70 (by decide) hc hl h0 h1 (by omega) (by omega) fun b' c' h' g1 g2 g3 => ⟨b', c', g1, g2, g3, rfl⟩⟩
theorem row71 : RowT Tryz.prog 71 9 1 16 := RowT.of (by kernel_rfl)
theorem cln68_c {h : Hp} {b o n c : Nat} {vs : List Value} (hc : cellsAt h b o vs) (hl : vs.length = n * 1) (h0 : 0 < n) (hn : n ≤ 1000000) (h1 : ∀ v ∈ vs, v.oneCell' = true) :
    CallsH Tryz.prog 68 #[.slice (some ⟨b, o, none⟩) n c] h fun e h' => ∃ b' c', h.size ≤ b' ∧ Ext h h' ∧ Own h' h.size 9 1 (sl b' n c') n vs ∧ e = .returned (sl b' n c') :=
  V68 _ _ _ h _ ⟨false, eqv_slice_some row71.ht _ _ _, fun hf => (by cases hf), fun _ =>
    semH_clone row71 (by decide) hc hl h0 h1 (by omega) (by omega) fun b' c' h' g1 g2 g3 => ⟨b', c', g1, g2, g3, rfl⟩⟩
theorem row23 : RowT Tryz.prog 23 40 2 16 := RowT.of (by kernel_rfl)
theorem cln44_c {h : Hp} {b o n c : Nat} {vs : List Value} (hc : cellsAt h b o vs) (hl : vs.length = n * 2) (h0 : 0 < n) (hn : n ≤ 1000000) (h1 : ∀ v ∈ vs, v.oneCell' = true) :
    CallsH Tryz.prog 44 #[.slice (some ⟨b, o, none⟩) n c] h fun e h' => ∃ b' c', h.size ≤ b' ∧ Ext h h' ∧ Own h' h.size 40 2 (sl b' n c') n vs ∧ e = .returned (sl b' n c') :=
  V44 _ _ _ h _ ⟨false, eqv_slice_some row23.ht _ _ _, fun hf => (by cases hf), fun _ =>
    semH_clone row23 (by decide) hc hl h0 h1 (by omega) (by omega) fun b' c' h' g1 g2 g3 => ⟨b', c', g1, g2, g3, rfl⟩⟩
theorem cln44_nil {h : Hp} : CallsH Tryz.prog 44 #[nilS] h fun e h' => h' = h ∧ e = .returned nilS :=
  V44 _ _ _ h _ ⟨true, eqv_slice_nil row23.ht, fun _ => ⟨rfl, rfl⟩, fun hf => by cases hf⟩

theorem row51 : RowT Tryz.prog 51 50 5 40 := RowT.of (by kernel_rfl)
theorem cln180_c {h : Hp} {b o n c : Nat} {vs : List Value} (hc : cellsAt h b o vs) (hl : vs.length = n * 5) (h0 : 0 < n) (hn : n ≤ 1000000) (h1 : ∀ v ∈ vs, v.oneCell' = true) :
    CallsH Tryz.prog 180 #[.slice (some ⟨b, o, none⟩) n c] h fun e h' => ∃ b' c', h.size ≤ b' ∧ Ext h h' ∧ Own h' h.size 50 5 (sl b' n c') n vs ∧ e = .returned (sl b' n c') :=
  V180 _ _ _ h _ ⟨false, eqv_slice_some row51.ht _ _ _, fun hf => (by cases hf), fun _ =>
    semH_clone row51 (by decide) hc hl h0 h1 (by omega) (by omega) fun b' c' h' g1 g2 g3 => ⟨b', c', g1, g2, g3, rfl⟩⟩
theorem cln35_nil {h : Hp} : CallsH Tryz.prog 35 #[nilS] h fun e h' => h' = h ∧ e = .returned nilS := by
  have ht : Tryz.prog.underlying 29 = some (.slice 123) := by kernel_rfl
  exact V35 _ _ _ h _ ⟨true, eqv_slice_nil ht, fun _ => ⟨rfl, rfl⟩, fun hf => by cases hf⟩

theorem cln37_nil {h : Hp} : CallsH Tryz.prog 37 #[nilS] h fun e h' => h' = h ∧ e = .returned nilS := by
  have ht : Tryz.prog.underlying 31 = some (.slice 128) := by kernel_rfl
  exact V37 _ _ _ h _ ⟨true, eqv_slice_nil ht, fun _ => ⟨rfl, rfl⟩, fun hf => by cases hf⟩

theorem cln66_nil {h : Hp} : CallsH Tryz.prog 66 #[nilS] h fun e h' => h' = h ∧ e = .returned nilS := by
  have ht : Tryz.prog.underlying 90 = some (.slice 162) := by kernel_rfl
  exact V66 _ _ _ h _ ⟨true, eqv_slice_nil ht, fun _ => ⟨rfl, rfl⟩, fun hf => by cases hf⟩

theorem cln69_nil {h : Hp} : CallsH Tryz.prog 69 #[nilS] h fun e h' => h' = h ∧ e = .returned nilS := by
  have ht : Tryz.prog.underlying 34 = some (.slice 118) := by kernel_rfl
  exact V69 _ _ _ h _ ⟨true, eqv_slice_nil ht, fun _ => ⟨rfl, rfl⟩, fun hf => by cases hf⟩

/-! ## The schema -/

structure SB where
  bm : Nat
  cm : Nat
  ba : Nat
  ca : Nat
  bp : Nat
  cp : Nat
  bt : Nat
  ct : Nat
  bk : Bool → Nat
  ck : Bool → Nat
  bn : Bool → Nat
  cn : Bool → Nat

def SB.cells (s : SB) : List Value := [nilS, sl s.bm 1 s.cm, nilS, sl s.ba 2 s.ca, sl s.bt 2 s.ct, nilS]
abbrev SB.val (s : SB) : Value := .agg #[nilS, sl s.bm 1 s.cm, nilS, sl s.ba 2 s.ca, sl s.bt 2 s.ct, nilS]
abbrev nm (k : Bool) : ByteArray := cond k sHigh sLong
abbrev kd (k : Bool) : Nat := cond k 3 2
def SB.act0 (s : SB) : List Value := [.string sOut, sl s.bp 1 s.cp, nilS]
def act1 : List Value := [.string sNone, nilS, nilS]
def SB.tab (s : SB) (k : Bool) : List Value := [.string (nm k), sl (s.bk k) 1 (s.ck k), sl (s.bn k) 2 (s.cn k), vI 200, .string sNone, nilS, .bool false]
def SB.acts (s : SB) : List (List Value) := [s.act0, act1]
def SB.tabs (s : SB) : List (List Value) := [s.tab false, s.tab true]

structure Sch (h : Hp) (w : Nat) (s : SB) : Prop where
  m : cellsAt h s.bm 0 [.string sTo, vI w]
  a : cellsAt h s.ba 0 s.acts.flatten
  p : cellsAt h s.bp 0 [.string sPort, vI 64]
  t : cellsAt h s.bt 0 s.tabs.flatten
  k : ∀ k, cellsAt h (s.bk k) 0 [.string sMeta, .string sTo, vI (kd k)]
  n : ∀ k, cellsAt h (s.bn k) 0 [.string sOut, .string sNone]
  w1 : 1 ≤ w
  w2 : w ≤ 128

theorem Sch.ext {h h' : Hp} {w : Nat} {s : SB} (S : Sch h w s) (x : Ext h h') : Sch h' w s :=
  ⟨x.cells S.m, x.cells S.a, x.cells S.p, x.cells S.t, fun k => x.cells (S.k k), fun k => x.cells (S.n k), S.w1, S.w2⟩

theorem seg_of {h : Hp} {b n z : Nat} {rows : List (List Value)} (h1 : rows.length = n) (h2 : ∀ r ∈ rows, r.length = z) (hc : cellsAt h b 0 rows.flatten) : SegS h (some ⟨b, 0, none⟩) n z rows :=
  ⟨h1, h2, .inr ⟨b, 0, rfl, hc⟩⟩
theorem Sch.segM {h : Hp} {w : Nat} {s : SB} (S : Sch h w s) : SegS h (some ⟨s.bm, 0, none⟩) 1 2 [[.string sTo, vI w]] := seg_of rfl (by simp) (by simpa using S.m)
theorem Sch.segA {h : Hp} {w : Nat} {s : SB} (S : Sch h w s) : SegS h (some ⟨s.ba, 0, none⟩) 2 3 s.acts := seg_of rfl (by simp [SB.acts, SB.act0, act1]) S.a
theorem Sch.segT {h : Hp} {w : Nat} {s : SB} (S : Sch h w s) : SegS h (some ⟨s.bt, 0, none⟩) 2 7 s.tabs := seg_of rfl (by simp [SB.tabs, SB.tab]) S.t
theorem Sch.segP {h : Hp} {w : Nat} {s : SB} (S : Sch h w s) : SegS h (some ⟨s.bp, 0, none⟩) 1 2 [[.string sPort, vI 64]] := seg_of rfl (by simp) (by simpa using S.p)
theorem Sch.segK {h : Hp} {w : Nat} {s : SB} (S : Sch h w s) (k : Bool) : SegS h (some ⟨s.bk k, 0, none⟩) 1 3 [[.string sMeta, .string sTo, vI (kd k)]] := seg_of rfl (by simp) (by simpa using S.k k)

def strAt : List Value → ByteArray
  | .string s :: _ => s
  | _ => ⟨#[]⟩

theorem clo71 {h : Hp} {b : Nat} {s : ByteArray} (hb : cellsAt h b 0 [.string s]) (y0 : ByteArray) (y1_p : Option Addr) (y1_n y1_c : Nat) (y2_p : Option Addr) (y2_n y2_c : Nat) (y3 : Int) (y4 : ByteArray) (y5_p : Option Addr) (y5_n y5_c : Nat) (y6 : Bool) :
    CallsH Tryz.prog 71 #[.agg #[.string y0, .slice y1_p y1_n y1_c, .slice y2_p y2_n y2_c, .int .i64 y3, .string y4, .slice y5_p y5_n y5_c, .bool y6], vP b] h (RetX (.bool (decide (strAt [.string y0, .slice y1_p y1_n y1_c, .slice y2_p y2_n y2_c, .int .i64 y3, .string y4, .slice y5_p y5_n y5_c, .bool y6] = s))) h) := by
  refine V71 _ _ _ _ _ _ _ _ _ _ _ _ _ _ h _ ?_
  rintro b0 h0 rfl rfl
  have c0 : (h.push (.cells #[.string y0, .slice y1_p y1_n y1_c, .slice y2_p y2_n y2_c, .int .i64 y3, .string y4, .slice y5_p y5_n y5_c, .bool y6] 73))[h.size]? = some (.cells #[.string y0, .slice y1_p y1_n y1_c, .slice y2_p y2_n y2_c, .int .i64 y3, .string y4, .slice y5_p y5_n y5_c, .bool y6] 73) := push_last
  exact ⟨_, cellsAt_one (cellH_at c0), _, _, rfl, _, (Ext.push _ _).cells hb, rfl, Ext.push _ _⟩

theorem clo91 {h : Hp} {b : Nat} {s : ByteArray} (hb : cellsAt h b 0 [.string s]) (y0 : ByteArray) (y1_p : Option Addr) (y1_n y1_c : Nat) (y2_p : Option Addr) (y2_n y2_c : Nat) :
    CallsH Tryz.prog 91 #[.agg #[.string y0, .slice y1_p y1_n y1_c, .slice y2_p y2_n y2_c], vP b] h (RetX (.bool (decide (strAt [.string y0, .slice y1_p y1_n y1_c, .slice y2_p y2_n y2_c] = s))) h) := by
  refine V91 _ _ _ _ _ _ _ _ h _ ?_
  rintro b0 h0 rfl rfl
  have c0 : (h.push (.cells #[.string y0, .slice y1_p y1_n y1_c, .slice y2_p y2_n y2_c] 92))[h.size]? = some (.cells #[.string y0, .slice y1_p y1_n y1_c, .slice y2_p y2_n y2_c] 92) := push_last
  exact ⟨_, cellsAt_one (cellH_at c0), _, _, rfl, _, (Ext.push _ _).cells hb, rfl, Ext.push _ _⟩

theorem clo100 {h : Hp} {b : Nat} {s : ByteArray} (hb : cellsAt h b 0 [.string s]) (y0 : ByteArray) (y1 : Int) :
    CallsH Tryz.prog 100 #[.agg #[.string y0, .int .i64 y1], vP b] h (RetX (.bool (decide (strAt [.string y0, .int .i64 y1] = s))) h) := by
  refine V100 _ _ _ h _ ?_
  rintro b0 h0 rfl rfl
  have c0 : (h.push (.cells #[.string y0, .int .i64 y1] 89))[h.size]? = some (.cells #[.string y0, .int .i64 y1] 89) := push_last
  exact ⟨_, cellsAt_one (cellH_at c0), _, _, rfl, _, (Ext.push _ _).cells hb, rfl, Ext.push _ _⟩

section
variable {h : Hp} {w : Nat} {s : SB}

theorem tableAt_c (S : Sch h w s) (k : Bool) : CallsH Tryz.prog 45 #[s.val, .string (nm k)] h (RetX (vI k.toNat) h) := by
  refine V45 _ _ _ _ _ _ _ _ _ _ _ _ _ _ _ _ _ _ _ h _ ?_
  rintro b0 h0 rfl rfl b1 h1 rfl rfl
  have x0 : Ext h (h.push (.cells s.cells.toArray 36)) := Ext.push _ _
  have x1 := Ext.push (h.push (.cells s.cells.toArray 36)) (.cells #[.string (nm k)] 9)
  have c0 := x1.at (push_last (h := h) (o := .cells s.cells.toArray 36))
  have c1 := push_last (h := h.push (.cells s.cells.toArray 36)) (o := .cells #[.string (nm k)] 9)
  refine ⟨_, _, _, cellsAt_one (cellH_at c0), V70 _ _ _ _ _ _ (CallsH.mono (idx93_at ((S.ext x0).ext x1).segT (by omega) ?_ (by kernel_rfl) (pr := fun r => decide (strAt r = nm k)) ?_ (k := k.toNat) (by cases k <;> simp [SB.tabs]) ?_ ?_) ?_)⟩
  · intro r hr
    simp only [SB.tabs, List.mem_cons, List.not_mem_nil, or_false] at hr
    rcases hr with rfl | rfl
    all_goals exact ⟨_, _, _, _, _, _, _, _, _, _, _, _, _, rfl⟩
  · intro r hr h' x'
    have hb := x'.cells (cellsAt_all (vs := [.string (nm k)]) c1)
    simp only [SB.tabs, List.mem_cons, List.not_mem_nil, or_false] at hr
    rcases hr with rfl | rfl
    all_goals exact clo71 hb _ _ _ _ _ _ _ _ _ _ _ _ _
  · cases k
    · exact (by decide : decide (sLong = sLong) = true)
    · exact (by decide : decide (sHigh = sHigh) = true)
  · intro j hj
    cases k
    · cases hj
    · have : j = 0 := by simp at hj; exact hj
      subst this; exact (by decide : decide (sLong = sHigh) = false)
  · rintro en h2 ⟨rfl, x2⟩
    exact ⟨_, rfl, _, rfl, rfl, (x0.trans x1).trans x2⟩

abbrev an (k : Bool) : ByteArray := cond k sNone sOut

theorem actionAt_c (S : Sch h w s) (k : Bool) : CallsH Tryz.prog 62 #[s.val, .string (an k)] h (RetX (vI k.toNat) h) := by
  refine V62 _ _ _ _ _ _ _ _ _ _ _ _ _ _ _ _ _ _ _ h _ ?_
  rintro b0 h0 rfl rfl b1 h1 rfl rfl
  have x0 : Ext h (h.push (.cells s.cells.toArray 36)) := Ext.push _ _
  have x1 := Ext.push (h.push (.cells s.cells.toArray 36)) (.cells #[.string (an k)] 9)
  have c0 := x1.at (push_last (h := h) (o := .cells s.cells.toArray 36))
  have c1 := push_last (h := h.push (.cells s.cells.toArray 36)) (o := .cells #[.string (an k)] 9)
  refine ⟨_, _, _, cellsAt_one (cellH_at c0), V90 _ _ _ _ _ _ (CallsH.mono (idx104_at ((S.ext x0).ext x1).segA (by omega) ?_ (by kernel_rfl) (pr := fun r => decide (strAt r = an k)) ?_ (k := k.toNat) (by cases k <;> simp [SB.acts]) ?_ ?_) ?_)⟩
  · intro r hr
    simp only [SB.acts, List.mem_cons, List.not_mem_nil, or_false] at hr
    rcases hr with rfl | rfl
    all_goals exact ⟨_, _, _, _, _, _, _, rfl⟩
  · intro r hr h' x'
    have hb := x'.cells (cellsAt_all (vs := [.string (an k)]) c1)
    simp only [SB.acts, List.mem_cons, List.not_mem_nil, or_false] at hr
    rcases hr with rfl | rfl
    all_goals exact clo91 hb _ _ _ _ _ _ _
  · cases k
    · exact (by decide : decide (sOut = sOut) = true)
    · exact (by decide : decide (sNone = sNone) = true)
  · intro j hj
    cases k
    · cases hj
    · have : j = 0 := by simp at hj; exact hj
      subst this; exact (by decide : decide (sOut = sNone) = false)
  · rintro en h2 ⟨rfl, x2⟩
    exact ⟨_, rfl, _, rfl, rfl, (x0.trans x1).trans x2⟩

theorem fieldAt_c (S : Sch h w s) (c : Nat) : CallsH Tryz.prog 84 #[sl s.bm 1 c, .string sTo] h (RetX (vI 0) h) := by
  refine V84 _ _ _ _ h _ ?_
  rintro b1 h1 rfl rfl
  have x1 : Ext h (h.push (.cells #[.string sTo] 9)) := Ext.push _ _
  have c1 := push_last (h := h) (o := .cells #[.string sTo] 9)
  refine V99 _ _ _ _ _ _ (CallsH.mono (idx107_at (S.ext x1).segM (by omega) ?_ (by kernel_rfl) (pr := fun r => decide (strAt r = sTo)) ?_ (k := 0) (by simp) ?_ ?_) ?_)
  · intro r hr
    simp only [List.mem_cons, List.not_mem_nil, or_false] at hr
    subst hr; exact ⟨_, _, rfl⟩
  · intro r hr h' x'
    have hb := x'.cells (cellsAt_all (vs := [.string sTo]) c1)
    simp only [List.mem_cons, List.not_mem_nil, or_false] at hr
    subst hr; exact clo100 hb _ _
  · rfl
  · intro j hj; cases hj
  · rintro en h2 ⟨rfl, x2⟩
    exact ⟨_, rfl, _, rfl, rfl, x1.trans x2⟩

noncomputable abbrev zF : Array Value := zeros Tryz.prog 89
theorem info89 : ∃ i z, Tryz.prog.info? 89 = some i ∧ i.zero = some z := by
  have h : (Tryz.prog.info? 89).bind (·.zero) = some (.agg #[.string ⟨#[]⟩, .int .i64 0]) := by kernel_rfl
  obtain ⟨i, h1, h2⟩ := Option.bind_eq_some_iff.1 h
  exact ⟨i, _, h1, h2⟩
theorem zF_size : zF.size = 2 := by kernel_rfl

theorem fieldOf_c (S : Sch h w s) : CallsH Tryz.prog 57 #[s.val, .agg #[.string sMeta, .string sTo]] h (RetX (.tuple #[.agg #[.string sTo, vI w], .bool true]) h) := by
  refine V57 _ _ _ _ _ _ _ _ _ _ _ _ _ _ _ _ _ _ _ _ h _ ?_
  rintro b0 h0 rfl rfl b1 h1 rfl rfl b2 h2 rfl rfl
  have x0 : Ext h (h.push (.cells s.cells.toArray 36)) := Ext.push _ _
  have x1 := Ext.push (h.push (.cells s.cells.toArray 36)) (.cells #[.string sMeta, .string sTo] 87)
  have x2 := Ext.push ((h.push (.cells s.cells.toArray 36)).push (.cells #[.string sMeta, .string sTo] 87)) (.cells zF 89)
  have c0 := (x1.trans x2).at (push_last (h := h) (o := .cells s.cells.toArray 36))
  have c1 := x2.at (push_last (h := h.push (.cells s.cells.toArray 36)) (o := .cells #[.string sMeta, .string sTo] 87))
  refine ⟨info89, _, _, _, cellsAt_one (cellH_at c0), fun vs hp => vs = [sl s.bm 1 s.cm] ∧ hp = ((h.push (.cells s.cells.toArray 36)).push (.cells #[.string sMeta, .string sTo] 87)).push (.cells zF 89), ⟨_, cellsAt_one (cellH_at c1), fun hf => (by revert hf; decide), fun _ => ⟨fun _ => ⟨rfl, rfl⟩, fun hf => (by revert hf; decide)⟩⟩, ?_⟩
  rintro p n c h3 ⟨hv, rfl⟩
  cases hv
  refine ⟨_, cellsAt_one (cellH_at c1), (fieldAt_c (((S.ext x0).ext x1).ext x2) _).mono ?_⟩
  rintro en h4 ⟨rfl, x4⟩
  refine ⟨_, rfl, fun _ => ?_, fun hf => (by revert hf; decide)⟩
  obtain ⟨b, o, hp, g0, gn, hc⟩ := ((((S.ext x0).ext x1).ext x2).ext x4).segM.at (i := 0) (by simp)
  refine ⟨b, o, hp, g0, gn, _, _, hc, stoT (n := 2) (((x0.trans x1).trans x2).trans x4) (by simp; omega) (x4.at push_last) rfl zF_size (by simp [Value.oneCell']) fun h5 x5 _ c5 _ => ⟨_, _, cellsAt_all c5, rfl, x5⟩⟩

theorem width_c (S : Sch h w s) : CallsH Tryz.prog 46 #[s.val, .agg #[.string sMeta, .string sTo]] h (RetX (vI w) h) := by
  refine V46 _ _ _ _ _ _ _ _ _ _ _ _ _ _ _ _ _ _ _ _ h _ ?_
  rintro b0 h0 rfl rfl b1 h1 rfl rfl
  have x0 : Ext h (h.push (.cells s.cells.toArray 36)) := Ext.push _ _
  have x1 := Ext.push (h.push (.cells s.cells.toArray 36)) (.cells #[.string sMeta, .string sTo] 87)
  have c0 := x1.at (push_last (h := h) (o := .cells s.cells.toArray 36))
  have c1 := push_last (h := h.push (.cells s.cells.toArray 36)) (o := .cells #[.string sMeta, .string sTo] 87)
  refine ⟨_, _, _, _, _, _, _, _, _, _, _, _, _, _, _, _, _, _, cellsAt_all c0, _, _, cellsAt_all c1, (fieldOf_c ((S.ext x0).ext x1)).mono ?_⟩
  rintro en h2 ⟨rfl, x2⟩
  refine ⟨_, _, _, rfl, ?_⟩
  rintro b3 h3 rfl rfl
  have x3 := Ext.push h2 (.cells zF 89)
  refine ⟨info89, stoT (n := 2) (((x0.trans x1).trans x2).trans x3) ((x0.trans x1).trans x2).size push_last rfl zF_size (by simp [Value.oneCell']) fun h5 x5 _ c5 _ => ?_⟩
  have hw1 := S.w1
  have hw2 := S.w2
  refine ⟨false, ⟨_, cellsAt_one (cellH_at c5), fun hf => ?_, fun _ => ⟨_, cellsAt_one (cellH_at c5), rfl, ?_⟩⟩, fun hf => (by cases hf), fun _ => ⟨_, cellsAt_one (cellH_at c5), rfl, x5⟩⟩
  · have := of_decide_eq_true hf; omega
  · exact (decide_eq_false (by omega)).symm
end
end Go.Vc
