/- TopLongest: Lookup. -/
import Derived.Test.YtamhpfdcnfgngaaGreatTnI
set_option maxRecDepth 10000
namespace Go.Vc
open Go Go.Proofs Go.MapKept

theorem small_hi {w : Nat} {x : B128} (hw : w ≤ 64) (hv : x &&& onesB w = x) : (hiW x).toNat = 0 := by
  have h1 : hiW x = hiW x &&& hiW (onesB w) := by rw [← hi_and, hv]
  have h2 := (ones_lo ⟨w, by omega⟩ hw).1
  have h3 : hiW (onesB w) = 0 := BitVec.eq_of_toNat_eq h2
  rw [h1, h3]
  simp
theorem get_out {w : Nat} {x : B128} (hw : w ≤ 128) (hv : x &&& onesB w = x) {i : Nat} (hi : w ≤ i) : x.getLsbD i = false := by
  rw [← hv, BitVec.getLsbD_and, ones_get hw]
  simp; intro _; omega
theorem small_lo {w : Nat} {x : B128} (hw : w ≤ 64) (hv : x &&& onesB w = x) : (loW x >>> w).toNat = 0 := by
  have : loW x >>> w = 0 := by
    apply BitVec.eq_of_getLsbD_eq
    intro i hi
    rw [BitVec.getLsbD_ushiftRight, lo_get, get_out (by omega) hv (by omega)]
    simp
  rw [this]; rfl
theorem big_hi {w : Nat} {x : B128} (hw : 64 ≤ w) (hw2 : w ≤ 128) (hv : x &&& onesB w = x) : (hiW x >>> (w - 64)).toNat = 0 := by
  have : hiW x >>> (w - 64) = 0 := by
    apply BitVec.eq_of_getLsbD_eq
    intro i hi
    rw [BitVec.getLsbD_ushiftRight, hi_get, get_out hw2 hv (by omega)]
    simp
  rw [this]; rfl

section
variable {h : Hp} {w : Nat} {X : TB}

theorem cloned1_c (a : ByteArray) {b c : Nat} {y : BitVec 64} (hc : cellsAt h b 0 [.int .u64 0, vW y]) : CallsH Tryz.prog 15 #[.agg #[.string a, sl b 1 c]] h fun e h' => ∃ b' c', Ext h h' ∧ cellsAt h' b' 0 [.int .u64 0, vW y] ∧ e = .returned (.agg #[.string a, sl b' 1 c']) := by
  refine V15 _ _ _ _ h _ ?_
  rintro b0 h0 rfl rfl b1 h1 hb1 hh1
  refine ⟨info48, ?_⟩
  have x1 : Ext h h1 := by rw [hh1]; exact (Ext.push _ _).box _
  have c0 : h1[h.size]? = some (.cells #[.string a, sl b 1 c] 48) := by rw [hh1]; exact (Ext.push _ _).at push_last
  have c1 : h1[b1]? = some (.cells (zeros Tryz.prog 48) 48) := by rw [hh1, hb1]; exact push_last
  have n1 : b1 = h.size + 1 := by rw [hb1]; simp
  clear hh1 hb1
  refine ⟨fun q => Ext h1 q, Ext.refl _, _, fun q xq => cellsAt_one (cellH_at (xq.at c0)), _, _, _, cellsAt_one (cellH_at c0), (cln44_c (x1.cells hc) rfl (by decide) (by decide) (by simp [Value.oneCell'])).mono ?_⟩
  rintro en h2 ⟨b', c', g2, x2, o2, rfl⟩
  have hb1 := (Array.getElem?_eq_some_iff.1 c1).1
  exact ⟨_, _, _, rfl, x2, stoT (n := 2) (x1.trans x2) (by omega) (x2.at c1) rfl z48_size (by simp [Value.oneCell']) fun q xq zq cq kq => ⟨_, _, _, _, cellsAt_all cq, b', c', xq, cells_off kq o2.cellsA (by omega), rfl⟩⟩

theorem Lookup_c {Z : Nat → Prop} {m : Bool → Nat} {E : Bool → Nat → B128 → BitVec 64 → Prop} (D : SetIs h w X Z m E) (k : Bool) {kb kc : Nat} {x : B128} (hx : cellsAt h kb 0 (bitsL x)) (hv : x &&& onesB w = x) :
    CallsH Tryz.prog 11 #[vP X.t, .string (nm k), sl kb 1 kc] h fun e h' => Ext h h' ∧
      ((e = .returned (.tuple #[.agg #[.string (nm k), .bool false, nilS, vI 0, .string ⟨#[]⟩, nilS, .string sNone, nilS], vZ 0]) ∧ ∀ n y, ¬ E k n (x &&& msk w n) y) ∨
       (∃ n y mp mc ab ac ab2 ac2, e = .returned (.tuple #[.agg #[.string (nm k), .bool true, sl mp 1 mc, vI (cond k (n + 1) 0), .string sOut, sl ab 1 ac, .string sOut, sl ab2 1 ac2], vZ 0]) ∧ n ≤ w ∧ cellsAt h' mp 0 (mcells k w n (x &&& msk w n)) ∧ cellsAt h' ab2 0 [.int .u64 0, vW y] ∧
        E k n (x &&& msk w n) y ∧ ∀ n' y', E k n' (x &&& msk w n') y' → n' ≤ n)) := by
  obtain ⟨N, gv, gs, d, _, _, hE⟩ := D
  have hw2 := d.S.w2
  refine V11 _ _ _ _ _ h _ ?_
  rintro b0 h0 rfl hh0
  refine ⟨info59, ?_⟩
  have x0 : Ext h h0 := by rw [hh0]; exact Ext.push _ _
  have c0 : h0[h.size]? = some (.cells (zeros Tryz.prog 59) 59) := by rw [hh0]; exact push_last
  clear hh0
  refine ⟨false, eqv_ptr (e := 69) (by kernel_rfl) _, (fun hf => by cases hf), fun _ => (table_of_c (d.ext x0) k).mono ?_⟩
  rintro en h1 ⟨rfl, x1⟩
  have d1 := (d.ext x0).ext x1
  have hw1 := (d1.one k).wd
  have hx1 := (x0.trans x1).cells hx
  refine ⟨_, rfl, false, eqv_ptr (e := 80) (by kernel_rfl) _, (fun hf => by cases hf), fun _ => ⟨_, 0, rfl, _, _, _, cellsAt_one (cellH_at (d1.one k).blk), fun hf => absurd hf (by decide), fun _ => ?_⟩⟩
  refine ⟨_, 0, rfl, _, _, _, cellsAt_one (cellH_at (d1.one k).blk), cntI 1 fun _ q => q = h1, cntM 1, cnt_0 rfl, ?_⟩
  rintro y q ⟨i, hi, hvs, rfl⟩
  cases hvs
  refine ⟨fun hlt => ?_, fun hge => ?_⟩
  · have hin := cnt_lt hlt
    obtain rfl : i = 0 := by omega
    have chi : cellsAt q kb ((0 + Int.toNat (0 : Int) * 2) + 0) [vW (hiW x)] := ⟨hx1.1, trivial⟩
    have clo : cellsAt q kb ((0 + Int.toNat (0 : Int) * 2) + 1) [vW (loW x)] := ⟨hx1.2.1, trivial⟩
    refine ⟨(X.o k).bw, 0, rfl, by decide, by decide, _, hw1, false, ⟨fun hlt => ?_, fun hge => ?_⟩, (fun hf => by cases hf), fun _ => cnt_next (n := 1) (i := 0) (by decide) (by decide) rfl⟩
    · have hlt : w < 64 := by have := of_decide_eq_true hlt; omega
      refine ⟨kb, 0, rfl, by decide, by decide, _, chi, fun hne => ?_, fun _ => ⟨kb, 0, rfl, by decide, by decide, _, clo, by omega, _, shr64 _ w (by omega), fun hne => ?_, fun _ => ⟨fun h64 => ?_, fun _ => ⟨rfl, rfl⟩⟩⟩⟩
      · have := of_decide_eq_true hne
        rw [small_hi (by omega) hv] at this
        exact absurd rfl this
      · have := of_decide_eq_true hne
        rw [small_lo (by omega) hv] at this
        exact absurd rfl this
      · have := of_decide_eq_true h64; omega
    · have hge : 64 ≤ w := by have := of_decide_eq_false hge; omega
      refine ⟨fun _ => ⟨fun _ => ⟨kb, 0, rfl, by decide, by decide, _, chi, ((w - 64 : Nat) : Int), ?_, by omega, _, shr64 _ (w - 64) (by omega), rfl, ?_⟩, fun _ => ⟨rfl, rfl⟩⟩, fun hf => ?_⟩
      · rw [IntKind.wrap_i64]; omega
      · rw [big_hi hge hw2 hv]; rfl
      · have := of_decide_eq_false hf; omega
  obtain rfl := cnt_ge hi hge
  rintro b8 h3 rfl rfl
  have x3 := Ext.push q (.cells (zeros Tryz.prog 59) 59)
  refine ⟨info59, stoT (n := 8) x3 (Nat.le_refl _) push_last rfl z59_size (by simp [Value.oneCell']) fun h4 x4 z4 c4 k4 => ?_⟩
  have d4 := d1.ext x4
  have x04 := (x0.trans x1).trans x4
  have hb8 : h.size < q.size := by have := (Array.getElem?_eq_some_iff.1 (x1.at c0)).1; omega
  refine ⟨_, 0, rfl, _, cellsAt_one (cellH_at (d4.one k).blk), 83, _, 150, rfl, findM, by kernel_rfl, (Find_c (d4.lst k) (d4.good k).1 (d4.good k).2 (x04.cells hx) hv).mono ?_⟩
  rintro en h5 ⟨x5, hcase⟩
  have c5 := x5.at c4
  have c05 := (x1.trans (x4.trans x5)).at c0
  have x05 := x04.trans x5
  have d5 := d4.ext x5
  rcases hcase with ⟨rfl, hno⟩ | ⟨n, y, mp, mc, ab, ac, rfl, hn, hm5, ha5, hent, hmax⟩
  · refine ⟨_, _, _, _, _, _, _, _, _, rfl, rfl, (by simp [Value.oneCell']), wrAt_of c5 (by simp) (.inl (Nat.zero_le _)), ?_⟩
    intro h6 hh6
    have k6 : ∀ b, b ≠ q.size → h6[b]? = h5[b]? := fun b hb => by rw [hh6]; exact setsH_ne hb
    have c6 : h6[q.size]? = some (.cells #[.string (nm k), .bool false, nilS, vI 0, .string ⟨#[]⟩, nilS, .string ⟨#[]⟩, nilS] 59) := by rw [hh6]; exact setsH_at c5
    have x6 : Ext h h6 := by rw [hh6]; exact x05.sets (by omega) _
    clear hh6
    refine ⟨rfl, wrAt_of c6 (by simp) (.inl (Nat.zero_le _)), ?_⟩
    intro h7 hh7
    have k7 : ∀ b, b ≠ q.size → h7[b]? = h6[b]? := fun b hb => by rw [hh7]; exact setsH_ne hb
    have c7 : h7[q.size]? = some (.cells #[.string (nm k), .bool false, nilS, vI 0, .string ⟨#[]⟩, nilS, .string ⟨#[]⟩, nilS] 59) := by rw [hh7]; exact setsH_at c6
    have x7 : Ext h h7 := by rw [hh7]; exact x6.sets (by omega) _
    clear hh7
    have k57 : ∀ b, b ≠ q.size → h7[b]? = h5[b]? := fun b hb => (k7 b hb).trans (k6 b hb)
    have t8 : Tag h5 q.size 59 := ⟨_, c5⟩
    have o7 := (k57 _ ((show Tag h5 (X.o k).bo 80 from ⟨_, (d5.one k).blk⟩).ne t8 (by decide))).trans (d5.one k).blk
    refine ⟨_, 0, rfl, _, _, _, _, bits_of o7 rfl rfl, (cloned0_c sNone).mono ?_⟩
    rintro en h8 ⟨rfl, x8⟩
    have c8 := x8.at c7
    refine ⟨_, _, _, _, rfl, rfl, (by simp [Value.oneCell']), wrAt_of c8 (by simp) (.inl (Nat.zero_le _)), ?_⟩
    intro h9 hh9
    have k9 : ∀ b, b ≠ q.size → h9[b]? = h8[b]? := fun b hb => by rw [hh9]; exact setsH_ne hb
    have c9 : h9[q.size]? = some (.cells #[.string (nm k), .bool false, nilS, vI 0, .string ⟨#[]⟩, nilS, .string sNone, nilS] 59) := by rw [hh9]; exact setsH_at c8
    have x9 : Ext h h9 := by rw [hh9]; exact (x7.trans x8).sets (by omega) _
    clear hh9
    have c09 : h9[h.size]? = some (.cells (zeros Tryz.prog 59) 59) := (k9 _ (by omega)).trans (x8.at ((k57 _ (by omega)).trans c05))
    refine ⟨_, cellsAt_one (cellH_at c9), (fun hf => by cases hf), fun _ => ⟨_, _, _, _, _, _, _, _, _, _, _, _, _, _, cellsAt_all c9, stoT (n := 8) x9 (Nat.le_refl _) c09 rfl z59_size (by simp [Value.oneCell']) fun r xr zr cr kr => ⟨_, _, _, _, _, _, _, _, _, _, _, _, _, _, cellsAt_all cr, xr, .inl ⟨rfl, fun n y hy => hno n y ((hE k n _ y).2 hy)⟩⟩⟩⟩
  · refine ⟨_, _, _, _, _, _, _, _, _, rfl, rfl, (by simp [Value.oneCell']), wrAt_of c5 (by simp) (.inl (Nat.zero_le _)), ?_⟩
    intro h6 hh6
    have k6 : ∀ b, b ≠ q.size → h6[b]? = h5[b]? := fun b hb => by rw [hh6]; exact setsH_ne hb
    have c6 : h6[q.size]? = some (.cells #[.string (nm k), .bool false, sl mp 1 mc, vI (cond k (n + 1) 0), .string sOut, sl ab 1 ac, .string ⟨#[]⟩, nilS] 59) := by rw [hh6]; exact setsH_at c5
    have x6 : Ext h h6 := by rw [hh6]; exact x05.sets (by omega) _
    clear hh6
    refine ⟨rfl, wrAt_of c6 (by simp) (.inl (Nat.zero_le _)), ?_⟩
    intro h7 hh7
    have k7 : ∀ b, b ≠ q.size → h7[b]? = h6[b]? := fun b hb => by rw [hh7]; exact setsH_ne hb
    have c7 : h7[q.size]? = some (.cells #[.string (nm k), .bool true, sl mp 1 mc, vI (cond k (n + 1) 0), .string sOut, sl ab 1 ac, .string ⟨#[]⟩, nilS] 59) := by rw [hh7]; exact setsH_at c6
    have x7 : Ext h h7 := by rw [hh7]; exact x6.sets (by omega) _
    clear hh7
    have k57 : ∀ b, b ≠ q.size → h7[b]? = h5[b]? := fun b hb => (k7 b hb).trans (k6 b hb)
    have t8 : Tag h5 q.size 59 := ⟨_, c5⟩
    have o7 := (k57 _ ((show Tag h5 (X.o k).bo 80 from ⟨_, (d5.one k).blk⟩).ne t8 (by decide))).trans (d5.one k).blk
    have hstr : ∀ {b : Nat} {u : Value} {r : List Value}, cellsAt h5 b 0 (u :: r) → (∀ s, u ≠ .string s) → b ≠ q.size := fun {b u r} hc hu e => by
      have := hc.1
      rw [e, cellH_at c5] at this
      exact hu _ (Option.some.inj this).symm
    have m7 := cells_off k57 hm5 (hstr hm5 (fun s e => by cases e))
    have a7 := cells_off k57 ha5 (hstr ha5 (fun s e => by cases e))
    refine ⟨_, 0, rfl, _, _, _, _, bits_of o7 rfl rfl, (cloned0_c sNone).mono ?_⟩
    rintro en h8 ⟨rfl, x8⟩
    have c8 := x8.at c7
    refine ⟨_, _, _, _, rfl, rfl, (by simp [Value.oneCell']), wrAt_of c8 (by simp) (.inl (Nat.zero_le _)), ?_⟩
    intro h9 hh9
    have k9 : ∀ b, b ≠ q.size → h9[b]? = h8[b]? := fun b hb => by rw [hh9]; exact setsH_ne hb
    have c9 : h9[q.size]? = some (.cells #[.string (nm k), .bool true, sl mp 1 mc, vI (cond k (n + 1) 0), .string sOut, sl ab 1 ac, .string sNone, nilS] 59) := by rw [hh9]; exact setsH_at c8
    have x9 : Ext h h9 := by rw [hh9]; exact (x7.trans x8).sets (by omega) _
    clear hh9
    have hmq : mp ≠ q.size := hstr hm5 (fun s e => by cases e)
    have haq : ab ≠ q.size := hstr ha5 (fun s e => by cases e)
    have m9 := cells_off k9 (x8.cells m7) hmq
    have a9 := cells_off k9 (x8.cells a7) haq
    have c09 : h9[h.size]? = some (.cells (zeros Tryz.prog 59) 59) := (k9 _ (by omega)).trans (x8.at ((k57 _ (by omega)).trans c05))
    refine ⟨_, cellsAt_one (cellH_at c9), fun _ => ⟨_, _, _, _, bits_of c9 rfl rfl, (cloned1_c sOut a9).mono ?_⟩, (fun hf => by cases hf)⟩
    rintro en h10 ⟨ab2, ac2, x10, a10, rfl⟩
    have c10 := x10.at c9
    refine ⟨_, _, _, _, rfl, rfl, (by simp [Value.oneCell']), wrAt_of c10 (by simp) (.inl (Nat.zero_le _)), ?_⟩
    intro h11 hh11
    have k11 : ∀ b, b ≠ q.size → h11[b]? = h10[b]? := fun b hb => by rw [hh11]; exact setsH_ne hb
    have c11 : h11[q.size]? = some (.cells #[.string (nm k), .bool true, sl mp 1 mc, vI (cond k (n + 1) 0), .string sOut, sl ab 1 ac, .string sOut, sl ab2 1 ac2] 59) := by rw [hh11]; exact setsH_at c10
    have x11 : Ext h h11 := by rw [hh11]; exact (x9.trans x10).sets (by omega) _
    clear hh11
    have ha2q : ab2 ≠ q.size := fun e => by
      have := a10.1
      rw [e, cellH_at c10] at this
      cases this
    have m11 := cells_off k11 (x10.cells m9) hmq
    have a11 := cells_off k11 a10 ha2q
    have c011 : h11[h.size]? = some (.cells (zeros Tryz.prog 59) 59) := (k11 _ (by omega)).trans (x10.at c09)
    have s0 : (zeros Tryz.prog 59)[0]? = some (.string ⟨#[]⟩) := by kernel_rfl
    have hne0 : ∀ {b : Nat} {u : Value} {r : List Value}, cellsAt h11 b 0 (u :: r) → (∀ s, u ≠ .string s) → b ≠ h.size := fun {b u r} hc hu e => by
      have := hc.1
      rw [e, cellH_at c011, s0] at this
      exact hu _ (Option.some.inj this).symm
    refine ⟨_, _, _, _, _, _, _, _, _, _, _, _, _, _, cellsAt_all c11, stoT (n := 8) x11 (Nat.le_refl _) c011 rfl z59_size (by simp [Value.oneCell']) fun r xr zr cr kr => ⟨_, _, _, _, _, _, _, _, _, _, _, _, _, _, cellsAt_all cr, xr, .inr ⟨n, y, mp, mc, ab, ac, ab2, ac2, rfl, hn, cells_off kr m11 (hne0 m11 (fun s e => by cases e)), cells_off kr a11 (hne0 a11 (fun s e => by cases e)), (hE k n _ y).1 hent, fun n' y' hy => hmax n' y' ((hE k n' _ y').2 hy)⟩⟩⟩
end
end Go.Vc
