/- Contracts of the sums' functions: Spread, Slots, live, Sum; lent texts. -/
import Derived.Test.YtmjbccjelnhhiaaDoorS2A
import Derived.Test.YtmjbccjelnhhiaaDoorS2P
import Derived.Test.YtmjbccjelnhhiaaDoorVcH
set_option maxRecDepth 10000
namespace Go.Vc
open Go Go.Proofs Go.MapKept

def spreadL (sd : W32) (l : List UInt8) : W32 := l.foldl (fun n c => (n ^^^ c.toBitVec.setWidth 32) * 16777619#32) (2166136261#32 ^^^ sd)
def spread (sd : W32) (l : List UInt8) : W32 :=
  ((spreadL sd l ^^^ (spreadL sd l >>> 16)) * 2246822507#32) ^^^ (((spreadL sd l ^^^ (spreadL sd l >>> 16)) * 2246822507#32) >>> 13)

theorem spreadL_snoc (sd : W32) (l : List UInt8) (c : UInt8) : spreadL sd (l ++ [c]) = (spreadL sd l ^^^ c.toBitVec.setWidth 32) * 16777619#32 := by
  unfold spreadL; rw [List.foldl_append]; rfl

theorem div_shift (r : W32) (k : Nat) (d : W32) (hd : d.toNat = 2 ^ k) : r / d = r >>> k := by
  apply BitVec.eq_of_toNat_eq
  rw [BitVec.toNat_udiv, BitVec.toNat_ushiftRight, Nat.shiftRight_eq_div_pow, hd]

/-- sums.Spread -/
theorem spread_13 (sd : W32) (b : ByteArray) (hb : b.size ≤ maxLen) (h : Hp) : CallsH Tryd.prog 13 #[vW sd, .string b] h (Ret (vW (spread sd (bl b))) h) := by
  have hb' : b.size ≤ 9223372036854775807 := hb
  refine V13 _ b h _ ⟨_, xor32 2166136261#32 sd, fun l hp => hp = h ∧ ∃ i : Nat, i ≤ b.size ∧ l = [vW (spreadL sd ((bl b).take i)), .int .i64 i], fun l _ => (b.size - numAt l 1).toNat, ⟨rfl, 0, Nat.zero_le _, rfl⟩, ?_⟩
  rintro r1 x hp ⟨rfl, i, hi, hl⟩
  cases hl
  refine ⟨fun hc => ?_, fun hc => ?_⟩
  · have hc : i < b.size := by simpa using hc
    refine ⟨by omega, _, byteAt hc, _, byte32 _, _, xor32 _ _, _, mul32 _ 16777619#32, _, incI (by omega), ⟨rfl, i + 1, hc, ?_⟩, ?_⟩
    · rw [take_byte hc, spreadL_snoc]
    · simp only [numAt]; omega
  · have hc : i = b.size := by simp at hc; omega
    subst hc
    refine ⟨by decide, _, shr32 _ 16 (by decide), _, xor32 _ _, _, mul32 _ 2246822507#32, by decide, _, shr32 _ 13 (by decide), _, xor32 _ _, ?_, rfl⟩
    rw [take_size]; rfl

/-- turnoutref02.Spread -/
theorem spread_14 (sd : W32) (b : ByteArray) (hb : b.size ≤ maxLen) (h : Hp) : CallsH Tryd.prog 14 #[vW sd, .string b] h (Ret (vW (spread sd (bl b))) h) := by
  have hb' : b.size ≤ 9223372036854775807 := hb
  refine V14 _ b h _ ⟨_, xor32 2166136261#32 sd, fun l hp => hp = h ∧ ∃ i : Nat, i ≤ b.size ∧ l = [vW (spreadL sd ((bl b).take i)), .int .i64 i], fun l _ => (b.size - numAt l 1).toNat, ⟨rfl, 0, Nat.zero_le _, rfl⟩, ?_⟩
  rintro r1 x hp ⟨rfl, i, hi, hl⟩
  cases hl
  refine ⟨fun hc => ?_, fun hc => ?_⟩
  · have hc : i < b.size := by simpa using hc
    refine ⟨by omega, _, byteAt hc, _, byte32 _, _, xor32 _ _, _, mul32 _ 16777619#32, _, incI (by omega), ⟨rfl, i + 1, hc, ?_⟩, ?_⟩
    · rw [take_byte hc, spreadL_snoc]
    · simp only [numAt]; omega
  · have hc : i = b.size := by simp at hc; omega
    subst hc
    refine ⟨by decide, _, div32 _ 65536#32, _, xor32 _ _, _, mul32 _ 2246822507#32, by decide, _, div32 _ 8192#32, _, xor32 _ _, ?_, rfl⟩
    rw [take_size, div_shift _ 16 65536#32 rfl, div_shift _ 13 8192#32 rfl]; rfl

theorem row26 : RowT Tryd.prog 26 3 1 8 := RowT.of (by kernel_rfl)
theorem row23 : RowT Tryd.prog 23 9 1 16 := RowT.of (by kernel_rfl)
theorem map58 : MapT Tryd.prog 58 9 3 .string (.int .i64 0) := ⟨by kernel_rfl, by kernel_rfl, by kernel_rfl⟩
theorem map59 : MapT Tryd.prog 59 3 3 (.int .i64) (.int .i64 0) := ⟨by kernel_rfl, by kernel_rfl, by kernel_rfl⟩

abbrev vI (n : Nat) : Value := .int .i64 (n : Int)

theorem Own.mono {h : Hp} {base base' : Nat} {e : TypeId} {size : Nat} {v : Value} {n : Nat} {xs : List Value} (o : Own h base e size v n xs) (hb : base' ≤ base) : Own h base' e size v n xs := by
  refine ⟨o.1, ?_⟩
  rcases o.2 with hn | ⟨b, cap, cur, h1, h2, hr⟩
  · exact .inl hn
  · exact .inr ⟨b, cap, cur, h1, Nat.le_trans hb h2, hr⟩

/-- What Slots answers. -/
def SlotsRes (base : Nat) (f : ByteArray → Nat) (most : Int) (l : List ByteArray) (e : Ending) (h' : Hp) : Prop :=
  ∃ (p : Option Addr) (n c : Nat) (code : Int), e = .returned (.tuple #[.slice p n c, .int .i64 code]) ∧
    ((most < 1 ∧ code = 1 ∧ p = none ∧ n = 0 ∧ c = 0) ∨ (1 ≤ most ∧ slotsF f most.toNat l = none ∧ code = 120 ∧ p = none ∧ n = 0 ∧ c = 0) ∨
      (1 ≤ most ∧ ∃ kn out, slotsF f most.toNat l = some (kn, out) ∧ code = 0 ∧ Own h' base 3 1 (.slice p n c) n (out.map vI)))

theorem spread_mod (x : W32) {most : Int} (h1 : 1 ≤ most) (h2 : most ≤ 9223372036854775807) : Int.tmod (x.toNat : Int) most = ((x.toNat % most.toNat : Nat) : Int) := by
  obtain ⟨m, rfl⟩ := Int.eq_ofNat_of_zero_le (show 0 ≤ most by omega)
  rw [← Int.ofNat_tmod]; rfl

theorem next_mod {a m : Nat} {most : Int} (hm : most = m) : Int.tmod ((a + 1 : Nat) : Int) most = (((a + 1) % m : Nat) : Int) := by
  rw [hm, ← Int.ofNat_tmod]

/-- The state of a loop over texts: 'i' of them have their slots. -/
def SlInv (f : ByteArray → Nat) (m : Nat) (l : List ByteArray) (r1 r2 base : Nat) (h : Hp) (i : Nat) (p : Option Addr) (n c : Nat) (hp : Hp) : Prop :=
  ∃ (kn : Known) (out : List Nat) (tk : List (Value × Value)), slotsF f m (l.take i) = some (kn, out) ∧ Own hp base 3 1 (.slice p n c) n (out.map vI) ∧
    MapAt hp r1 (kn.map fun x => (.string x.1, vI x.2)) ∧ MapAt hp r2 tk ∧ tk.map (·.1) = kn.map (fun x => vI x.2) ∧ (∀ x ∈ tk, ∃ z : Int, x.2 = .int .i64 z ∧ 0 < z) ∧ Ext h hp ∧ base ≤ hp.size

theorem take_one {α : Type} {l : List α} {i : Nat} (hc : i < l.length) : l.take (i + 1) = l.take i ++ [l[i]] := by
  rw [List.take_add_one, List.getElem?_eq_getElem hc]; rfl

theorem Grown.ne {h h' : Hp} {row : Option Nat} (g : Grown h h' row) {k : Nat} (hk : k < h.size) (hne : ∀ q, row = some q → q ≠ k) : h'[k]? = h[k]? :=
  g.block k hk fun e => hne k e.symm rfl

theorem sl_push {f : ByteArray → Nat} {m : Nat} {l : List ByteArray} {r1 r2 base : Nat} {h hp : Hp} {i a : Nat} {p : Option Addr} {n c : Nat} {kn : Known} {out : List Nat} {tk : List (Value × Value)}
    (hr1 : r1 < base) (hr2 : r2 < base) (hb : h.size ≤ base) (hn : n ≤ 1099511627776) (hst : slotsF f m (l.take (i + 1)) = some (kn, out ++ [a])) (hown : Own hp base 3 1 (.slice p n c) n (out.map vI))
    (hm1 : MapAt hp r1 (kn.map fun x => (.string x.1, vI x.2))) (hm2 : MapAt hp r2 tk) (htk : tk.map (·.1) = kn.map (fun x => vI x.2)) (htp : ∀ x ∈ tk, ∃ z : Int, x.2 = .int .i64 z ∧ 0 < z) (hx : Ext h hp) (hsz : base ≤ hp.size)
    {K : Option Addr → Nat → Nat → Hp → Prop} (hK : ∀ p' n' c' h', SlInv f m l r1 r2 base h (i + 1) p' n' c' h' → K p' n' c' h') :
    SemH Tryd.prog (Instr.buildSlice 26 1 #[(0, vI a)]) hp fun v_ h1 => ∃ (p1_ : Option Addr) (n1_ c1_ : Nat), v_ = (Value.slice p1_ n1_ c1_) ∧
      SemH Tryd.prog (Builtin.append_ #[26, 26] 26 #[.slice p n c, .slice p1_ n1_ c1_]) h1 fun v_1 h2 => ∃ (p2 : Option Addr) (n2 c2 : Nat), v_1 = (Value.slice p2 n2 c2) ∧ K p2 n2 c2 h2 := by
  refine semH_push row26 hown (vs := [vI a]) (m := 1) rfl rfl (by simp) (by simp) (by simp [Value.oneCell']) (by omega) (by simp only [maxLen]; omega) hsz fun p' c' h' ho hg _ _ => hK _ _ _ _ ?_
  have hlow : ∀ q, (Value.slice p n c).ownBlock = some q → base ≤ q := fun q hq => (hown.lt hq).1
  refine ⟨kn, out ++ [a], tk, hst, by simpa using ho, hm1.congr (hg.ne (by omega) fun q hq => ?_), hm2.congr (hg.ne (by omega) fun q hq => ?_), htk, htp, hx.own hown hb hg, Nat.le_trans hsz hg.size⟩
  · have := hlow q hq; omega
  · have := hlow q hq; omega

theorem step_mod' {m : Nat} (a : Nat) : (a % m + 1) % m = (a + 1) % m := by
  rw [Nat.add_mod, Nat.mod_mod, ← Nat.add_mod]

theorem gap_eq {s m k j : Nat} (hs : s < m) (hj : j ≤ k) (hk : k < m) : (s + k + m - (s + j) % m) % m = k - j := by
  rcases Nat.lt_or_ge (s + j) m with h | h
  · rw [Nat.mod_eq_of_lt h, show s + k + m - (s + j) = (k - j) + m by omega, Nat.add_mod_right, Nat.mod_eq_of_lt (by omega)]
  · rw [Nat.mod_eq_sub_mod h, Nat.mod_eq_of_lt (show s + j - m < m by omega), show s + k + m - (s + j - m) = (k - j) + m + m by omega, Nat.add_mod_right, Nat.add_mod_right, Nat.mod_eq_of_lt (by omega)]

/-- How far it is yet. -/
def gapM (s m k : Nat) (a : Int) : Nat := (s + k + m - a.toNat) % m

theorem gapM_lt {s m k j : Nat} (hs : s < m) (hj : j < k) (hk : k < m) : gapM s m k ((((s + j) % m + 1) % m : Nat) : Int) < gapM s m k (((s + j) % m : Nat) : Int) := by
  unfold gapM
  rw [Int.toNat_natCast, Int.toNat_natCast, step_mod', gap_eq hs (Nat.le_of_lt hj) hk, show s + j + 1 = s + (j + 1) by omega, gap_eq hs hj hk]
  omega

theorem inj_mod {s m k j : Nat} (hs : s < m) (hk : k < m) (hj : j ≤ k) (h : (s + j) % m = (s + k) % m) : j = k := by
  have h1 := gap_eq hs hj hk
  have h2 := gap_eq hs (Nat.le_refl k) hk
  rw [h] at h1
  omega

/-- sums.Slots -/
theorem slots_17 (sd : W32) (most : Int) (hmax : most ≤ 9223372036854775807) (l : List ByteArray) (hl : ∀ b ∈ l, b.size ≤ maxLen) (hn : l.length ≤ 1099511627776) (h : Hp) {p : Option Addr} {n c : Nat} (hs : Seg h p n (l.map Value.string)) :
    CallsH Tryd.prog 17 #[vW sd, .int .i64 most, .slice p n c] h fun e h' => Ext h h' ∧ SlotsRes h.size (fun s => (spread sd (bl s)).toNat) most l e h' := by
  refine V17 _ _ _ _ _ h _ ⟨fun hc => ⟨Ext.refl h, none, 0, 0, 1, rfl, .inl ⟨by simpa using hc, rfl, rfl, rfl, rfl⟩⟩, fun hc => ?_⟩
  have h1 : 1 ≤ most := by simp at hc; omega
  clear hc
  have hln : l.length = n := by have := hs.1; simpa using this
  obtain ⟨m, hm⟩ := Int.eq_ofNat_of_zero_le (show 0 ≤ most by omega)
  have hmt : most.toNat = m := by omega
  have hm0 : 0 < m := by omega
  intro r1 hp1 hr1 hh1 r2 hp2 hr2 hh2
  have hx1 : Ext h hp2 := by subst hh2; subst hh1; exact (Ext.push _ _).trans (Ext.push _ _)
  have hM1 : MapAt hp2 r1 [] := by subst hh2; subst hh1; subst hr1; exact (MapAt.new h).ext (Ext.push _ _)
  have hM2 : MapAt hp2 r2 [] := by subst hh2; subst hr2; exact MapAt.new _
  have hr12 : r1 = h.size ∧ r2 = h.size + 1 ∧ hp2.size = h.size + 2 := by subst hr1; subst hr2; subst hh2; subst hh1; simp
  clear hh1 hh2
  refine ⟨fun l' hp => ∃ (i : Nat) (p' : Option Addr) (n' c' : Nat), i ≤ l.length ∧ l' = [.slice p' n' c', .int .i64 i] ∧ SlInv (fun s => (spread sd (bl s)).toNat) m l r1 r2 (h.size + 2) h i p' n' c' hp,
    fun l' _ => (l.length - numAt l' 1).toNat, ⟨0, none, 0, 0, Nat.zero_le _, rfl, [], [], [], rfl, Own.nil _ _ _ _, hM1, hM2, rfl, by simp, hx1, by omega⟩, ?_⟩
  rintro p1 n1 c1 x hp ⟨i, p', n', c', hi, hl', kn, out, tk, hst, hown, hm1, hm2, htk, htp, hx, hsz⟩
  cases hl'
  have ok := slots_ok _ m hm0 _ _ _ hst
  have hol : n1 = i := by have := hown.len.2.1; have h2 := ok.len; simp at this h2; omega
  refine ⟨fun hc => ?_, fun hc => ?_⟩
  · have hc : i < l.length := by simp at hc; omega
    have htake := take_one hc
    refine (hs.ext hx).text hc ?_
    have hkeys : ∀ x ∈ kn.map (fun x => ((Value.string x.1 : Value), vI x.2)), IsKey .string x.1 := by
      intro x hx
      obtain ⟨y, _, rfl⟩ := List.mem_map.1 hx
      exact trivial
    have hkeys2 : ∀ x ∈ tk, IsKey (.int .i64) x.1 := by
      intro x hx
      have : x.1 ∈ tk.map (·.1) := List.mem_map.2 ⟨x, hx, rfl⟩
      rw [htk] at this
      obtain ⟨y, _, hy⟩ := List.mem_map.1 this
      rw [← hy]; rfl
    refine semH_lookup map58 hm1 hkeys (by exact trivial) (fun hno => ⟨_, _, rfl, fun _ => ?_, fun hf => by cases hf⟩) (fun v j hj => ?_)
    · -- a text that is new
      have hfn : kn.find l[i] = none := by
        cases hf : kn.find l[i] with
        | none => rfl
        | some a => exact (hno _ (List.mem_map.2 ⟨_, find_some hf, rfl⟩) rfl).elim
      have hno' : ∀ x ∈ kn.map (fun x => ((Value.string x.1 : Value), vI x.2)), x.1 ≠ Value.string l[i] := hno
      have hlen : tk.length = kn.length := by have := congrArg List.length htk; simpa using this
      refine semH_lenMap map59 hm2 ⟨_, rfl, fun hfull => ?_, fun hfree => ?_⟩
      · have hfull : m ≤ kn.length := by simp at hfull; omega
        refine ⟨hx, none, 0, 0, 120, rfl, .inr (.inl ⟨h1, ?_, rfl, rfl, rfl, rfl⟩)⟩
        rw [hmt]
        refine slots_take_none (i := i + 1) ?_
        rw [htake, slotsF_snoc, hst]
        simp only [slotStep, hfn, if_pos hfull]
      · have hfree : kn.length < m := by simp at hfree; omega
        refine (spread_13 sd l[i] (hl _ (List.getElem_mem hc)) hp).mono ?_
        rintro e hp5 ⟨rfl, rfl⟩
        generalize hF : (spread sd (bl l[i])).toNat = F
        have hFlt : F < 4294967296 := by rw [← hF]; exact (spread sd (bl l[i])).isLt
        have hmlt : F % m < m := Nat.mod_lt _ hm0
        refine ⟨_, rfl, _, rfl, _, rfl, ?_⟩
        rw [hF]
        have e1 : IntKind.u64.wrap (F : Int) = F := by rw [wrapU64]; omega
        have e2 : IntKind.u64.wrap most = most := by rw [wrapU64]; omega
        rw [e1, e2]
        refine ⟨by omega, ((F % m : Nat) : Int), by rw [hm, ← Int.ofNat_tmod], _, wrapI64 (by omega) (by omega), ?_⟩
        obtain ⟨k0, hk0, hpl, hnin, hin⟩ := place_spec (T := kn.map (·.2)) hmlt (by simpa using hfree)
        refine ⟨fun l' hp => hp = hp5 ∧ ∃ j, j ≤ k0 ∧ l' = [vI ((F % m + j) % m)], fun l' _ => gapM (F % m) m k0 (numAt l' 0), ⟨rfl, 0, Nat.zero_le _, by rw [Nat.add_zero, Nat.mod_eq_of_lt hmlt]⟩, ?_⟩
        rintro at_ hp6 ⟨rfl, j, hj, hl'⟩
        cases hl'
        have hkin : ∀ a : Nat, a ∈ kn.map (·.2) ↔ ∃ x ∈ tk, x.1 = vI a := by
          intro a
          constructor
          · intro ha
            have : vI a ∈ tk.map (·.1) := by
              rw [htk]
              obtain ⟨y, hy, rfl⟩ := List.mem_map.1 ha
              exact List.mem_map.2 ⟨y, hy, rfl⟩
            obtain ⟨x, hx, hxe⟩ := List.mem_map.1 this
            exact ⟨x, hx, hxe⟩
          · rintro ⟨x, hx, hxe⟩
            have : x.1 ∈ tk.map (·.1) := List.mem_map.2 ⟨x, hx, rfl⟩
            rw [htk, hxe] at this
            obtain ⟨y, hy, hye⟩ := List.mem_map.1 this
            have hya : y.2 = a := by
              have := (Value.int.inj hye).2
              omega
            exact List.mem_map.2 ⟨y, hy, hya⟩
        refine semH_lookup map59 hm2 hkeys2 (by rfl) (fun hno => ⟨_, rfl, fun hpos => by simp at hpos, fun _ => ?_⟩) (fun v q hq => ?_)
        · -- it is free
          have hjk : j = k0 := by
            rcases Nat.lt_or_ge j k0 with hlt | hge
            · obtain ⟨x, hx, hxe⟩ := (hkin _).1 (hin j hlt)
              exact (hno x hx hxe).elim
            · omega
          subst hjk
          refine semH_mapNew map58 hm1 hkeys (by exact trivial) hno' fun h8 hm8 hs8 ho8 => ?_
          have ha : place (kn.map (·.2)) m (F % m) = (F % m + j) % m := hpl
          have hb : (F % m + j) % m < m := Nat.mod_lt _ hm0
          refine ⟨_, incI (by omega), ?_⟩
          have hlow : ∀ q, (Value.slice p1 n1 c1).ownBlock = some q → h.size + 2 ≤ q ∧ q < hp6.size := fun q hq => hown.lt hq
          have hm28 : MapAt h8 r2 tk := hm2.congr (ho8 r2 (by omega))
          have hx8 : Ext h h8 := ⟨by rw [hs8]; exact hx.size, fun b hb => (ho8 b (by omega)).trans (hx.old b hb)⟩
          have hno2 : ∀ x ∈ tk, x.1 ≠ vI ((F % m + j) % m) := fun x hx he => hnin ((hkin _).2 ⟨x, hx, he⟩)
          refine semH_mapNew map59 hm28 hkeys2 (by rfl) hno2 fun h9 hm9 hs9 ho9 => ?_
          have hx9 : Ext h h9 := ⟨by rw [hs9]; exact hx8.size, fun b hb => (ho9 b (by omega)).trans (hx8.old b hb)⟩
          have hown9 : Own h9 (h.size + 2) 3 1 (.slice p1 n1 c1) n1 (out.map vI) := by
            refine ⟨hown.1, ?_⟩
            rcases hown.2 with hn | ⟨b, cap, cur, h1, h2, h3, hr⟩
            · exact .inl hn
            · refine .inr ⟨b, cap, cur, h1, h2, ?_, hr⟩
              show h9[b]? = _
              rw [ho9 b (by omega), ho8 b (by omega)]; exact h3
          refine sl_push (f := fun s => (spread sd (bl s)).toNat) (m := m) (l := l) (r1 := r1) (r2 := r2) (base := h.size + 2) (h := h) (i := i) (a := (F % m + j) % m) (out := out)
            (kn := kn ++ [(l[i], (F % m + j) % m)]) (tk := tk ++ [(vI ((F % m + j) % m), .int .i64 ((i + 1 : Nat) : Int))]) (by omega) (by omega) (by omega) (by omega) ?_ hown9 ?_ hm9 ?_ ?_ hx9 (by omega) fun p' n' c' h' hinv => ⟨_, incI (by omega), ⟨i + 1, _, _, _, hc, rfl, hinv⟩, by simp only [numAt]; omega⟩
          · rw [htake, slotsF_snoc, hst]
            simp only [slotStep, hfn, if_neg (Nat.not_le.2 hfree), hF, ha]
          · rw [List.map_append]
            exact (hm8.congr (ho9 r1 (by omega)))
          · rw [List.map_append, List.map_append, htk]; rfl
          · intro x hx
            rcases List.mem_append.1 hx with hx | hx
            · exact htp x hx
            · simp at hx; subst hx; exact ⟨_, rfl, by omega⟩
        · obtain ⟨z, hz, hzp⟩ := htp _ (List.mem_of_getElem? hq)
          refine ⟨z, hz, fun _ => ?_, fun hnp => by simp at hnp; omega⟩
          have hjk : j ≠ k0 := by
            rintro rfl
            exact hnin ((hkin _).2 ⟨_, List.mem_of_getElem? hq, rfl⟩)
          have hb : (F % m + j) % m < m := Nat.mod_lt _ hm0
          refine ⟨_, incI (by omega), by omega, _, next_mod hm, ⟨rfl, j + 1, by omega, ?_⟩, ?_⟩
          · rw [step_mod' (F % m + j), Nat.add_assoc]
          · exact gapM_lt hmlt (by omega) hk0
    · obtain ⟨y, hy, hye⟩ := List.mem_map.1 (List.mem_of_getElem? hj)
      have hy1 : y.1 = l[i] := Value.string.inj (congrArg Prod.fst hye)
      have hy2 : vI y.2 = v := congrArg Prod.snd hye
      subst hy2
      have hfn : kn.find l[i] = some y.2 := find_of_mem ok.nodupK (by rw [← hy1]; exact hy)
      refine ⟨_, _, rfl, fun hf => (by cases hf), fun _ => ?_⟩
      refine sl_push (f := fun s => (spread sd (bl s)).toNat) (m := m) (l := l) (r1 := r1) (r2 := r2) (base := h.size + 2) (h := h) (i := i) (a := y.2) (out := out) (kn := kn) (tk := tk) (by omega) (by omega) (by omega) (by omega) ?_ hown hm1 hm2 htk htp hx (by omega)
        fun p' n' c' h' hinv => ⟨_, incI (by omega), ⟨i + 1, _, _, _, hc, rfl, hinv⟩, by simp only [numAt]; omega⟩
      rw [htake, slotsF_snoc, hst]
      simp only [slotStep, hfn]
  · have hc : i = l.length := by simp at hc; omega
    subst hc
    rw [List.take_length] at hst
    refine ⟨hx, p1, n1, c1, 0, rfl, .inr (.inr ⟨h1, kn, out, by rw [hmt]; exact hst, rfl, hown.mono (by omega)⟩)⟩

/-- The sum of parts. -/
def sumB (l : List ByteArray) : W32 := ~~~ (l.foldl (fun r b => takesB r (bl b)) (BitVec.allOnes 32))

theorem sumB_more (l : List ByteArray) (b : ByteArray) : sumB (l ++ [b]) = moreB (sumB l) (bl b) := by
  unfold sumB moreB
  rw [List.foldl_append, BitVec.not_not]; rfl

/-- sums.Sum -/
theorem sum_20 (l : List ByteArray) (hl : ∀ b ∈ l, b.size ≤ maxLen) (h : Hp) (hh : Halves h) {p : Option Addr} {n c : Nat} (hs : Seg h p n (l.map Value.string)) (hn : n ≤ maxLen) :
    CallsH Tryd.prog 20 #[.slice p n c] h (Ret (vW (sumB l)) h) := by
  have hln : l.length = n := by have := hs.1; simpa using this
  have hn' : n ≤ 9223372036854775807 := hn
  refine V20 _ _ _ h _ ⟨fun l' hp => hp = h ∧ ∃ i : Nat, i ≤ l.length ∧ l' = [vW ((l.take i).foldl (fun r b => takesB r (bl b)) (BitVec.allOnes 32)), .int .i64 i], fun l' _ => (l.length - numAt l' 1).toNat, ⟨rfl, 0, Nat.zero_le _, rfl⟩, ?_⟩
  rintro r1 x hp ⟨rfl, i, hi, hl'⟩
  cases hl'
  refine ⟨fun hc => ?_, fun hc => ?_⟩
  · have hc : i < l.length := by simp at hc; omega
    refine hs.text hc ?_
    refine (takes_33 _ _ (hl _ (List.getElem_mem hc)) _ hh).mono ?_
    rintro e h1 ⟨rfl, rfl⟩
    refine ⟨_, rfl, _, incI (by omega), ⟨rfl, i + 1, hc, ?_⟩, by simp only [numAt]; omega⟩
    rw [take_one hc, List.foldl_append]; rfl
  · have hc : i = l.length := by simp at hc; omega
    subst hc
    refine ⟨_, not32 _, ?_, rfl⟩
    rw [List.take_length]; rfl

theorem live_parts : sumB [⟨#[49, 50, 51, 52]⟩, ⟨#[]⟩, ⟨#[53, 54, 55, 56, 57]⟩] = 3421780262#32 := by decide +kernel

/-- turnoutlaw02.live -/
theorem live_12 (h : Hp) (hh : Halves h) : CallsH Tryd.prog 12 #[] h (RetX (.bool true) h) := by
  refine V12 h _ (semH_build row23 (vs := [.string ⟨#[49, 50, 51, 52]⟩, .string ⟨#[]⟩, .string ⟨#[53, 54, 55, 56, 57]⟩]) rfl rfl (by simp) (by simp) (by simp [Value.oneCell']) ⟨_, _, _, rfl, ?_⟩)
  generalize hh1 : h.push _ = h1
  have hx1 : Ext h h1 := by rw [← hh1]; exact Ext.push _ _
  have hs1 : Seg h1 (some ⟨h.size, 0, none⟩) 3 ([(⟨#[49, 50, 51, 52]⟩ : ByteArray), ⟨#[]⟩, ⟨#[53, 54, 55, 56, 57]⟩].map Value.string) :=
    ⟨rfl, .inr ⟨_, _, rfl, by rw [← hh1]; exact cellsAt_all push_last⟩⟩
  refine (sum_20 _ (by intro b hb; simp at hb; rcases hb with rfl | rfl | rfl <;> decide) h1 (hh.ext hx1) hs1 (by decide)).mono ?_
  rintro e h2 ⟨rfl, rfl⟩
  rw [live_parts]
  refine ⟨_, rfl, semH_build row23 (vs := [.string ⟨#[97]⟩]) rfl rfl (by simp) (by simp) (by simp [Value.oneCell']) ⟨_, _, _, rfl, ?_⟩⟩
  generalize hh3 : h2.push _ = h3
  have hx3 : Ext h2 h3 := by rw [← hh3]; exact Ext.push _ _
  have hs3 : Seg h3 (some ⟨h2.size, 0, none⟩) 1 ([(⟨#[97]⟩ : ByteArray)].map Value.string) :=
    ⟨rfl, .inr ⟨_, _, rfl, by rw [← hh3]; exact cellsAt_all push_last⟩⟩
  refine (slots_17 0#32 1 (by decide) [⟨#[97]⟩] (by intro b hb; simp at hb; subst hb; decide) (by simp) h3 hs3).mono ?_
  rintro e h4 ⟨hx4, p, n, c, code, rfl, hres⟩
  have hF : ∀ f : ByteArray → Nat, slotsF f 1 [⟨#[97]⟩] = some ([(⟨#[97]⟩, 0)], [0]) := by
    intro f
    have : place [] 1 (f ⟨#[97]⟩ % 1) = 0 := by rw [Nat.mod_one]; rfl
    simp [slotsF, slotStep, Known.find, this]
  rcases hres with ⟨h1', _⟩ | ⟨_, hno, _⟩ | ⟨_, kn, out, hsome, rfl, hown⟩
  · omega
  · rw [show (1 : Int).toNat = 1 from rfl, hF] at hno; cases hno
  · rw [show (1 : Int).toNat = 1 from rfl, hF] at hsome
    cases hsome
    have hn1 : n = 1 := by have := hown.len.2.1; simp at this; omega
    subst hn1
    refine ⟨_, _, _, _, rfl, true, ⟨fun _ => ⟨fun _ => ⟨fun _ => ?_, fun hf => by simp at hf⟩, fun hf => by simp at hf⟩, fun hf => by simp at hf⟩, rfl, hx1.trans (hx3.trans hx4)⟩
    have := (show Seg h4 p 1 ([(0 : Int)].map (Value.int .i64)) from hown.seg).num (i := 0) (by simp) (K := fun x => h4 = h4 ∧ true = decide (x = 0)) ⟨rfl, by simp⟩
    exact this

end Go.Vc
