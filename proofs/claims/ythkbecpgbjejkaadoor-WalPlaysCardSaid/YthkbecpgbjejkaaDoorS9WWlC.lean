/- The log is read: a piece is taken. -/
import Derived.Test.YthkbecpgbjejkaaDoorS9WWlB
import Derived.LaidEql
set_option maxRecDepth 10000
namespace Go.Vc
open Go Go.Proofs Go.MapKept

/-! ## What is read -/

structure Rd where
  recs : List ByteArray
  half : List UInt8
  goes : Bool

def Rd.no : Rd := ⟨[], [], false⟩

def takeR (R : Rd) (k : Nat) (t : List UInt8) (e : Bool) : Option Rd :=
  if k < 1 ∨ 4 < k ∨ R.goes ≠ decide (k = 3 ∨ k = 4) then none
  else if ((k = 2 ∨ k = 3) ∧ e = false) ∨ 65536 < R.half.length + t.length then none
  else some (if k = 2 ∨ k = 3 then ⟨R.recs, R.half ++ t, true⟩ else ⟨R.recs ++ [tx (R.half ++ t)], [], false⟩)

def lenP (s : List UInt8) : Nat := 256 * (s.getD 1 0).toNat + (s.getD 2 0).toNat
def kindP (s : List UInt8) : Nat := (s.getD 0 0).toNat
def badP (s : List UInt8) : Bool := decide (s.length ≤ 3 ∨ lenP s = 0 ∨ 488 < lenP s ∨ s.length - 3 < lenP s)
def textP (s : List UInt8) : List UInt8 := (s.drop 3).take (lenP s)
def restP (s : List UInt8) : List UInt8 := s.drop (3 + lenP s)
/-- The pieces of a body, from one of them on. -/
def bodyR : Nat → List UInt8 → Rd → Option Rd
  | 0, _, _ => none
  | k + 1, s, R => if badP s = true then none else match takeR R (kindP s) (textP s) (decide (restP s = [])) with
    | none => none
    | some M => if restP s = [] then some M else bodyR k (restP s) M
def bodyF (s : List UInt8) (R : Rd) : Option Rd := bodyR (s.length + 1) s R

theorem takeR_half {R M : Rd} {k : Nat} {t : List UInt8} {e : Bool} (h : takeR R k t e = some M) : M.half.length ≤ 65536 ∧ M.recs.length ≤ R.recs.length + 1 := by
  unfold takeR at h
  split at h
  · cases h
  · split at h
    · cases h
    · rename_i hn
      cases h
      split
      · exact ⟨by show (R.half ++ t).length ≤ _; rw [List.length_append]; omega, by show R.recs.length ≤ _; omega⟩
      · exact ⟨Nat.zero_le _, by show (R.recs ++ [_]).length ≤ _; simp⟩

theorem restP_lt {s : List UInt8} (h : badP s = false) : (restP s).length + 4 ≤ s.length := by
  have h := of_decide_eq_false h
  unfold restP
  rw [List.length_drop]
  omega

theorem bodyR_len : ∀ (k : Nat) (s : List UInt8) (R M : Rd), bodyR k s R = some M → M.half.length ≤ 65536 ∧ M.recs.length ≤ R.recs.length + s.length := by
  intro k
  induction k with
  | zero => intro s R M h; cases h
  | succ k ih =>
    intro s R M h
    rw [bodyR] at h
    split at h
    · cases h
    · rename_i hb
      have hr := restP_lt (by simpa using hb)
      split at h
      · cases h
      · rename_i M1 h1
        obtain ⟨a1, a2⟩ := takeR_half h1
        split at h
        · cases h; exact ⟨a1, by omega⟩
        · obtain ⟨b1, b2⟩ := ih _ _ _ h
          exact ⟨b1, by omega⟩

/-! ## The errors -/

def errV (a : Addr) : Value := .iface 162 (.pointer (some a))

structure Errs (h : Hp) (a0 a1 : Addr) : Prop where
  e0 : ∃ t, h[0]? = some (.cells #[errV a0] t)
  e1 : ∃ t, h[1]? = some (.cells #[errV a1] t)
  c0 : ∃ cs t, h[a0.block]? = some (.cells cs t)
  c1 : ∃ cs t, h[a1.block]? = some (.cells cs t)

theorem uErr : ∃ ms, Tryd.prog.underlying 98 = some (.interface ms) := by
  have : (match Tryd.prog.underlying 98 with | some (.interface _) => true | _ => false) = true := by kernel_rfl
  split at this
  · rename_i ms h; exact ⟨ms, h⟩
  · cases this
theorem uPErr : Tryd.prog.underlying 162 = some (.pointer 177) := by kernel_rfl
theorem iPErr : ∃ i, Tryd.prog.info? 162 = some i ∧ i.comparable = true := by
  have : (Tryd.prog.info? 162).map (·.comparable) = some true := by kernel_rfl
  obtain ⟨i, h, e⟩ := Option.map_eq_some_iff.1 this
  exact ⟨i, h, e⟩
theorem iESt : ∃ i, Tryd.prog.info? 177 = some i ∧ i.size ≠ 0 := by
  have : (Tryd.prog.info? 177).map (·.size) = some 1 := by kernel_rfl
  obtain ⟨i, h, e⟩ := Option.map_eq_some_iff.1 this
  exact ⟨i, h, by rw [e]; decide⟩

theorem eqh_of {P : Program} {h : Hp} {t : TypeId} {x y : Value} {b : Bool} (k : ∀ d (w : World), w.heap = h → (Op.equalIn (d + 2) t x y).run P w = .ok b w) : EqH P h t x y b := by
  intro w hw
  obtain ⟨d, hd⟩ : ∃ d, Op.maxDepth = d + 2 := ⟨Op.maxDepth - 2, by decide⟩
  unfold Op.equal
  rw [hd]
  exact k d w hw

/-- Two error values, compared. -/
theorem eqh_err {h : Hp} {a b : Addr} (ha : ∃ cs t, h[a.block]? = some (.cells cs t)) (hb : ∃ cs t, h[b.block]? = some (.cells cs t)) : EqH Tryd.prog h 98 (errV a) (errV b) (decide (a = b)) := by
  obtain ⟨ms, hu⟩ := uErr
  obtain ⟨i, h1, h2⟩ := iPErr
  obtain ⟨j, h3, h4⟩ := iESt
  obtain ⟨ca, ta, ha⟩ := ha
  obtain ⟨cb, tb, hb⟩ := hb
  refine eqh_of fun d w hw => ?_
  subst hw
  by_cases e : a = b
  · subst e
    rw [decide_eq_true rfl]
    exact run_equalIn_iface_ptr_same w d a hu uPErr h1 h2 h3
  · rw [decide_eq_false e]
    exact run_equalIn_iface_ptr_other w d hu uPErr h1 h2 h3 h4 e ha hb
theorem eqh_err_nil {h : Hp} {a : Addr} : EqH Tryd.prog h 98 .nilIface (errV a) false := by
  obtain ⟨ms, hu⟩ := uErr
  refine eqh_of fun d w hw => ?_
  rw [Op.equalIn]
  simp only [Sem.run_bind, run_underlying hu, Result.andThen_ok, errV, Sem.run_pure]

section
variable {h h' hs : Hp} {a0 a1 : Addr}
theorem Errs.at0 (E : Errs h a0 a1) : cellsAt h 0 0 [errV a0] := let ⟨_, e⟩ := E.e0; cellsAt_one (cellH_at e)
theorem Errs.at1 (E : Errs h a0 a1) : cellsAt h 1 0 [errV a1] := let ⟨_, e⟩ := E.e1; cellsAt_one (cellH_at e)
theorem Errs.keep (E : Errs h a0 a1) (k : ∀ b (o : Obj), h[b]? = some o → (b = 0 ∨ b = 1 ∨ b = a0.block ∨ b = a1.block) → hs[b]? = some o) : Errs hs a0 a1 := by
  obtain ⟨⟨t0, e0⟩, ⟨t1, e1⟩, ⟨c0, u0, f0⟩, ⟨c1, u1, f1⟩⟩ := E
  exact ⟨⟨t0, k _ _ e0 (.inl rfl)⟩, ⟨t1, k _ _ e1 (.inr (.inl rfl))⟩, ⟨c0, u0, k _ _ f0 (.inr (.inr (.inl rfl)))⟩, ⟨c1, u1, k _ _ f1 (.inr (.inr (.inr rfl)))⟩⟩
theorem Errs.ext (E : Errs h a0 a1) (x : Ext h hs) : Errs hs a0 a1 := E.keep fun b _ e _ => (x.old b (Array.getElem?_eq_some_iff.1 e).1).trans e
end

/-! ## How what was read lies in memory -/

def rdV (R : Rd) (p : Option Addr) (c : Nat) (q : Option Addr) (k : Nat) : List Value := [.slice p R.recs.length c, .slice q R.half.length k, .bool R.goes]

structure RdX (h : Hp) (r : Nat) (R : Rd) (p : Option Addr) (c : Nat) (q : Option Addr) (k : Nat) : Prop where
  cell : h[r]? = some (.cells (rdV R p c q k).toArray 92)
  recs : Own h 0 9 1 (.slice p R.recs.length c) R.recs.length (R.recs.map Value.string)
  half : Own h 0 5 1 (.slice q R.half.length k) R.half.length (byteVs R.half)
  hl : R.half.length ≤ 65536

section
variable {h hs : Hp} {r : Nat} {R M : Rd} {p : Option Addr} {c : Nat} {q : Option Addr} {k : Nat}

theorem RdX.ne1 (W : RdX h r R p c q k) {b : Nat} (hb : (Value.slice p R.recs.length c).ownBlock = some b) : b ≠ r := by
  rintro rfl
  obtain ⟨cur, hc⟩ := W.recs.blk hb
  rw [W.cell] at hc
  cases hc
theorem RdX.ne2 (W : RdX h r R p c q k) {b : Nat} (hb : (Value.slice q R.half.length k).ownBlock = some b) : b ≠ r := by
  rintro rfl
  obtain ⟨cur, hc⟩ := W.half.blk hb
  rw [W.cell] at hc
  cases hc
theorem RdX.ne3 (W : RdX h r R p c q k) {b b' : Nat} (hb : (Value.slice p R.recs.length c).ownBlock = some b) (hb' : (Value.slice q R.half.length k).ownBlock = some b') : b ≠ b' := by
  rintro rfl
  obtain ⟨cur, hc⟩ := W.recs.blk hb
  obtain ⟨cur', hc'⟩ := W.half.blk hb'
  rw [hc] at hc'
  cases hc'
theorem RdX.keep (W : RdX h r R p c q k) (k0 : ∀ b, b = r ∨ (Value.slice p R.recs.length c).ownBlock = some b ∨ (Value.slice q R.half.length k).ownBlock = some b → hs[b]? = h[b]?) : RdX hs r R p c q k :=
  ⟨(k0 r (.inl rfl)).trans W.cell, W.recs.keep fun b hb => k0 b (.inr (.inl hb)), W.half.keep fun b hb => k0 b (.inr (.inr hb)), W.hl⟩
theorem RdX.lt (W : RdX h r R p c q k) : r < h.size := (Array.getElem?_eq_some_iff.1 W.cell).1
theorem RdX.ext (W : RdX h r R p c q k) (x : Ext h hs) : RdX hs r R p c q k := W.keep fun b hb => x.old b (by
  rcases hb with rfl | hb | hb
  · exact W.lt
  · exact (W.recs.lt hb).2
  · exact (W.half.lt hb).2)
theorem RdX.at (W : RdX h r R p c q k) {i : Nat} {v : Value} (hv : (rdV R p c q k)[i]? = some v) : cellsAt h r (0 + i) [v] := by
  refine cellsAt_one (cellH_at W.cell |>.trans ?_)
  rw [Nat.zero_add, ← hv]; simp
theorem RdX.wr (W : RdX h r R p c q k) {i : Nat} (hi : i < 3) : wrAt h r (0 + i) 1 := wrAt_of W.cell (by show 0 + i + 1 ≤ 3; omega) (.inr (.inr (Nat.le_refl _)))

/-- Is a row kept, while another one grows out of it? -/
def Held (h : Hp) (p0 : Option Addr) (n0 c0 : Nat) (xs0 : List Value) (p : Option Addr) (n c : Nat) (xs : List Value) : Prop :=
  (p = p0 ∧ c = c0 ∧ n0 ≤ n ∧ xs.take n0 = xs0 ∧ xs0.length = n0) ∨ (Own h 0 9 1 (.slice p0 n0 c0) n0 xs0 ∧ ∀ b, (Value.slice p0 n0 c0).ownBlock = some b → (Value.slice p n c).ownBlock ≠ some b)

theorem Own.prefix {h : Hp} {base : Nat} {e : TypeId} {p : Option Addr} {n c n0 : Nat} {xs : List Value} (o : Own h base e 1 (.slice p n c) n xs) (hn : n0 ≤ n) : Own h base e 1 (.slice p n0 c) n0 (xs.take n0) := by
  refine ⟨by rw [List.length_take, o.1]; omega, ?_⟩
  rcases o.2 with ⟨hv, h0⟩ | ⟨g, cap, cur, hv, hb, hg, hnc, hcm, hcs, ht⟩
  · cases hv
    exact .inl ⟨by congr 1; omega, by omega⟩
  · cases hv
    refine .inr ⟨g, _, cur, rfl, hb, hg, by omega, hcm, hcs, ?_⟩
    rw [← ht, List.take_take]
    congr 1
    omega

theorem Own.held {n : Nat} {xs : List Value} (o : Own h 0 9 1 (.slice p n c) n xs) : Held h p n c xs p n c xs := .inl ⟨rfl, rfl, Nat.le_refl _, by rw [List.take_of_length_le]; rw [o.1]; omega, by have := o.1; omega⟩

theorem Held.own {p0 : Option Addr} {n0 c0 n : Nat} {xs0 xs : List Value} (H : Held h p0 n0 c0 xs0 p n c xs) (o : Own h 0 9 1 (.slice p n c) n xs) : Own h 0 9 1 (.slice p0 n0 c0) n0 xs0 := by
  rcases H with ⟨rfl, rfl, hn, rfl, _⟩ | ⟨H, _⟩
  · exact o.prefix hn
  · exact H

/-- What of a heap stays makes it stay. -/
theorem Held.keep {p0 : Option Addr} {n0 c0 n : Nat} {xs0 xs : List Value} (H : Held h p0 n0 c0 xs0 p n c xs) (k : ∀ b, (Value.slice p0 n0 c0).ownBlock = some b → (Value.slice p n c).ownBlock ≠ some b → hs[b]? = h[b]?) : Held hs p0 n0 c0 xs0 p n c xs := by
  rcases H with H | ⟨H, N⟩
  · exact .inl H
  · exact .inr ⟨H.keep fun b hb => k b hb (N b hb), N⟩

theorem Own.same_cap {base : Nat} {e : TypeId} {p' : Option Addr} {n n' c' b : Nat} {xs xs' : List Value} (o : Own h base e 1 (.slice p n c) n xs) (o' : Own h base e 1 (.slice p' n' c') n' xs') (hb : (Value.slice p n c).ownBlock = some b) (hb' : (Value.slice p' n' c').ownBlock = some b) : p' = p ∧ c' = c := by
  rcases o.2 with ⟨hv, _⟩ | ⟨g, cap, cur, hv, _, hg, _, _, hcs, _⟩
  · cases hv; cases hb
  rcases o'.2 with ⟨hv', _⟩ | ⟨g', cap', cur', hv', _, hg', _, _, hcs', _⟩
  · cases hv'; cases hb'
  cases hv; cases hv'; cases hb; cases hb'
  rw [hg] at hg'
  cases hg'
  exact ⟨rfl, by omega⟩

/-- A row grows out of another one. -/
theorem Held.push {p0 : Option Addr} {n0 c0 n n' : Nat} {xs0 xs xs' : List Value} {p' : Option Addr} {c' : Nat} (H : Held h p0 n0 c0 xs0 p n c xs) (o' : Own hs 0 9 1 (.slice p' n' c') n' xs') (o : Own hs 0 9 1 (.slice p n c) n xs) (hx : xs <+: xs') (hn : n ≤ n')
    (hlt : ∀ b, (Value.slice p0 n0 c0).ownBlock = some b → b < h.size)
    (g : Grown h hs (Value.slice p n c).ownBlock) (hb : (Value.slice p' n' c').ownBlock = (Value.slice p n c).ownBlock ∨ ∃ b, (Value.slice p' n' c').ownBlock = some b ∧ h.size ≤ b) : Held hs p0 n0 c0 xs0 p' n' c' xs' := by
  have h2 : Own hs 0 9 1 (.slice p0 n0 c0) n0 xs0 := by
    rcases H with ⟨rfl, rfl, hn0, rfl, _⟩ | ⟨H, N⟩
    · exact o.prefix hn0
    · exact H.keep fun b hb0 => g.block b (hlt b hb0) fun e => N b hb0 e.symm
  rcases hb with e | ⟨b, e, hl⟩
  · rcases H with ⟨rfl, rfl, hn0, hx0, hl0⟩ | ⟨H, N⟩
    · cases hob : (Value.slice p n c).ownBlock with
      | none =>
        rw [hob] at e
        exact .inr ⟨h2, fun b hb0 => by
          have : (Value.slice p n0 c).ownBlock = (Value.slice p n c).ownBlock := by cases p <;> rfl
          rw [this, hob] at hb0
          cases hb0⟩
      | some b =>
        obtain ⟨rfl, rfl⟩ := o.same_cap o' hob (e.trans hob)
        refine .inl ⟨rfl, rfl, by omega, ?_, hl0⟩
        obtain ⟨zs, rfl⟩ := hx
        rw [List.take_append_of_le_length (by have := o.1; omega)]
        exact hx0
    · exact .inr ⟨h2, fun b hb0 => by rw [e]; exact N b hb0⟩
  · exact .inr ⟨h2, fun b' hb0 he => by rw [e] at he; cases he; have := hlt b hb0; omega⟩

/-- Which blocks what was read may have. -/
def Into (h : Hp) (p : Option Addr) (n c : Nat) (p' : Option Addr) (n' c' : Nat) : Prop := ∀ b, (Value.slice p' n' c').ownBlock = some b → (Value.slice p n c).ownBlock = some b ∨ h.size ≤ b

theorem takeR_none1 {R : Rd} {k : Nat} {t : List UInt8} {e : Bool} (h : k < 1 ∨ 4 < k ∨ R.goes ≠ decide (k = 3 ∨ k = 4)) : takeR R k t e = none := by unfold takeR; rw [if_pos h]

theorem uBool : Tryd.prog.underlying 4 = some .bool := by kernel_rfl

set_option maxHeartbeats 1000000 in
/-- wal.reading.take -/
theorem take_c {a0 a1 : Addr} (W : RdX h r R p c q k) (E : Errs h a0 a1) (n : UInt8) (t : ByteArray) (e : Bool) (hr : R.recs.length ≤ 1000000000) (ht : t.size ≤ 1000000000)
    (hE : ∀ b, (b = 0 ∨ b = 1 ∨ b = a0.block ∨ b = a1.block) → b ≠ r) :
    CallsH Tryd.prog 72 #[vP r, .agg #[.int .u8 (n.toNat : Int), .string t, .bool e]] h fun en hs =>
      (takeR R n.toNat (bl t) e = none ∧ en = .returned (errV a1) ∧ Same (fun b => b = r) h hs) ∨
      (∃ M p' c' q' k', takeR R n.toNat (bl t) e = some M ∧ en = .returned .nilIface ∧ RdX hs r M p' c' q' k' ∧
        Same (fun b => b = r ∨ (Value.slice p R.recs.length c).ownBlock = some b ∨ (Value.slice q R.half.length k).ownBlock = some b) h hs ∧
        Into h p R.recs.length c p' M.recs.length c' ∧ Into h q R.half.length k q' M.half.length k' ∧
        ∀ p0 n0 c0 xs0, (∀ b, (Value.slice p0 n0 c0).ownBlock = some b → b < h.size ∧ b ≠ r ∧ (Value.slice q R.half.length k).ownBlock ≠ some b) → Held h p0 n0 c0 xs0 p R.recs.length c (R.recs.map Value.string) → Held hs p0 n0 c0 xs0 p' M.recs.length c' (M.recs.map Value.string)) := by
  have hhl := W.hl
  have hn8 := n.toNat_lt
  refine V72 _ _ _ _ h _ ?_
  intro b h1 hb e1
  have x1 : Ext h h1 := by rw [e1]; exact Ext.push _ _
  have c1 : h1[b]? = some (.cells #[.int .u8 (n.toNat : Int), .string t, .bool e] 132) := by rw [e1, hb]; exact push_last
  have hbs : h.size ≤ b := by rw [hb]; exact Nat.le_refl _
  clear e1
  have W1 := W.ext x1
  have E1 := E.ext x1
  have g0 : ∀ {hq : Hp}, hq[b]? = some (.cells #[.int .u8 (n.toNat : Int), .string t, .bool e] 132) → cellsAt hq b (0 + 0) [.int .u8 (n.toNat : Int)] := fun c => cellsAt_one (cellH_at c)
  have g1 : ∀ {hq : Hp}, hq[b]? = some (.cells #[.int .u8 (n.toNat : Int), .string t, .bool e] 132) → cellsAt hq b (0 + 1) [.string t] := fun c => cellsAt_one (cellH_at c)
  have g2 : ∀ {hq : Hp}, hq[b]? = some (.cells #[.int .u8 (n.toNat : Int), .string t, .bool e] 132) → cellsAt hq b (0 + 2) [.bool e] := fun c => cellsAt_one (cellH_at c)
  have hbr : b ≠ r := by have := W.lt; omega
  refine ⟨fun _ hq => hq = h1 ∧ ¬ (n.toNat < 1 ∨ 4 < n.toNat ∨ R.goes ≠ decide (n.toNat = 3 ∨ n.toNat = 4)), ⟨decide (n.toNat < 1 ∨ 4 < n.toNat ∨ R.goes ≠ decide (n.toNat = 3 ∨ n.toNat = 4)), ⟨_, g0 c1, fun hc => ⟨rfl, ?_⟩, fun hc => ⟨_, g0 c1, fun hd => ⟨rfl, ?_⟩, fun hd => ⟨r, 0, rfl, _, W1.at rfl, _, g0 c1, fun he => ⟨_, eqv_bool uBool _ _, rfl, ?_⟩, fun he => ⟨_, g0 c1, _, eqv_bool uBool _ _, rfl, ?_⟩⟩⟩⟩, fun hB => ⟨_, E1.at1, ?_⟩, fun hB => ⟨rfl, of_decide_eq_false hB⟩⟩, ?_⟩
  · have hc := of_decide_eq_true hc
    rw [decide_eq_true (.inl (by omega))]
  · have hd := of_decide_eq_true hd
    rw [decide_eq_true (.inr (.inl (by omega)))]
  · have he := of_decide_eq_true he
    have h3 : n.toNat = 3 := by omega
    rw [h3]
    cases R.goes <;> rfl
  · have hc := of_decide_eq_false hc
    have hd := of_decide_eq_false hd
    have he := of_decide_eq_false he
    have e4 : decide ((n.toNat : Int) = 4) = decide (n.toNat = 3 ∨ n.toNat = 4) := by apply decide_eq_decide.2; omega
    rw [e4]
    have z1 : ¬ n.toNat < 1 := by omega
    have z2 : ¬ 4 < n.toNat := by omega
    generalize decide (n.toNat = 3 ∨ n.toNat = 4) = x
    cases hgo : R.goes <;> cases x <;> simp [z1, z2]
  · exact .inl ⟨takeR_none1 (of_decide_eq_true hB), rfl, x1.same _⟩
  rintro hq ⟨rfl, hok⟩
  have hgo : R.goes = decide (n.toNat = 3 ∨ n.toNat = 4) := Decidable.of_not_not fun h => hok (.inr (.inr h))
  let G := decide (n.toNat = 2 ∨ n.toNat = 3)
  have setG : ∀ {h2 : Hp}, h2 = setsH hq r (0 + 2) [.bool G] → RdX h2 r { R with goes := G } p c q k ∧ Same (fun b => b = r) h h2 ∧ h2[b]? = some (.cells #[.int .u8 (n.toNat : Int), .string t, .bool e] 132) ∧ h2.size = hq.size := by
    rintro h2 rfl
    have kk : ∀ b', b' ≠ r → (setsH hq r (0 + 2) [.bool G])[b']? = hq[b']? := fun b' hb => setsH_ne hb
    refine ⟨⟨?_, W1.recs.keep fun b' hb => kk b' (W1.ne1 hb), W1.half.keep fun b' hb => kk b' (W1.ne2 hb), W.hl⟩, ?_, (kk b hbr).trans c1, setsH_size⟩
    · rw [setsH_at W1.cell]; rfl
    · exact (x1.same _).trans (setsH_same (B := fun x => x = r) rfl) fun _ h _ => h
  refine ⟨fun _ h2 => RdX h2 r { R with goes := G } p c q k ∧ Same (fun b => b = r) h h2 ∧ h2[b]? = some (.cells #[.int .u8 (n.toNat : Int), .string t, .bool e] 132) ∧ h2.size = hq.size, ⟨_, g0 c1, fun h2c => ⟨r, 0, rfl, rfl, W1.wr (by decide), fun h2 e2 => setG ?_⟩, fun h2c => ⟨_, g0 c1, r, 0, rfl, rfl, W1.wr (by decide), fun h2 e2 => setG ?_⟩⟩, ?_⟩
  · have h2c := of_decide_eq_true h2c
    have : G = true := decide_eq_true (.inl (by omega))
    rw [this]; exact e2
  · have h2c := of_decide_eq_false h2c
    have : G = decide ((n.toNat : Int) = 3) := by apply decide_eq_decide.2; omega
    rw [this]; exact e2
  rintro h2 ⟨W2, y2, c2, s2⟩
  have nz : ¬ n.toNat < 1 ∧ ¬ 4 < n.toNat := ⟨fun h => hok (.inl h), fun h => hok (.inr (.inl h))⟩
  have E2 : Errs h2 a0 a1 := E.keep fun b' o e' hb' => (y2.old b' (Array.getElem?_eq_some_iff.1 e').1 (hE b' hb')).trans e'
  have hw : IntKind.i64.wrap ((R.half.length : Int) + (t.size : Int)) = ((R.half.length + t.size : Nat) : Int) := by rw [wrapI64] <;> omega
  have eT : takeR R n.toNat (bl t) e = if ((n.toNat = 2 ∨ n.toNat = 3) ∧ e = false) ∨ 65536 < R.half.length + t.size then none else some (if n.toNat = 2 ∨ n.toNat = 3 then ⟨R.recs, R.half ++ bl t, true⟩ else ⟨R.recs ++ [tx (R.half ++ bl t)], [], false⟩) := by
    unfold takeR; rw [if_neg hok, bl_length]
  refine ⟨fun _ h3 => h3 = h2 ∧ ¬ (((n.toNat = 2 ∨ n.toNat = 3) ∧ e = false) ∨ 65536 < R.half.length + t.size), ⟨decide (((n.toNat = 2 ∨ n.toNat = 3) ∧ e = false) ∨ 65536 < R.half.length + t.size), ⟨r, 0, rfl, G, W2.at rfl, fun hg => ⟨_, g2 c2, fun he => ⟨rfl, ?_⟩, fun he => ⟨r, 0, rfl, _, _, _, W2.at rfl, _, g1 c2, _, hw, rfl, ?_⟩⟩, fun hg => ⟨r, 0, rfl, _, _, _, W2.at rfl, _, g1 c2, _, hw, rfl, ?_⟩⟩, fun hB => ⟨_, E2.at1, ?_⟩, fun hB => ⟨rfl, of_decide_eq_false hB⟩⟩, ?_⟩
  · have hg : n.toNat = 2 ∨ n.toNat = 3 := of_decide_eq_true hg
    rw [decide_eq_true (.inl ⟨hg, by simpa using he⟩)]
  · have he : e = true := by simpa using he
    apply decide_eq_decide.2
    rw [he]
    constructor
    · rintro (⟨_, h⟩ | h)
      · cases h
      · omega
    · intro h; exact .inr (by omega)
  · have hg : ¬ (n.toNat = 2 ∨ n.toNat = 3) := of_decide_eq_false hg
    apply decide_eq_decide.2
    constructor
    · rintro (⟨h, _⟩ | h)
      · exact (hg h).elim
      · omega
    · intro h; exact .inr (by omega)
  · have hB := of_decide_eq_true hB
    exact .inl ⟨by rw [eT, if_pos hB], rfl, y2⟩
  rintro h3 ⟨rfl, hfit⟩
  rw [if_neg hfit] at eT
  have hle : R.half.length + t.size ≤ 65536 := by omega
  have sz0 : 0 ≤ Array.size h3 := Nat.zero_le _
  refine ⟨r, 0, rfl, q, R.half.length, k, W2.at rfl, _, g1 c2, ?_⟩
  refine semH_appendStr rowB uStr zeroB W2.half (by show R.half.length + t.size ≤ maxLen; simp only [maxLen]; omega) (by show R.half.length + t.size ≤ _; omega) sz0 fun q4 k4 h4 o4 gr4 _ b4 => ?_
  have o4 : Own h4 0 5 1 (.slice q4 (R.half.length + t.size) k4) (R.half.length + t.size) (byteVs R.half ++ byteVs (bl t)) := o4
  rw [← byteVs_append] at o4
  have gr4 : Grown h3 h4 (Value.slice q R.half.length k).ownBlock := gr4
  have b4 : (Value.slice q4 (R.half.length + t.size) k4).ownBlock = (Value.slice q R.half.length k).ownBlock ∨ ∃ b, (Value.slice q4 (R.half.length + t.size) k4).ownBlock = some b ∧ h3.size ≤ b := b4
  have k4' : ∀ b', b' < h3.size → (Value.slice q R.half.length k).ownBlock ≠ some b' → h4[b']? = h3[b']? := fun b' hb hn => gr4.block b' hb fun e => hn e.symm
  have cl4 : h4[r]? = some (.cells (rdV { R with goes := G } p c q k).toArray 92) := (k4' r W2.lt fun e => W2.ne2 e rfl).trans W2.cell
  refine ⟨r, 0, rfl, rfl, wrAt_of cl4 (by show 0 + 1 + 1 ≤ 3; omega) (.inr (.inr (Nat.le_refl _))), ?_⟩
  intro h5 e5
  have l5 : (R.half ++ bl t).length = R.half.length + t.size := by rw [List.length_append, bl_length]
  have hq4r : ∀ b', (Value.slice q4 (R.half.length + t.size) k4).ownBlock = some b' → b' ≠ r := by
    rintro b' hb rfl
    obtain ⟨cur, hc⟩ := o4.blk hb
    rw [cl4] at hc
    cases hc
  have k5 : ∀ b', b' ≠ r → h5[b']? = h4[b']? := fun b' hb => by rw [e5]; exact setsH_ne hb
  have s5 : h5.size = h4.size := by rw [e5]; exact setsH_size
  have hs34 := gr4.size
  have hs2 := y2.size
  have W5 : RdX h5 r ⟨R.recs, R.half ++ bl t, G⟩ p c q4 k4 := by
    refine ⟨?_, ?_, ?_, by show (R.half ++ bl t).length ≤ _; omega⟩
    · rw [e5, setsH_at cl4]
      show _ = some (Obj.cells (rdV ⟨R.recs, R.half ++ bl t, G⟩ p c q4 k4).toArray _)
      unfold rdV
      rw [l5]
      rfl
    · refine W2.recs.keep fun b' hb => (k5 b' (W2.ne1 hb)).trans (k4' b' (W2.recs.lt hb).2 fun e => W2.ne3 hb e rfl)
    · show Own h5 0 5 1 (.slice q4 (R.half ++ bl t).length k4) (R.half ++ bl t).length _
      rw [l5]
      exact o4.keep fun b' hb => k5 b' (hq4r b' hb)
  have y5 : Same (fun b => b = r ∨ (Value.slice q R.half.length k).ownBlock = some b) h h5 := by
    refine ⟨by omega, fun b' hb hn => ?_⟩
    have n1 : b' ≠ r := fun e => hn (.inl e)
    exact (k5 b' n1).trans ((k4' b' (by omega) fun e => hn (.inr e)).trans (y2.old b' hb n1))
  have iq : Into h q R.half.length k q4 (R.half.length + t.size) k4 := fun b' hb => by
    rcases b4 with e | ⟨b'', e, hl⟩
    · rw [e] at hb; exact .inl hb
    · rw [e] at hb; cases hb; exact .inr (by omega)
  have hold : ∀ p0 n0 c0 xs0, (∀ b, (Value.slice p0 n0 c0).ownBlock = some b → b < h.size ∧ b ≠ r ∧ (Value.slice q R.half.length k).ownBlock ≠ some b) → Held h p0 n0 c0 xs0 p R.recs.length c (R.recs.map Value.string) → Held h5 p0 n0 c0 xs0 p R.recs.length c (R.recs.map Value.string) := fun p0 n0 c0 xs0 hb0 H =>
    H.keep fun b' hb _ => y5.old b' (hb0 b' hb).1 fun ee => ee.elim (hb0 b' hb).2.1 (hb0 b' hb).2.2
  refine ⟨r, 0, rfl, G, W5.at rfl, fun hg => ?_, fun hg => ?_⟩
  rotate_left
  · have hG : G = true := by simpa using hg
    have hg : n.toNat = 2 ∨ n.toNat = 3 := of_decide_eq_true hG
    rw [if_pos hg] at eT
    refine .inr ⟨_, p, c, q4, k4, eT, rfl, hG ▸ W5, y5.more fun b' hb _ => hb.imp id .inr, fun b' hb => .inl hb, ?_, fun p0 n0 c0 xs0 hb0 H => hold p0 n0 c0 xs0 hb0 H⟩
    show Into h q R.half.length k q4 (R.half ++ bl t).length k4
    rw [l5]; exact iq
  · have hG : G = false := by simpa using hg
    have hg : ¬ (n.toNat = 2 ∨ n.toNat = 3) := of_decide_eq_false hG
    rw [if_neg hg] at eT
    refine ⟨fun hq => hq[r]? = some (.cells (rdV ⟨R.recs, R.half ++ bl t, G⟩ p c q4 k4).toArray 92), W5.cell, r, 0, rfl, p, R.recs.length, c, fun hq cc => cellsAt_one (cellH_at cc), r, 0, rfl, _, _, _, W5.at rfl, ?_⟩
    refine semH_toText (t := tx (R.half ++ bl t)) uBs uB uStr (by show Seg _ _ _ (byteVs (bl (tx (R.half ++ bl t)))); rw [bl_tx]; exact W5.half.seg) ⟨_, rfl, W5.cell, ?_⟩
    have sz5 : 0 ≤ Array.size h5 := Nat.zero_le _
    refine semH_pushK rowS W5.recs (vs := [.string (tx (R.half ++ bl t))]) (m := 1) rfl rfl (by simp) (by simp) (by simp [Value.oneCell']) (by show ((R.recs.length + 1) + (R.recs.length + 1) / 4 + 192) * 16 ≤ _; omega) (by show R.recs.length + 1 ≤ maxLen; simp only [maxLen]; omega) sz5 (fun hq x => (x.old r W5.lt).trans W5.cell) (fun hq g => (g.block r W5.lt fun e => W5.ne1 e.symm rfl).trans W5.cell) fun p6 c6 h6 o6 gr6 ok6 b6 => ?_
    have o6 : Own h6 0 9 1 (.slice p6 (R.recs.length + 1) c6) (R.recs.length + 1) (R.recs.map Value.string ++ [.string (tx (R.half ++ bl t))]) := o6
    have cl6 : h6[r]? = some (.cells (rdV ⟨R.recs, R.half ++ bl t, G⟩ p c q4 k4).toArray 92) := (gr6.block r W5.lt fun e => W5.ne1 e.symm rfl).trans W5.cell
    refine ⟨r, 0, rfl, rfl, wrAt_of cl6 (by show 0 + 0 + 1 ≤ 3; omega) (.inr (.inr (Nat.le_refl _))), ?_⟩
    intro h7 e7
    have c7 : h7[r]? = some (.cells #[.slice p6 (R.recs.length + 1) c6, .slice q4 (R.half ++ bl t).length k4, .bool G] 92) := by rw [e7, setsH_at cl6]; rfl
    refine ⟨r, 0, rfl, rfl, wrAt_of c7 (by show 0 + 1 + 1 ≤ 3; omega) (.inr (.inr (Nat.le_refl _))), ?_⟩
    intro h8 e8
    have c8 : h8[r]? = some (.cells #[.slice p6 (R.recs.length + 1) c6, .slice none 0 0, .bool G] 92) := by rw [e8, setsH_at c7]; rfl
    have k8 : ∀ b', b' ≠ r → h8[b']? = h6[b']? := fun b' hb => by rw [e8, setsH_ne hb, e7, setsH_ne hb]
    have s8 : h8.size = h6.size := by rw [e8, setsH_size, e7, setsH_size]
    have hp6r : ∀ b', (Value.slice p6 (R.recs.length + 1) c6).ownBlock = some b' → b' ≠ r := by
      rintro b' hb rfl
      obtain ⟨cur, hc⟩ := o6.blk hb
      rw [cl6] at hc
      cases hc
    have l8 : (R.recs ++ [tx (R.half ++ bl t)]).length = R.recs.length + 1 := by simp
    have gs6 := gr6.size
    have W8 : RdX h8 r ⟨R.recs ++ [tx (R.half ++ bl t)], [], false⟩ p6 c6 none 0 := by
      refine ⟨?_, ?_, Own.nil _ _ _ _, Nat.zero_le _⟩
      · rw [c8, hG]
        show _ = some (Obj.cells (rdV ⟨R.recs ++ [tx (R.half ++ bl t)], [], false⟩ p6 c6 none 0).toArray _)
        unfold rdV
        rw [l8]
        rfl
      · show Own h8 0 9 1 (.slice p6 (R.recs ++ [tx (R.half ++ bl t)]).length c6) (R.recs ++ [tx (R.half ++ bl t)]).length _
        rw [l8, List.map_append]
        exact o6.keep fun b' hb => k8 b' (hp6r b' hb)
    refine .inr ⟨_, p6, c6, none, 0, eT, rfl, W8, ?_, ?_, fun b' hb => (by cases hb), ?_⟩
    · refine ⟨by omega, fun b' hb hn => ?_⟩
      have n1 : b' ≠ r := fun e => hn (.inl e)
      refine (k8 b' n1).trans ((gr6.block b' (by omega) fun e => hn (.inr (.inl e.symm))).trans (y5.old b' hb ?_))
      rintro (e | e)
      · exact n1 e
      · exact hn (.inr (.inr e))
    · intro b' hb
      have hb : (Value.slice p6 (R.recs ++ [tx (R.half ++ bl t)]).length c6).ownBlock = some b' := hb
      rw [l8] at hb
      rcases b6 with e | ⟨b'', e, hl⟩
      · left
        rw [← e]; exact hb
      · have e : (Value.slice p6 (R.recs.length + 1) c6).ownBlock = some b'' := e
        rw [e] at hb; cases hb; exact .inr (by omega)
    · intro p0 n0 c0 xs0 hb0 H
      have H5 := hold p0 n0 c0 xs0 hb0 H
      have H6 : Held h6 p0 n0 c0 xs0 p6 (R.recs.length + 1) c6 (R.recs.map Value.string ++ [.string (tx (R.half ++ bl t))]) :=
        H5.push o6 ok6 (List.prefix_append _ _) (by omega) (fun b' hb => by have := (hb0 b' hb).1; omega) gr6 b6
      show Held h8 p0 n0 c0 xs0 p6 (R.recs ++ [tx (R.half ++ bl t)]).length c6 _
      rw [l8, List.map_append]
      exact H6.keep fun b' hb _ => k8 b' (hb0 b' hb).2.1

end
end Go.Vc
