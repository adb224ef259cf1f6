/- The log's laws: what all share; the first example; a nil log. -/
import Derived.Test.YthkbecpgbjejkaaDoorS9WWlQ
set_option maxRecDepth 10000
namespace Go.Vc
open Go Go.Proofs Go.MapKept

/-- turnoutlaw19.long, of any number -/
def longW (n : Nat) (w : Int) : ByteArray := tx ((List.range n).map fun i => UInt8.ofNat (IntKind.i64.wrap (w + ((i / 7 : Nat) : Int)) % 256).toNat)

theorem longW_c (n : Nat) (w : Int) (hn : n ≤ 4194304) (h : Hp) : CallsH Tryd.prog 23 #[vI n, vZ w] h fun e h' => Ext h h' ∧ e = .returned (.string (longW n w)) := by
  refine V23 _ _ h _ (semH_make rowB zerosB (l := n) (c := n) (Nat.le_refl _) (by omega) (by simp only [maxLen]; omega) ⟨_, _, _, rfl, ?_⟩)
  have x1 : Ext h (h.push (.cells (Array.replicate n (.int .u8 0)) 5)) := Ext.push _ _
  have o1 : Own (h.push (.cells (Array.replicate n (.int .u8 0)) 5)) h.size 5 1 (.slice (some ⟨h.size, 0, none⟩) n n) n (List.replicate n (.int .u8 0)) := own_made (z := .int .u8 0) (l := n) (Nat.le_refl _) (by simp only [maxLen]; omega) (Nat.le_refl _)
  generalize h.push (.cells (Array.replicate n (.int .u8 0)) 5) = h1 at x1 o1
  let C : Nat → UInt8 := fun i => UInt8.ofNat (IntKind.i64.wrap (w + ((i / 7 : Nat) : Int)) % 256).toNat
  refine ⟨fun l hr => ∃ i : Nat, l = [vI i] ∧ i ≤ n ∧ Ext h hr ∧ Own hr h.size 5 1 (.slice (some ⟨h.size, 0, none⟩) n n) n ((List.range n).map fun j => if j < i then vB (C j) else .int .u8 0), fun l _ => (n - numAt l 0).toNat,
    ⟨0, rfl, Nat.zero_le _, x1, ?_⟩, ?_⟩
  · have : (List.range n).map (fun j => if j < 0 then vB (C j) else Value.int .u8 0) = List.replicate n (.int .u8 0) := by
      apply List.ext_getElem?
      intro j
      by_cases hj : j < n
      · simp [hj]
      · simp [hj]
    rw [this]; exact o1
  rintro x hr ⟨i, hl, hi, xr, o⟩
  cases hl
  refine ⟨fun hlt => ?_, fun hlt => ?_⟩
  · have hlt : i < n := by have := of_decide_eq_true hlt; omega
    have hdiv : Int.tdiv (i : Int) 7 = ((i / 7 : Nat) : Int) := (Int.ofNat_tdiv i 7).symm
    have hu : IntKind.u8.wrap (IntKind.i64.wrap (w + ((i / 7 : Nat) : Int))) = ((C i).toNat : Int) := by
      show _ = ((UInt8.ofNat _).toNat : Int)
      rw [wrapU8, u8_nat]
      generalize IntKind.i64.wrap (w + ((i / 7 : Nat) : Int)) = z
      omega
    refine ⟨by decide, ((i / 7 : Nat) : Int), by rw [hdiv]; exact wrapI64 (by omega) (by omega), _, rfl, _, hu, ?_⟩
    refine o.store hlt rfl fun h2 o2 g2 _ => ?_
    refine ⟨_, incI (by omega), ⟨i + 1, rfl, hlt, xr.grown g2 fun k hk => (o.lt hk).1, ?_⟩, by simp only [numAt]; omega⟩
    have : ((List.range n).map fun j => if j < i then vB (C j) else Value.int .u8 0).set i (Value.int .u8 ((C i).toNat : Int)) = (List.range n).map fun j => if j < i + 1 then vB (C j) else Value.int .u8 0 := by
      apply List.ext_getElem?
      intro j
      rw [List.getElem?_set]
      by_cases hj : j < n
      · by_cases hij : i = j
        · subst hij
          simp [hj]
        · rw [if_neg hij]
          simp only [List.getElem?_map, List.getElem?_range hj, Option.map_some]
          congr 1
          by_cases h1 : j < i
          · rw [if_pos h1, if_pos (by omega)]
          · rw [if_neg h1, if_neg (by omega)]
      · have hij : i ≠ j := by omega
        rw [if_neg hij]
        simp [hj]
    rw [← this]; exact o2
  · have hi : i = n := by have := of_decide_eq_false hlt; omega
    subst hi
    refine semH_toText uBs uB uStr (t := longW i w) ?_ ⟨_, rfl, xr, rfl⟩
    have e1 : byteVs (longW i w).data.toList = (List.range i).map fun j => if j < i then vB (C j) else Value.int .u8 0 := by
      show byteVs (bl (longW i w)) = _
      unfold longW
      rw [bl_tx]
      apply List.ext_getElem?
      intro j
      by_cases hj : j < i
      · simp [byteVs, hj, C]
      · simp [byteVs, hj]
    rw [e1]
    exact o.seg


theorem longW_size (n : Nat) (w : Int) : (longW n w).size = n := by unfold longW; rw [tx_size]; simp

/-! ## What stays all along -/

structure Gl (C : Nat → Prop) (h : Hp) (a0 a1 : Addr) : Prop where
  hh : Halves h
  er : Errs h a0 a1
  n0 : ¬ C 2
  ne : ∀ b, (b = 0 ∨ b = 1 ∨ b = a0.block ∨ b = a1.block) → ¬ C b

section
variable {C C' D : Nat → Prop} {h hr hs : Hp} {a0 a1 : Addr} {d l : Nat} {σ σ' : DS} {L : Lg}

theorem Gl.kp (g : Gl C hr a0 a1) (k : Kp C hr C' hs) : Gl C' hs a0 a1 :=
  ⟨(k.halves g.hh g.n0).1, g.er.same k.same_of g.ne, (k.halves g.hh g.n0).2, fun b hb => k.no (g.er.lt hb) (g.ne b hb)⟩
theorem Gl.ext (g : Gl C hr a0 a1) (x : Ext hr hs) : Gl C hs a0 a1 := g.kp (Kp.ext C x)
theorem Gl.sub (g : Gl C hr a0 a1) (hD : ∀ b, D b → C b) : Gl D hr a0 a1 := ⟨g.hh, g.er, fun h => g.n0 (hD _ h), fun b hb h => g.ne b hb (hD _ h)⟩
theorem Gl.fresh (hh : Halves h) (er : Errs h a0 a1) (hC : ∀ b, C b → h.size ≤ b) (x : Ext h hs) : Gl C hs a0 a1 :=
  ⟨hh.ext x, er.ext x, fun hc => by have := hC _ hc; have := hh.lt; omega, fun b hb hc => by have := hC _ hc; have := er.lt hb; omega⟩

/-- A call on the disk alone, that leaves its blocks. -/
theorem LD.op (W : LD C hr d σ l L) {f : FuncId} {args : Array Value} {Q : Ending → Hp → Prop} (c : ∀ D, (∀ b, D b → C b) → DiskAt dI hr D d σ → CallsH Tryd.prog f args hr fun e hs => Same D hr hs ∧ DiskAt dI hs D d σ' ∧ Q e hs) :
    CallsH Tryd.prog f args hr fun e hs => LD C hs d σ' l L ∧ Kp C hr C hs ∧ Q e hs := by
  obtain ⟨D, p, c', W⟩ := W
  refine (c D W.sub W.disk).mono ?_
  rintro e hs ⟨y, E, q⟩
  obtain ⟨W', K⟩ := W.goS y E
  exact ⟨⟨D, p, c', W'⟩, K, q⟩

theorem LD.get (W : LD C hr d σ l L) : ∃ D, (∀ b, D b → C b) ∧ DiskAt dI hr D d σ := let ⟨D, _, _, w⟩ := W; ⟨D, w.sub, w.disk⟩

theorem LD.scan (W : LD C hr d σ l L) (g : Gl C hr a0 a1) (first count : Int) (h1 : first ≤ 9223372036854775807) (e : Nat) :
    CallsH Tryd.prog 15 #[vP d, vZ first, vZ count, vU e] hr fun en hs => LD C hs d (scanF σ first count e).1 l L ∧ Kp C hr C hs ∧
      ∃ p c, en = .returned (.tuple #[.slice p (scanF σ first count e).2.1.length c, vZ (scanF σ first count e).2.2]) ∧ Own hs hr.size 9 1 (.slice p (scanF σ first count e).2.1.length c) (scanF σ first count e).2.1.length ((scanF σ first count e).2.1.map Value.string) :=
  W.op fun D hD X => let g' := g.sub hD; scan_c X g'.er g'.hh g'.n0 g'.ne first count h1 e

theorem LD.last (W : LD C hr d σ l L) (g : Gl C hr a0 a1) (first count : Int) (h1 : first ≤ 9223372036854775807) :
    CallsH Tryd.prog 16 #[vP d, vZ first, vZ count] hr fun en hs => LD C hs d (lastF σ first count).1 l L ∧ Kp C hr C hs ∧ en = .returned (.tuple #[vU (lastF σ first count).2.1, vZ (lastF σ first count).2.2]) :=
  W.op fun D hD X => let g' := g.sub hD; last_c X g'.hh g'.n0 first count h1

end

/-! ## A new disk -/

theorem zeros_at {n i : Nat} (h : i < n) : (List.replicate n zero512).getD i ByteArray.empty = zero512 := by
  rw [List.getD_eq_getElem?_getD, List.getElem?_replicate, if_pos h]; rfl

theorem base_new {n first count e : Nat} (h1 : 1 ≤ count) (h2 : first + count ≤ n) (h3 : n ≤ 4096) (he : e < 18446744073709551616) : Base (List.replicate n zero512) first count e :=
  ⟨h1, by simpa using h2, by simpa using h3, fun s hs => by rw [(List.mem_replicate.1 hs).2]; exact zero512_size, he⟩
theorem below_new {n first count e : Nat} (h2 : first + count ≤ n) : Below (List.replicate n zero512) first count e := fun j hj h => by
  rw [zeros_at (by omega)] at h
  exact (open_zero h).elim

theorem lies_new {n first e : Nat} : Lies (List.replicate n zero512) first e [] 0 (DS.new n) := ⟨Nat.le_refl _, fun _ h => by (cases h), rfl, fun j hj => by omega, fun i _ => rfl, rfl⟩

theorem log_new {S : List ByteArray} {first count e : Nat} {σ : DS} (Q : Lies S first e [] 0 σ) : LogIs S first count e [] 0 0 Rd.no σ (newL (first : Int) (count : Int) e) :=
  ⟨Q, Int.toNat_natCast _, Int.toNat_natCast _, rfl, rfl, Told.init, ⟨Rd.no, rfl, Nat.zero_le _⟩⟩

/-- A disk on which nothing waits holds what a crash leaves. -/
theorem Lies.still {S : List ByteArray} {first count e : Nat} {bodies : List (List UInt8)} {σ : DS} (Q : Lies S first e bodies bodies.length σ) (B : Base S first count e) (hk : bodies.length ≤ count) : Left S first e bodies bodies.length σ.safe ∧ σ.pend = [] := by
  have hp : σ.pend = [] := by rw [Q.pend, Nat.sub_self]; rfl
  have := Q.crash B hk []
  rw [hp] at this
  exact ⟨this, hp⟩

/-- All that was put, and made safe, is told. -/
theorem scan_all {S : List ByteArray} {first count e : Nat} {bodies : List (List UInt8)} {σ : DS} {L : Lg} {out : List ByteArray} {sf : Nat} (Q : LogIs S first count e bodies bodies.length sf ⟨out, [], false⟩ σ L) (ho : L.opn = []) (B : Base S first count e) (hk : bodies.length ≤ count) (hb : Below S first count e) {T : List ByteArray} (Lf : Left S first e bodies bodies.length T) {τ : DS} (hg : τ.gone = false) (hT : τ.safe = T) (hp : τ.pend = []) :
    (scanN first e count 0 τ Rd.no).2 = (out, 0) := by
  obtain ⟨R, hc, hR⟩ := Q.told
  obtain ⟨t, M, h1, h2, h3, h4⟩ := scan_left Lf B Q.lies.le hk (Nat.le_refl _) hb hc count 0 τ Rd.no hg hT hp (by omega) (Nat.zero_le _) rfl
  have ht : t = bodies.length := by omega
  rw [ht, List.take_length, hc] at h3
  cases h3
  rw [h4]
  rcases hR with ⟨_, hR⟩ | ⟨hR, _⟩
  · rw [← hR]
  · exact (hR ho).elim

/-! ## A record that fits the open sector -/

theorem appR_nil (k : Nat) (b : Bool) (σ : DS) (L : Lg) : appR k b [] σ L = (σ, L, 0) := by
  cases k with
  | zero => rfl
  | succ k => rw [appR, if_pos rfl]

theorem app_fit {σ : DS} {L : Lg} {s : ByteArray} (hd : L.dead = false) (hs : s ≠ ⟨#[]⟩) (h65 : s.size ≤ 65536) (hf : s.size ≤ L.free) (h8 : s.size ≤ 488 - L.opn.length) :
    appL σ L s = if 488 ≤ L.opn.length + s.size + 3 then (if (writeL σ (putL true (bl s) L)).2.2 ≠ 0 then writeL σ (putL true (bl s) L) else ((writeL σ (putL true (bl s) L)).1, (writeL σ (putL true (bl s) L)).2.1, 0)) else (σ, putL true (bl s) L, 0) := by
  have e1 : appL σ L s = appR s.size true (bl s) σ L := by unfold appL; rw [if_neg (by rw [hd]; decide), if_neg hs, if_neg (by omega), if_neg (by omega)]
  have hne : bl s ≠ [] := fun h => hs (bl_inj h)
  have hst : stepN L (bl s) = s.size := by unfold stepN; rw [bl_length]; omega
  have hdr : (bl s).drop (stepN L (bl s)) = [] := by rw [hst, List.drop_eq_nil_iff, bl_length]; exact Nat.le_refl _
  obtain ⟨k, hk⟩ : ∃ k, s.size = k + 1 := ⟨s.size - 1, by have := List.length_pos_iff.2 hne; rw [bl_length] at this; omega⟩
  rw [e1]
  have hpl := @putL_length L (bl s) true
  rw [hst] at hpl
  rw [hk, appR, if_neg hne, hdr, appR_nil, appR_nil, hpl, hk]

/-- The first example, as the disk and the log go. -/
theorem example_law {x1 x2 x3 : ByteArray} (h1 : x1.size = 488) (h2 : x2.size = 100) (h3 : x3.size = 386) {σ : DS} (hσ : σ = DS.new 3) :
    ∃ σ1 L1 σ2 L2 σ3 L3 bodies, (newL 1 2 9).free = 976 ∧ appL σ (newL 1 2 9) x1 = (σ1, L1, 0) ∧ appL σ1 L1 x2 = (σ2, L2, 0) ∧ L2.i = 1 ∧ L2.opn.length = 103 ∧ L2.free = 385 ∧ appL σ2 L2 x3 = (σ2, L2, 190) ∧ syncL σ2 L2 = (σ3, L3, 0) ∧
      L1.Rdy ∧ L2.Rdy ∧ σ3.gone = false ∧ LogIs (List.replicate 3 zero512) 1 2 9 bodies bodies.length 2 ⟨[x1, x2], [], false⟩ σ3 L3 ∧ L3.opn = [] ∧ bodies.length ≤ 2 ∧ bodies ≠ [] := by
  have B : Base (List.replicate 3 zero512) 1 2 9 := base_new (by decide) (by decide) (by decide) (by decide)
  have ne : ∀ {x : ByteArray} {n : Nat}, x.size = n + 1 → x ≠ ⟨#[]⟩ := fun h e => by rw [e] at h; cases h
  have f0 : (newL 1 2 9).free = 976 := by decide
  have ok0 : (newL 1 2 9).Rdy := newL_rdy ⟨by decide, by decide, by decide, by decide, by decide⟩
  have Q0 : LogIs (List.replicate 3 zero512) 1 2 9 [] 0 0 ⟨[], [], false⟩ σ (newL 1 2 9) := by rw [hσ]; exact log_new lies_new
  have hg0 : σ.gone = false := by rw [hσ]; rfl
  have hp0 : σ.plan = 0 := by rw [hσ]; rfl
  have a1 := app_fit (σ := σ) (L := newL 1 2 9) rfl (ne h1) (by omega) (by rw [f0]; omega) (by show x1.size ≤ 488 - 0; omega)
  rcases append_law B Q0 hg0 ok0 rfl x1 (ne h1) (by omega) with ⟨hf, _⟩ | ⟨_, c1, g1, ⟨b1, Q1⟩, d1, p1⟩ | ⟨_, _, _, _, _, hp⟩
  · rw [f0] at hf; omega
  rotate_left
  · exact (hp hp0).elim
  have r1 := appL_rdy (σ := σ) (s := x1) ok0
  have l1 : (appL σ (newL 1 2 9) x1).2.1.i = 1 ∧ (appL σ (newL 1 2 9) x1).2.1.opn = [] ∧ (appL σ (newL 1 2 9) x1).2.1.count = 2 := by
    rw [a1, if_pos (by show 488 ≤ 0 + x1.size + 3; omega)] at c1 ⊢
    by_cases hw : (writeL σ (putL true (bl x1) (newL 1 2 9))).2.2 ≠ 0
    · rw [if_pos hw] at c1; exact (hw c1).elim
    · rw [if_neg hw]
      show (writeL σ (putL true (bl x1) (newL 1 2 9))).2.1.i = 1 ∧ (writeL σ (putL true (bl x1) (newL 1 2 9))).2.1.opn = [] ∧ (writeL σ (putL true (bl x1) (newL 1 2 9))).2.1.count = 2
      rw [writeL_code hw]
      exact ⟨rfl, rfl, rfl⟩
  obtain ⟨σ1, L1, e1⟩ : ∃ σ1 L1, appL σ (newL 1 2 9) x1 = (σ1, L1, 0) := ⟨(appL σ (newL 1 2 9) x1).1, (appL σ (newL 1 2 9) x1).2.1, by rw [← c1]⟩
  rw [e1] at g1 Q1 d1 p1 r1 l1
  obtain ⟨i1, o1, co1⟩ := l1
  have f1 : L1.free = 488 := by
    unfold Lg.free Lg.cap
    rw [d1, i1, co1, o1]; rfl
  have a2 := app_fit (σ := σ1) (L := L1) d1 (ne h2) (by omega) (by rw [f1]; omega) (by rw [o1]; show x2.size ≤ 488 - 0; omega)
  rw [if_neg (by rw [o1]; show ¬ 488 ≤ 0 + x2.size + 3; omega)] at a2
  rcases append_law B Q1 g1 r1 d1 x2 (ne h2) (by omega) with ⟨hf, _⟩ | ⟨_, c2, g2, ⟨b2, Q2⟩, d2, p2⟩ | ⟨_, _, _, _, _, hp⟩
  · rw [f1] at hf; omega
  rotate_left
  · exact (hp (p1 hp0)).elim
  have r2 := appL_rdy (σ := σ1) (s := x2) r1
  rw [a2] at g2 Q2 d2 p2 r2
  have hst2 : stepN L1 (bl x2) = 100 := by unfold stepN; rw [o1, bl_length, h2]; rfl
  have o2 : (putL true (bl x2) L1).opn.length = 103 := by rw [putL_length, o1, hst2]; rfl
  have f2 : (putL true (bl x2) L1).free = 385 := by
    unfold Lg.free Lg.cap
    rw [o2, d2]
    show (if false = true ∨ L1.i = L1.count then 0 else min ((488 - 103) + 488 * (L1.count - L1.i - 1)) 65536) = 385
    rw [i1, co1]; rfl
  have e3 : appL σ1 (putL true (bl x2) L1) x3 = (σ1, putL true (bl x2) L1, 190) := by
    unfold appL; rw [if_neg (by rw [d2]; decide), if_neg (ne h3), if_neg (by omega), if_pos (by rw [f2]; omega)]
  rcases sync_law B Q2 g2 r2 d2 with ⟨c3, g3, ⟨b3, Q3⟩, d3, o3, p3⟩ | ⟨_, _, _, _, hp⟩
  rotate_left
  · exact (hp (p2 (p1 hp0))).elim
  have r3 := syncL_rdy (σ := σ1) r2
  obtain ⟨σ3, L3, e4⟩ : ∃ σ3 L3, syncL σ1 (putL true (bl x2) L1) = (σ3, L3, 0) := ⟨(syncL σ1 (putL true (bl x2) L1)).1, (syncL σ1 (putL true (bl x2) L1)).2.1, by rw [← c3]⟩
  rw [e4] at g3 Q3 d3 o3 r3
  refine ⟨σ1, L1, σ1, putL true (bl x2) L1, σ3, L3, b3, f0, e1, a2, i1, o2, f2, e3, e4, r1, r2, g3, Q3, o3, by have := Q3.at_; have := Q3.co; have := r3.ok.le; omega, ?_⟩
  rintro rfl
  obtain ⟨R, hc, hR⟩ := Q3.told
  cases hc
  rcases hR with ⟨_, hR⟩ | ⟨hR, _⟩
  · cases hR
  · exact (hR o3).elim

end Go.Vc
