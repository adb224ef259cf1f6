/- The log's laws: the layer's theorem. -/
import Derived.Test.YthkbecpgbjejkaaDoorS9WWlX
set_option maxRecDepth 10000
namespace Go.Vc
open Go Go.Proofs Go.MapKept

theorem szBy : (Tryd.prog.info? 5).map (·.size) = some 1 := by kernel_rfl

/-- 'copy' of a text into a slice that may be too short. -/
theorem semH_copyMin {P : Program} {dT sT ty elem : TypeId} (hu : P.underlying dT = some (.slice elem)) (hz : (P.info? elem).map (·.size) = some 1) {h : Hp} {b o n c : Nat} {s : ByteArray} (hw : wrAt h b o ((bl s).take n).length) {R : Value → Hp → Prop}
    (hR : ∀ x : Int, R (.int .i64 x) (setsH h b o (byteVs ((bl s).take n)))) : SemH P (Builtin.copy_ #[dT, sT] ty #[.slice (some ⟨b, o, none⟩) n c, .string s]) h R := by
  intro w hw'
  subst hw'
  have hl : (byteVs ((bl s).take n)).length = ((bl s).take n).length := byteVs_length _
  obtain ⟨w', hrun, hrest, hheap⟩ := run_stores (P := P) b (byteVs ((bl s).take n)) o 0 w (by rw [hl]; exact hw) (byteVs_one _)
  refine ⟨.int .i64 ((Nat.min s.size n : Nat) : Int), w', ?_, hrest, by rw [hheap]; exact hR _⟩
  cases hq : P.info? elem with
  | none => simp [hq] at hz
  | some i =>
    have htk : List.take (Nat.min s.size n) (List.map (fun b : UInt8 => Value.int IntKind.u8 (b.toNat : Int)) s.data.toList) = byteVs ((bl s).take n) := by
      show _ = List.map _ (List.take n s.data.toList)
      rw [List.map_take]
      have : s.size = (List.map (fun b : UInt8 => Value.int IntKind.u8 (b.toNat : Int)) s.data.toList).length := by simp
      rw [this]
      refine List.take_eq_take_iff.2 ?_
      show min (min _ n) _ = min n _
      omega
    simp [Builtin.copy_, run_underlying hu, Builtin.lenOf, Builtin.firstCells, sizeOf, typeInfo, hq]
    rw [htk, hrun]
    simp [Result.andThen, goInt]

/-- A row of bytes in a block. -/
def BytesAt (h : Hp) (b : Nat) (t : TypeId) (L : List UInt8) : Prop := h[b]? = some (.cells (byteVs L).toArray t)
theorem BytesAt.set {h : Hp} {b : Nat} {t : TypeId} {L M : List UInt8} (a : BytesAt h b t L) {o : Nat} (ho : o + M.length ≤ L.length) : wrAt h b o M.length ∧ BytesAt (setsH h b o (byteVs M)) b t (layL L o M) := by
  refine ⟨wrAt_of a (by simpa [byteVs] using ho) (.inl (Nat.zero_le _)), ?_⟩
  unfold BytesAt
  rw [setsH_at a, layC_bytes ho]
theorem BytesAt.seg {h : Hp} {b : Nat} {t : TypeId} {L : List UInt8} (a : BytesAt h b t L) {n : Nat} (hn : L.length = n) : Seg h (some ⟨b, 0, none⟩) n (byteVs L) := by
  refine ⟨by rw [byteVs_length]; exact hn, .inr ⟨b, 0, rfl, cellsAt_of a fun j hj => ?_⟩⟩
  rw [List.getElem?_toArray, Nat.zero_add]
  exact List.getElem?_eq_getElem hj


/-- turnoutlaw19.begins -/
theorem begins_c {h : Hp} {xp yp : Option Addr} {xn xc yn yc : Nat} {xs ys : List ByteArray} (hx : Seg h xp xn (xs.map Value.string)) (hy : Seg h yp yn (ys.map Value.string)) (hl : yn ≤ 9223372036854775806) (hpre : xs <+: ys) {sf : Nat} (hsf : sf ≤ xs.length) :
    CallsH Tryd.prog 32 #[.slice xp xn xc, .slice yp yn yc, vI sf] h fun e h' => h' = h ∧ e = .returned (.bool true) := by
  have lx : xs.length = xn := by have := hx.1; simpa using this
  have ly : ys.length = yn := by have := hy.1; simpa using this
  have hle := hpre.length_le
  refine V32 _ _ _ _ _ _ _ h _ ⟨fun _ hq => hq = h, ⟨false, ⟨fun hf => ?_, fun _ => ⟨rfl, ?_⟩⟩, fun hf => (by cases hf), fun _ => rfl⟩, ?_⟩
  · have := of_decide_eq_true hf; omega
  · exact (decide_eq_false (by omega)).symm
  rintro hq rfl
  refine ⟨fun l hr => ∃ i : Nat, l = [vI i] ∧ i ≤ xn ∧ hr = hq, fun l _ => (xn - numAt l 0).toNat, ⟨0, rfl, Nat.zero_le _, rfl⟩, ?_⟩
  rintro x hr ⟨i, hl', hi, rfl⟩
  cases hl'
  refine ⟨fun hc => ?_, fun hc => ⟨rfl, rfl⟩⟩
  have hc : i < xn := by have := of_decide_eq_true hc; omega
  obtain ⟨b1, o1, hp1, c1⟩ := hx.at (i := i) (by simp; omega)
  obtain ⟨b2, o2, hp2, c2⟩ := hy.at (i := i) (by simp; omega)
  rw [List.getElem_map] at c1 c2
  have he : xs[i]'(by omega) = ys[i]'(by omega) := hpre.getElem (by omega)
  refine ⟨b1, o1, hp1, by omega, by omega, _, c1, b2, o2, hp2, by omega, by omega, _, c2, fun hne => ?_, fun _ => ⟨_, incI (by omega), ⟨i + 1, rfl, hc, rfl⟩, by simp only [numAt]; omega⟩⟩
  exact ((of_decide_eq_true hne) he).elim

/-- One log's life. -/
structure Lfe where
  sp : Option Addr
  sn : Nat
  sc : Nat
  steps : List (Int × Bool)
  cut : Int
  fp : Option Addr
  fn : Nat
  fc : Nat
  fates : List (Int × Int)

def lfeV (x : Lfe) : List Value := [.slice x.sp x.sn x.sc, vZ x.cut, .slice x.fp x.fn x.fc]
structure Lfe.Ok (h : Hp) (x : Lfe) : Prop where
  ss : SegS h x.sp x.sn 2 (x.steps.map stpV)
  sl : x.sn ≤ x.sc
  so : ∀ s ∈ x.steps, -9223372036854775808 ≤ s.1 ∧ s.1 ≤ 9223372036854775807
  c0 : -9223372036854775808 ≤ x.cut
  c1 : x.cut ≤ 9223372036854775807
  fs : SegS h x.fp x.fn 2 (x.fates.map fateV)

section
variable {h : Hp} {a0 a1 : Addr}

theorem lies_start {T : List ByteArray} {first e : Nat} {σ : DS} (hs : σ.safe = T) (hp : σ.pend = []) : Lies T first e [] 0 σ :=
  ⟨Nat.le_refl _, fun _ h => (by cases h), by rw [hs], fun j hj => by omega, fun i _ => by rw [hs], hp⟩

/-- What the end of a life leaves. -/
theorem life_left {S : List ByteArray} {first count e : Nat} {out : List ByteArray} {sf p0 : Nat} {σ : DS} {L : Lg} (B : Base S first count e) (hb : Below S first count e) (E : WroteEnd S first count e out sf p0 σ L) (fates : List (Int × Int)) :
    (layFates σ.safe σ.pend fates).length = S.length ∧ (∀ s ∈ layFates σ.safe σ.pend fates, s.size = 512) ∧ Below (layFates σ.safe σ.pend fates) first count (e + 1) ∧
    ∀ τ : DS, τ.gone = false → τ.safe = layFates σ.safe σ.pend fates → τ.pend = [] → ∃ xs : List ByteArray, (scanN first e count 0 τ Rd.no).2 = (xs, 0) ∧ xs <+: out ∧ sf ≤ xs.length := by
  have key : ∃ bodies f R, Lies S first e bodies f σ ∧ bodies.length ≤ count ∧ chainR bodies Rd.no = some R ∧ R.recs <+: out ∧ Saf bodies f sf := by
    rcases E with ⟨bodies, f, Q, _, rd, _⟩ | ⟨f, _, _, ⟨bodies, R, h1, h2, h3, h4, h5⟩, _⟩
    · obtain ⟨R, hc, hp⟩ := Q.told.pre
      exact ⟨bodies, f, R, Q.lies, by have := Q.at_; have := Q.co; have := rd.ok.le; omega, hc, hp, Q.sf⟩
    · exact ⟨bodies, f, R, h1, h2, h3, h4, h5⟩
  obtain ⟨bodies, f, R, Q, hk, hc, hp, ⟨M, hM, hsf⟩⟩ := key
  have Lf := Q.crash B hk fates
  refine ⟨Lf.len, Lf.size, Lf.below B Q.le hb, fun τ hg hs hpe => ?_⟩
  obtain ⟨t, M', h1, h2, h3, h4⟩ := scan_left Lf B Q.le hk Q.fl hb hc count 0 τ Rd.no hg hs hpe (by omega) (Nat.zero_le _) rfl
  refine ⟨M'.recs, h4, ?_, ?_⟩
  · have : chainR (bodies.take bodies.length) Rd.no = some R := by rw [List.take_length]; exact hc
    exact (chainR_mono h2 h3 this).trans hp
  · have := (chainR_mono h1 hM h3).length_le
    omega

set_option maxHeartbeats 2000000 in
/-- turnoutlaw19.WalCrash -/
theorem crash_law (first : ByteArray) (count : Int) (c0 : -9223372036854775808 ≤ count) (c1 : count ≤ 9223372036854775807) {rp : Option Addr} {rn rc : Nat} {lives : List Lfe} (hh : Halves h) (G : Errs h a0 a1)
    (hs : SegS h rp rn 3 (lives.map lfeV)) (hok : ∀ x ∈ lives, x.Ok h) :
    CallsH Tryd.prog 8 #[.string first, vZ count, .slice rp rn rc] h (RetX (.bool true) h) := by
  have hrl : lives.length = rn := by have := hs.1; simpa using this
  refine V8 _ _ _ _ _ h _ ((awake_c hh G).mono ?_)
  rintro _ h1 ⟨rfl, x1⟩
  refine ⟨_, rfl, (pick_c count 9 (by decide) c0 c1 h1).mono ?_⟩
  rintro _ h1 ⟨rfl, rfl⟩
  have hpk : pickN count 9 < 9 := Nat.mod_lt _ (by decide)
  obtain ⟨n, hn⟩ : ∃ n, n = 1 + pickN count 9 := ⟨_, rfl⟩
  obtain ⟨N, hN⟩ : ∃ N, N = 512 * n + 512 := ⟨_, rfl⟩
  refine ⟨_, rfl, (n : Int), by rw [wrapI64] <;> omega, (512 * n : Int), wrapI64 (by omega) (by omega), (N : Int), by rw [wrapI64] <;> omega, semH_make rowB zerosB (l := N) (c := N) (Nat.le_refl _) (by omega) (by simp only [maxLen]; omega) ⟨_, _, _, rfl, ?_⟩⟩
  have a2 : BytesAt (h1.push (.cells (Array.replicate N (.int .u8 0)) 5)) h1.size 5 (List.replicate N 0) := by
    unfold BytesAt
    rw [push_last]
    have : byteVs (List.replicate N 0) = List.replicate N (Value.int .u8 0) := List.map_replicate
    rw [this, List.toArray_replicate]
  generalize hh2 : h1.push (.cells (Array.replicate N (.int .u8 0)) 5) = h2 at a2
  have x2 : Ext h1 h2 := by rw [← hh2]; exact Ext.push _ _
  clear hh2
  refine ⟨512, rfl, by omega, by omega, some ⟨h1.size, 512, none⟩, by unfold cutP; rw [if_neg (by omega)]; rfl, ?_⟩
  have htl : ((bl first).take (N - 512)).length ≤ N - 512 := List.length_take_le _ _
  obtain ⟨w3, a3⟩ := a2.set (o := 512) (M := (bl first).take (N - 512)) (by rw [List.length_replicate]; omega)
  refine semH_copyMin uBs szBy (n := N - 512) w3 fun cnt => ⟨_, rfl, ?_⟩
  have x3 : Ext h1 (setsH h2 h1.size 512 (byteVs ((bl first).take (N - 512)))) := x2.over (setsH_same (B := fun x => x = h1.size) rfl) fun x hx => by omega
  obtain ⟨A, hA⟩ : ∃ A, A = layL (List.replicate N (0 : UInt8)) 512 ((bl first).take (N - 512)) := ⟨_, rfl⟩
  have hAl : A.length = N := by rw [hA, layL_length (by rw [List.length_replicate]; omega), List.length_replicate]
  rw [← hA] at a3
  generalize setsH h2 h1.size 512 (byteVs ((bl first).take (N - 512))) = h3 at a3 x3
  clear w3 a2
  have hsg := a3.seg hAl
  have hsz : (tx A).size = N := by rw [tx_size, hAl]
  refine semH_toText uBs uB uStr (t := tx A) (by rw [show (tx A).data.toList = A from bl_tx A]; exact hsg) ⟨_, rfl, ?_⟩
  refine (load_c (tx A) (by omega)).mono ?_
  rintro _ h4 (⟨hbad, _, _⟩ | ⟨_, d, F, rfl⟩)
  · exact (hbad ⟨by omega, by omega, by omega⟩).elim
  have x13 := x1.trans x3
  have hcl : (chunks (tx A)).length = n + 1 := by unfold chunks; simp; omega
  have k4 : Kp NoB h (fun b => h3.size ≤ b ∧ b < h4.size) h4 := ⟨(x13.trans F.1).size, fun b hb _ => ⟨fun hc => by have := x13.size; omega, (x13.trans F.1).old b hb⟩⟩
  have D4 := F.2
  generalize (fun b => h3.size ≤ b ∧ b < h4.size) = D at k4 D4
  have glob : ∀ {C : Nat → Prop} {hq : Hp}, Kp NoB h C hq → Gl C hq a0 a1 := fun K => Gl.kp (C := NoB) ⟨hh, G, fun h => h, fun _ _ h => h⟩ K
  refine ⟨_, _, rfl, fun _ hq => hq = h4, ⟨false, ⟨fun hf => (by cases hf), fun _ => ⟨false, eqv_ptr uPD _, fun hf => (by cases hf), fun _ => ⟨rfl, by simp⟩⟩⟩, fun hf => (by cases hf), fun _ => rfl⟩, ?_⟩
  rintro h4' rfl
  have g4 := glob k4
  refine (last_c D4 g4.hh g4.n0 1 (n : Int) (by decide)).mono ?_
  rintro _ h5 ⟨y5, D5, rfl⟩
  have k5 : Kp NoB h D h5 := k4.trans (Kp.same y5)
  obtain ⟨T, hT⟩ : ∃ T, T = chunks (tx A) := ⟨_, rfl⟩
  have hTl : T.length = n + 1 := by rw [hT, hcl]
  have hTs : ∀ s ∈ T, s.size = 512 := fun s hs => by rw [hT] at hs; exact chunks_size hs
  have hlast : lastF (DS.fresh (chunks (tx A))) 1 (n : Int) = lastN 1 n 0 (DS.fresh T) 0 := by
    unfold lastF
    have hreg : regionB (DS.fresh (chunks (tx A))).safe.length 1 (n : Int) = true := decide_eq_true (by show (0 : Int) ≤ 1 ∧ 1 ≤ (n : Int) ∧ (1 : Int) < ((chunks (tx A)).length : Int) ∧ (n : Int) ≤ ((chunks (tx A)).length : Int) - 1; rw [hcl]; omega)
    rw [if_pos hreg, ← hT]
    rfl
  rw [hlast] at D5 ⊢
  obtain ⟨l1, _, l3, _⟩ := last_law (T := T) (first := 1) (count := n) (by omega) n 0 (DS.fresh T) 0 rfl rfl rfl (by omega)
  have r5 := lastN_rds 1 n 0 (DS.fresh T) 0
  generalize (lastN 1 n 0 (DS.fresh T) 0).1 = τ5 at D5 r5
  generalize (lastN 1 n 0 (DS.fresh T) 0).2 = q5 at l1 l3
  obtain ⟨ep, cd⟩ := q5
  have l1' : cd = 0 := l1
  clear l1
  subst l1'
  refine ⟨_, _, rfl, fun hf => (by simp at hf), fun _ => ?_⟩
  have hbel : Below T 1 n (ep + 1) := fun j hj h0 h3 => Nat.lt_succ_of_le (l3 j (Nat.zero_le _) hj h0 h3)
  have hplan5 : τ5.plan = 0 := by obtain ⟨_, rfl⟩ := r5; rfl
  refine ⟨fun v hq => ∃ (ep i : Nat) (T : List ByteArray) (D : Nat → Prop) (τ : DS), v = [vU ep, vI i] ∧ i ≤ rn ∧ Kp NoB h D hq ∧ DiskAt dI hq D d τ ∧ τ.gone = false ∧ τ.pend = [] ∧ τ.safe = T ∧ T.length = n + 1 ∧ (∀ s ∈ T, s.size = 512) ∧ Below T 1 n (ep + 1),
    fun v _ => (rn - numAt v 1).toNat, ⟨ep, 0, T, D, τ5, rfl, Nat.zero_le _, k5, D5, r5.gone, r5.pend, r5.safe, hTl, hTs, hbel⟩, ?_⟩
  rintro ev x hq ⟨ep, i, T, D, τ, hv, hi, K, X, tg, tp, ts, hTl, hTs, hb⟩
  cases hv
  refine ⟨fun _ h6 => h6 = hq ∧ i < rn ∧ i < 6 ∧ ep < 4611686018427387904, ⟨decide (i < rn ∧ i < 6 ∧ ep < 4611686018427387904), ⟨fun b1 => ⟨fun b2 => ⟨rfl, ?_⟩, fun b2 => ⟨rfl, ?_⟩⟩, fun b1 => ⟨rfl, ?_⟩⟩, fun hB => ⟨rfl, of_decide_eq_true hB⟩, fun _ => ⟨rfl, K.ext_of⟩⟩, ?_⟩
  · have b1 := of_decide_eq_true b1
    have b2 := of_decide_eq_true b2
    apply decide_eq_decide.2; omega
  · have b2 := of_decide_eq_false b2
    exact decide_eq_false (by omega)
  · have b1 := of_decide_eq_false b1
    exact decide_eq_false (by omega)
  rintro h6 ⟨rfl, hirn, hi6, hep⟩
  obtain ⟨e, he⟩ : ∃ e, e = ep + 1 := ⟨_, rfl⟩
  rw [← he] at hb
  have hsafe : τ.safe.length = n + 1 := by rw [ts]; exact hTl
  refine ⟨(e : Int), by rw [wrapU64]; omega, (wnew_c X 1 (n : Int) e (by decide)).mono ?_⟩
  rintro _ h7 (⟨hf, _⟩ | ⟨_, x7, W7, ok7, rfl⟩)
  · exfalso
    rw [hsafe] at hf
    have h1 : regionB (n + 1) 1 n = true := decide_eq_true (by omega)
    have h2 : epochB e = true := decide_eq_true (by omega)
    rw [h1, h2] at hf; cases hf
  have K7 : Kp NoB h (fun b => D b ∨ b = h6.size) h7 := ⟨by have := K.1; have := x7.size; omega, fun b hb hn => ⟨fun hc => by rcases hc with hc | hc; exact (K.2 b hb hn).1 hc; have := K.1; omega, (x7.old b (Nat.lt_of_lt_of_le hb K.1)).trans (K.2 b hb hn).2⟩⟩
  obtain ⟨l, hl⟩ : ∃ l, l = h6.size := ⟨_, rfl⟩
  rw [← hl] at W7 K7 ⊢
  generalize (fun b => D b ∨ b = l) = C7 at W7 K7
  refine ⟨_, _, rfl, fun _ hq => hq = h7, ⟨false, ⟨false, eqv_ptr uPL _, fun hf => (by cases hf), fun _ => ⟨rfl, by simp⟩⟩, fun hf => (by cases hf), fun _ => rfl⟩, ?_⟩
  rintro h7' rfl
  have hil : i < lives.length := by omega
  obtain ⟨y, hy⟩ : ∃ y, y = lives[i] := ⟨_, rfl⟩
  have hrow : (lives.map lfeV)[i]'(by simpa using hil) = lfeV y := by rw [List.getElem_map, hy]
  have yok : y.Ok h := by rw [hy]; exact hok _ (List.getElem_mem hil)
  have hlne : lives.map lfeV ≠ [] := fun e => by rw [List.map_eq_nil_iff] at e; rw [e] at hil; simp at hil
  have segL : ∀ {C' : Nat → Prop} {g : Hp}, Kp NoB h C' g → SegS g rp rn 3 (lives.map lfeV) := fun K => hs.keep fun b o hp h0 => (K.2 b (hs.block (by decide) hp h0) fun h => h).2
  have segK : ∀ {C' : Nat → Prop} {g : Hp} {p : Option Addr} {k : Nat} {rows : List (List Value)}, Kp NoB h C' g → SegS h p k 2 rows → SegS g p k 2 rows := fun K s => s.keep fun b o hp h0 => (K.2 b (s.block (by decide) hp h0) fun h => h).2
  obtain ⟨b1, o1, hp1, z1, z2, hget1⟩ := (segL K7).get (i := i) (by simpa using hil)
  refine ⟨b1, o1, hp1, z1, z2, y.cut, hget1 1 _ (by rw [hrow]; rfl), (pick_c y.cut 12 (by decide) yok.c0 yok.c1 h7').mono ?_⟩
  rintro _ h7' ⟨rfl, rfl⟩
  have hpc : pickN y.cut 12 < 12 := Nat.mod_lt _ (by decide)
  refine ⟨_, rfl, (W7.cut (pickN y.cut 12 : Int) (by omega)).mono ?_⟩
  rintro _ h8 ⟨W8, k8, rfl⟩
  have K8 := K7.trans k8
  have hcut : (τ.cut (pickN y.cut 12 : Int)).gone = false ∧ (τ.cut (pickN y.cut 12 : Int)).safe = T ∧ (τ.cut (pickN y.cut 12 : Int)).pend = [] := by
    unfold DS.cut
    rw [if_neg (by rw [tg]; decide)]
    exact ⟨tg, ts, tp⟩
  generalize τ.cut (pickN y.cut 12 : Int) = σ8 at W8 hcut
  obtain ⟨cg, cs, cp⟩ := hcut
  obtain ⟨b2, o2, hp2, z3, z4, hget2⟩ := (segL K8).get (i := i) (by simpa using hil)
  refine ⟨rfl, b2, o2, hp2, z3, z4, y.sp, y.sn, y.sc, hget2 0 _ (by rw [hrow]; rfl), (some_c (segK K8 yok.ss) yok.sl).mono ?_⟩
  rintro _ h8 ⟨rfl, sn, sc, rfl, hs9⟩
  have B : Base T 1 n e := ⟨by omega, by omega, by omega, hTs, by omega⟩
  have Q8 : LogIs T 1 n e [] 0 0 ⟨[], [], false⟩ σ8 (newL (1 : Int) (n : Int) e) := log_new (first := 1) (lies_start cs cp)
  have hl40 : sn ≤ 40 := by have := hs9.1; simp at this; omega
  have noC : ∀ {C' : Nat → Prop} {g : Hp} {b : Nat}, Kp NoB h C' g → b < h.size → ¬ C' b := fun K hb => (K.2 _ hb fun h => h).1
  refine ⟨y.sp, sn, sc, rfl, (40 * i : Int), wrapI64 (by omega) (by omega), (wrote_c W8 (glob K8) B Q8 cg (newL_rdy ok7) rfl (by rw [cp]; exact Nat.zero_le _) hs9 (fun b o hp h0 => noC K8 (yok.ss.block (by decide) hp fun e => h0 (by rw [List.map_eq_nil_iff] at e; rw [e]; rfl))) hl40 (fun s hs => yok.so s (List.mem_of_mem_take hs)) (40 * i : Int) (by omega) (by omega)).mono ?_⟩
  rintro _ h10 ⟨C10, σ10, L10, out, p, c, sf, rfl, W10, k10, E10, row10, nrow10, hol, _, _⟩
  have K10 := K8.trans k10
  obtain ⟨b3, o3, hp3, z5, z6, hget3⟩ := (segL K10).get (i := i) (by simpa using hil)
  refine ⟨_, _, _, _, _, rfl, b3, o3, hp3, z5, z6, y.fp, y.fn, y.fc, hget3 2 _ (by rw [hrow]; rfl), (W10.crash y.fates (segK K10 yok.fs) fun b o hp h0 => noC K10 (yok.fs.block (by decide) hp fun e => h0 (by rw [List.map_eq_nil_iff] at e; exact e))).mono ?_⟩
  rintro _ h11 ⟨W11, k11, rfl⟩
  have K11 := K10.trans k11
  obtain ⟨row11, nrow11⟩ := k11.own row10 nrow10
  obtain ⟨T1, T2, T3, T4⟩ := life_left B hb E10 y.fates
  obtain ⟨T', hT'⟩ : ∃ T', T' = layFates σ10.safe σ10.pend y.fates := ⟨_, rfl⟩
  rw [← hT'] at T1 T2 T3 T4
  obtain ⟨υ, hυ⟩ : ∃ υ, υ = σ10.crash y.fates := ⟨_, rfl⟩
  rw [← hυ] at W11
  have ug : υ.gone = false := by rw [hυ]; rfl
  have us : υ.safe = T' := by rw [hυ, hT']; rfl
  have up : υ.pend = [] := by rw [hυ]; rfl
  have hscan : ∀ (φ : DS) (e' : Nat), φ.safe = T' → 1 ≤ e' → e' ≤ 9223372036854775807 → scanF φ 1 (n : Int) e' = scanN 1 e' n 0 φ Rd.no := by
    intro φ e' hv h1 h2
    have h3 : epochB e' = true := decide_eq_true ⟨h1, h2⟩
    have h4 : regionB φ.safe.length 1 (n : Int) = true := decide_eq_true (by rw [hv, T1]; omega)
    unfold scanF
    rw [if_pos (by rw [h4, h3]; rfl)]
    rfl
  obtain ⟨xs, hxs, hpre, hsfx⟩ := T4 υ ug us up
  refine ⟨rfl, (W11.scan (glob K11) 1 (n : Int) (by decide) e).mono ?_⟩
  rintro _ h12 ⟨W12, k12, p12, c12, rfl, row12⟩
  rw [hscan υ e us (by omega) (by omega)] at W12 row12 ⊢
  have r12 := scanN_rds 1 e n 0 υ Rd.no
  rw [hxs] at row12 ⊢
  generalize (scanN 1 e n 0 υ Rd.no).1 = τ12 at W12 r12
  have row12 : Own h12 h11.size 9 1 (.slice p12 xs.length c12) xs.length (xs.map Value.string) := row12
  have K12 := K11.trans k12
  obtain ⟨ro12, nro12⟩ := k12.own row11 nrow11
  have nrow12 : ∀ b, (Value.slice p12 xs.length c12).ownBlock = some b → ¬ C10 b := fun b hb hc => by have := (row12.lt hb).1; have := W11.lt b hc; omega
  refine ⟨p12, xs.length, c12, _, rfl, ((e + 1 : Nat) : Int), by rw [wrapU64]; omega, (W12.scan (glob K12) 1 (n : Int) (by decide) (e + 1)).mono ?_⟩
  rintro _ h13 ⟨W13, k13, p13, c13, rfl, _⟩
  rw [hscan τ12 (e + 1) (r12.safe.trans us) (by omega) (by omega)] at W13 ⊢
  have r13 := r12.trans (scanN_rds 1 (e + 1) n 0 τ12 Rd.no)
  rw [scan_other T3 (by omega) (by omega) (r12.gone.trans ug) (r12.safe.trans us) (r12.pend.trans up)]
  generalize (scanN 1 (e + 1) n 0 τ12 Rd.no).1 = τ13 at W13 r13
  have K13 := K12.trans k13
  obtain ⟨ro13, _⟩ := k13.own ro12 nro12
  obtain ⟨row13, _⟩ := k13.own row12 nrow12
  refine ⟨p13, 0, c13, _, rfl, (begins_c row13.segT ro13.segT (by omega) hpre hsfx).mono ?_⟩
  rintro _ h13 ⟨rfl, rfl⟩
  obtain ⟨D13, hD13, X13⟩ := W13.get
  have KD : Kp NoB h D13 h13 := ⟨K13.1, fun b hb hn => ⟨fun hc => (K13.2 b hb hn).1 (hD13 b hc), (K13.2 b hb hn).2⟩⟩
  refine ⟨_, rfl, false, ⟨fun hf => (by cases hf), fun _ => ⟨fun hf => (by cases hf), fun _ => ⟨fun hf => (by simp at hf), fun _ => ⟨fun hf => (by simp at hf), fun _ => ⟨rfl, by simp⟩⟩⟩⟩⟩, fun hf => (by cases hf), fun _ => ⟨_, incI (by omega), ⟨e, i + 1, T', D13, τ13, rfl, hirn, KD, X13, r13.gone.trans ug, r13.pend.trans up, r13.safe.trans us, by rw [T1]; exact hTl, T2, T3⟩, by simp only [numAt]; omega⟩⟩

end
end Go.Vc
