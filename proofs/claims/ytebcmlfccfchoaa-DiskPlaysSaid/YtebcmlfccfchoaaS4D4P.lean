/- Pairs of a disk and the document's; DiskMakes: the walk. -/
import Derived.Test.YtebcmlfccfchoaaS4RfD
import Derived.Test.YtebcmlfccfchoaaS4D4C
set_option maxRecDepth 10000
namespace Go.Vc
open Go Go.Proofs Go.MapKept

/-- A disk, and the document's in the same state. -/
structure PairAt (h : Hp) (Ba Bb : Nat → Prop) (da db : Nat) (σ : DS) : Prop where
  a : DiskAt dI h Ba da σ
  b : RefAt rI h Bb db σ
  dis : ∀ x, Ba x → ¬ Bb x

def pairV (da db : Nat) : Value := .agg #[vP da, vP db]

section
variable {h h' : Hp} {Ba Bb C : Nat → Prop} {da db : Nat} {σ : DS}

theorem PairAt.ext (p : PairAt h Ba Bb da db σ) (x : Ext h h') : PairAt h' Ba Bb da db σ := ⟨p.a.ext x, p.b.ext x, p.dis⟩
theorem PairAt.other (p : PairAt h Ba Bb da db σ) (x : Same C h h') (h1 : ∀ b, Ba b → ¬ C b) (h2 : ∀ b, Bb b → ¬ C b) : PairAt h' Ba Bb da db σ := ⟨p.a.other x h1, p.b.other x h2, p.dis⟩

/-- pair.settled -/
theorem settled_c (p : PairAt h Ba Bb da db σ) : CallsH Try.prog 29 #[pairV da db] h fun e h' => Ext h h' ∧ e = .returned (.bool true) := by
  refine V29 _ _ h _ ?_
  rintro b h1 rfl rfl
  have x1 : Ext h (h.push (.cells #[vP da, vP db] 59)) := Ext.push _ _
  have c1 : (h.push (.cells #[vP da, vP db] 59))[h.size]? = some (.cells #[vP da, vP db] 59) := push_last
  generalize (h.push (.cells #[vP da, vP db] 59)) = h1 at x1 c1
  have p1 := p.ext x1
  refine ⟨fun h' => h'[h.size]? = some (.cells #[vP da, vP db] 59), c1, _, cellsAt_one (cellH_at c1), (size_c p1.a).mono ?_⟩
  rintro e h2 ⟨rfl, rfl⟩
  refine ⟨_, rfl, c1, _, fun h' (hc : h'[h.size]? = _) => cellsAt_one (cellH_at hc), (rSize_c p1.b).mono ?_⟩
  rintro e h3 ⟨rfl, rfl⟩
  refine ⟨_, rfl, c1, fun _ => ⟨_, cellsAt_one (cellH_at c1), (off_c p1.a).mono ?_⟩, fun hf => (by simp at hf)⟩
  rintro e h4 ⟨rfl, rfl⟩
  refine ⟨_, rfl, c1, _, fun h' (hc : h'[h.size]? = _) => cellsAt_one (cellH_at hc), (rOff_c p1.b).mono ?_⟩
  rintro e h5 ⟨rfl, rfl⟩
  refine ⟨_, rfl, c1, _, eqv_bool uBoolT _ _, fun _ => ⟨_, cellsAt_one (cellH_at c1), (stats_c p1.a).mono ?_⟩, fun hf => (by simp at hf)⟩
  rintro e h6 ⟨x6, rfl⟩
  have c6 := (x6.old h.size (Array.getElem?_eq_some_iff.1 c1).1).trans c1
  refine ⟨_, _, _, rfl, c6, _, fun h' (hc : h'[h.size]? = _) => cellsAt_one (cellH_at hc), (rStats_c (p1.ext x6).b).mono ?_⟩
  rintro e h7 ⟨x7, rfl⟩
  have c7 := (x7.old h.size (Array.getElem?_eq_some_iff.1 c6).1).trans c6
  exact ⟨_, _, _, rfl, c7, _, eqv_ints statsInts [σ.reads, σ.writes, σ.flushes] [σ.reads, σ.writes, σ.flushes] rfl rfl, (x1.trans x6).trans x7, by simp⟩

/-- pair.read -/
theorem pread_c (p : PairAt h Ba Bb da db σ) (n : Int) : CallsH Try.prog 30 #[pairV da db, vZ n] h fun e h' => Same (fun x => Ba x ∨ Bb x) h h' ∧ PairAt h' Ba Bb da db (σ.read n).1 ∧ e = .returned (.bool true) := by
  refine V30 _ _ _ h _ ?_
  rintro b h1 rfl rfl
  have x1 : Ext h (h.push (.cells #[vP da, vP db] 59)) := Ext.push _ _
  have c1 : (h.push (.cells #[vP da, vP db] 59))[h.size]? = some (.cells #[vP da, vP db] 59) := push_last
  generalize (h.push (.cells #[vP da, vP db] 59)) = h1 at x1 c1
  have hlt := (Array.getElem?_eq_some_iff.1 c1).1
  have p1 := p.ext x1
  refine ⟨_, cellsAt_one (cellH_at c1), (read_c p1.a n).mono ?_⟩
  rintro e h2 ⟨y2, z2, a2, rfl⟩
  have c2 := (y2.old h.size hlt fun hb => by have := p.a.lt _ hb; omega).trans c1
  have b2 := p1.b.other y2 fun x hx hx' => p.dis x hx' hx
  refine ⟨_, _, rfl, _, cellsAt_one (cellH_at c2), (rRead_c b2 n).mono ?_⟩
  rintro e h3 ⟨y3, z3, b3, rfl⟩
  have a3 := a2.other y3 p.dis
  refine ⟨_, _, rfl, true, ⟨fun _ => ⟨rfl, by simp⟩, fun hf => (by simp at hf)⟩, ?_, ⟨a3, b3, p.dis⟩, rfl⟩
  exact (x1.same _).trans ((y2.more fun x hx _ => Or.inl hx).trans (y3.more fun x hx _ => Or.inr hx) fun _ h _ => h) fun _ h _ => h

end

theorem zerosP : zeros Try.prog 59 = #[.pointer none, .pointer none] := by kernel_rfl
theorem infoP : ∃ i z, Try.prog.info? 59 = some i ∧ i.zero = some z := by
  have : ((Try.prog.info? 59).bind (·.zero)).isSome = true := by kernel_rfl
  obtain ⟨z, hz⟩ := Option.isSome_iff_exists.1 this
  obtain ⟨i, hi, hz⟩ := Option.bind_eq_some_iff.1 hz
  exact ⟨i, z, hi, hz⟩

/-- A pair in a variable of its own. -/
theorem pair_var {h : Hp} {da db : Nat} {K : Nat → Hp → Prop} (hK : ∀ b h', b = h.size → Ext h h' → h'[b]? = some (.cells #[vP da, vP db] 59) → K b h') :
    ∀ b hp, b = Array.size h → hp = Array.push h (.cells (zeros Try.prog 59) 59) → (∃ i z, Try.prog.info? 59 = some i ∧ i.zero = some z) ∧
      List.length [vP da, vP db] = 2 ∧ (∀ c ∈ [vP da, vP db], c.oneCell' = true) ∧ wrAt hp b 0 2 ∧ ∀ hp', hp' = setsH hp b 0 [vP da, vP db] → K b hp' := by
  rintro b h1 rfl rfl
  rw [zerosP]
  have x1 : Ext h (h.push (.cells #[.pointer none, .pointer none] 59)) := Ext.push _ _
  have c1 : (h.push (.cells #[.pointer none, .pointer none] 59))[h.size]? = some (.cells #[.pointer none, .pointer none] 59) := push_last
  refine ⟨infoP, rfl, by simp [Value.oneCell'], wrAt_of c1 (by decide) (.inl (Nat.zero_le _)), ?_⟩
  rintro h2 rfl
  have c2 := setsH_at (vs := [vP da, vP db]) (o := 0) c1
  refine hK _ _ rfl ?_ c2
  exact x1.over (setsH_same (B := fun b => b = h.size) rfl) fun x hx => by rw [hx]; exact Nat.le_refl _

theorem pair_ld {h : Hp} {b da db : Nat} (c : h[b]? = some (.cells #[vP da, vP db] 59)) : cellsAt h b 0 [vP da, vP db] := cellsAt_all (vs := [vP da, vP db]) c

theorem flat_take (l : List UInt8) : ∀ n, n * 512 ≤ l.length → ((List.range n).map fun i => (l.drop (i * 512)).take 512).flatten = l.take (n * 512) := by
  intro n
  induction n with
  | zero => intro _; simp
  | succ n ih =>
    intro hn
    rw [List.range_succ, List.map_append, List.flatten_append, ih (by omega)]
    simp only [List.map_cons, List.map_nil, List.flatten_cons, List.flatten_nil, List.append_nil]
    rw [Nat.succ_mul, List.take_add]

theorem flat_chunks {image : ByteArray} (hok : LoadOk image) : ((chunks image).map fun b => b.data.toList).flatten = image.data.toList := by
  have h1 := hok.1
  have hl : image.data.toList.length = image.size := by simp
  have := flat_take image.data.toList (image.size / 512) (by omega)
  have e : ((chunks image).map fun b => b.data.toList) = (List.range (image.size / 512)).map fun i => (image.data.toList.drop (i * 512)).take 512 := by
    unfold chunks
    rw [List.map_map]
    apply List.map_congr_left
    intro i _
    show (image.extract _ _).data.toList = _
    rw [Lib.extract_data, Nat.succ_mul, Nat.add_sub_cancel_left]
  rw [e, this, List.take_of_length_le (by omega)]

/-- turnoutlaw04.DiskMakes -/
theorem makes_law (sectors : Int) (image : ByteArray) (hs0 : -9223372036854775808 ≤ sectors) (hs1 : sectors ≤ 9223372036854775807) (himg : image.size ≤ 9223372036854775807) (h : Hp) :
    CallsH Try.prog 6 #[vZ sectors, .string image] h (RetX (.bool true) h) := by
  refine V6 _ _ h _ ((awake_c h).mono ?_)
  rintro e h0 ⟨x0, rfl⟩
  refine ⟨_, rfl, (new_c sectors).mono ?_⟩
  rintro e h1 hA
  have hA' : ∃ (a : Option Addr) (code : Int), e = .returned (.tuple #[.pointer a, vZ code]) ∧ Ext h0 h1 ∧ (((sectors < 1 ∨ 4096 < sectors) ∧ a = none ∧ code = 1) ∨ (1 ≤ sectors ∧ sectors ≤ 4096 ∧ code = 0 ∧ ∃ da, a = some ⟨da, 0, none⟩ ∧ Fresh h0 h1 da (DS.new sectors.toNat))) := by
    rcases hA with ⟨hbad, rfl, rfl⟩ | ⟨hn1, hn2, da, F, rfl⟩
    · exact ⟨_, _, rfl, Ext.refl _, .inl ⟨hbad, rfl, rfl⟩⟩
    · exact ⟨_, _, rfl, F.1, .inr ⟨hn1, hn2, rfl, da, rfl, F⟩⟩
  clear hA
  obtain ⟨a, code, rfl, x1, hA⟩ := hA'
  refine ⟨a, code, rfl, (rNew_c sectors).mono ?_⟩
  rintro e h2 hB
  have hB' : ∃ b : Option Addr, e = .returned (.tuple #[.pointer b, vZ code]) ∧ Ext h1 h2 ∧ ((a = none ∧ b = none) ∨ ∃ da db, a = some ⟨da, 0, none⟩ ∧ b = some ⟨db, 0, none⟩ ∧ 1 ≤ sectors ∧ PairAt h2 (fun x => h0.size ≤ x ∧ x < h1.size) (fun x => h1.size ≤ x ∧ x < h2.size) da db (DS.new sectors.toNat)) := by
    rcases hA with ⟨hbad, rfl, rfl⟩ | ⟨hn1, hn2, rfl, da, rfl, F⟩
    · rcases hB with ⟨_, rfl, rfl⟩ | ⟨hm1, hm2, _⟩
      · exact ⟨none, rfl, Ext.refl _, .inl ⟨rfl, rfl⟩⟩
      · omega
    · rcases hB with ⟨hbad, _⟩ | ⟨_, _, db, G, rfl⟩
      · omega
      · exact ⟨_, rfl, G.1, .inr ⟨da, db, rfl, rfl, hn1, F.2.ext G.1, G.2, fun x h1 h2 => by omega⟩⟩
  obtain ⟨b, rfl, x2, hAB⟩ := hB'
  clear hB hA
  refine ⟨_, _, rfl, (load_c image himg).mono ?_⟩
  rintro e h3 hC
  have hC' : ∃ (c : Option Addr) (co : Int), e = .returned (.tuple #[.pointer c, vZ co]) ∧ Ext h2 h3 ∧ ((¬ LoadOk image ∧ c = none ∧ co = 1) ∨ (LoadOk image ∧ co = 0 ∧ ∃ dc, c = some ⟨dc, 0, none⟩ ∧ Fresh h2 h3 dc (DS.fresh (chunks image)))) := by
    rcases hC with ⟨hbad, rfl, rfl⟩ | ⟨hok, dc, F, rfl⟩
    · exact ⟨_, _, rfl, Ext.refl _, .inl ⟨hbad, rfl, rfl⟩⟩
    · exact ⟨_, _, rfl, F.1, .inr ⟨hok, rfl, dc, rfl, F⟩⟩
  clear hC
  obtain ⟨c, co, rfl, x3, hC⟩ := hC'
  refine ⟨c, co, rfl, (rLoad_c image himg).mono ?_⟩
  rintro e h4 hD
  have hD' : ∃ d : Option Addr, e = .returned (.tuple #[.pointer d, vZ co]) ∧ Ext h3 h4 ∧ ((c = none ∧ d = none) ∨ ∃ dc dd, c = some ⟨dc, 0, none⟩ ∧ d = some ⟨dd, 0, none⟩ ∧ LoadOk image ∧ PairAt h4 (fun x => h2.size ≤ x ∧ x < h3.size) (fun x => h3.size ≤ x ∧ x < h4.size) dc dd (DS.fresh (chunks image))) := by
    rcases hC with ⟨hbad, rfl, rfl⟩ | ⟨hok, rfl, dc, rfl, F⟩
    · rcases hD with ⟨_, rfl, rfl⟩ | ⟨hok, _⟩
      · exact ⟨none, rfl, Ext.refl _, .inl ⟨rfl, rfl⟩⟩
      · exact (hbad hok).elim
    · rcases hD with ⟨hbad, _⟩ | ⟨_, dd, G, rfl⟩
      · exact (hbad hok).elim
      · exact ⟨_, rfl, G.1, .inr ⟨dc, dd, rfl, rfl, hok, F.2.ext G.1, G.2, fun x h1 h2 => by omega⟩⟩
  obtain ⟨d, rfl, x4, hCD⟩ := hD'
  clear hC hD
  have hx4 := (((x0.trans x1).trans x2).trans x3).trans x4
  have l0 := x0.size
  have l1 := x1.size
  have l2 := x2.size
  -- nil or not, alike
  have eqP : ∀ {x y : Option Addr}, ((x = none ∧ y = none) ∨ ∃ dx dy : Nat, x = some ⟨dx, 0, none⟩ ∧ y = some ⟨dy, 0, none⟩) → ∃ t : Bool, EqV Try.prog 25 (.pointer x) (.pointer none) t ∧ EqV Try.prog 53 (.pointer y) (.pointer none) t ∧ (t = true → x = none) ∧ (t = false → x ≠ none) := by
    rintro x y (⟨rfl, rfl⟩ | ⟨dx, dy, rfl, rfl⟩)
    · exact ⟨true, eqv_nil uPD, eqv_nil uPR, fun _ => rfl, fun h => by cases h⟩
    · exact ⟨false, eqv_ptr uPD _, eqv_ptr uPR _, fun h => (by cases h), fun _ h => by cases h⟩
  obtain ⟨t1, ea, eb, ht1, hf1⟩ := eqP (hAB.imp id fun ⟨da, db, h1, h2, _⟩ => ⟨da, db, h1, h2⟩)
  obtain ⟨t2, ec, ed, ht2, hf2⟩ := eqP (hCD.imp id fun ⟨da, db, h1, h2, _⟩ => ⟨da, db, h1, h2⟩)
  refine ⟨_, _, rfl, fun l hq => l = [] ∧ hq = h4, ⟨false, ⟨fun hf => (by cases hf), fun _ => ⟨fun hf => (by simp at hf), fun _ => ⟨fun hf => (by simp at hf), fun _ => ⟨t1, ea, t1, eb, _, eqv_bool uBoolT _ _, fun hf => (by simp at hf), fun _ => ⟨t2, ec, t2, ed, _, eqv_bool uBoolT _ _, rfl, by simp⟩⟩⟩⟩⟩, fun hB => (by cases hB), fun _ => ⟨rfl, rfl⟩⟩, ?_⟩
  rintro h5 ⟨_, rfl⟩
  refine ⟨fun l hq => l = [] ∧ Ext h hq ∧ (c ≠ none → ∃ dc dd, c = some ⟨dc, 0, none⟩ ∧ d = some ⟨dd, 0, none⟩ ∧ LoadOk image ∧ PairAt hq (fun x => h2.size ≤ x ∧ x < h3.size) (fun x => h3.size ≤ x ∧ x < h5.size) dc dd (DS.fresh (chunks image))), ⟨!t1, ⟨t1, ea, fun hn => ⟨t1, eb, rfl, rfl⟩, fun hn => ⟨rfl, (by rw [hn])⟩⟩, fun hB => ?_, fun hB => ⟨rfl, hx4, fun hc => ?_⟩⟩, ?_⟩
  · -- made anew
    have ht : t1 = false := by simpa using hB
    rcases hAB with ⟨hn, _⟩ | ⟨da, db, rfl, rfl, hge1, p2⟩
    · exact (hf1 ht hn).elim
    have p4 := (p2.ext x3).ext x4
    refine pair_var fun bb h6 hbb x6 c6 => ⟨_, _, pair_ld c6, (settled_c (p4.ext x6)).mono ?_⟩
    rintro e h7 ⟨x7, rfl⟩
    have c7 := (x7.old bb (Array.getElem?_eq_some_iff.1 c6).1).trans c6
    refine ⟨_, rfl, fun _ => ⟨_, _, pair_ld c7, _, wrapI64 (by omega) (by omega), (pread_c ((p4.ext x6).ext x7) (sectors - 1)).mono ?_⟩, fun hf => (by cases hf)⟩
    rintro e h8 ⟨y8, p8, rfl⟩
    refine ⟨_, rfl, fun _ => (image_c p8.a).mono ?_, fun hf => (by cases hf)⟩
    rintro e h9 ⟨x9, rfl⟩
    refine ⟨_, rfl, (rImage_c (p8.ext x9).b).mono ?_⟩
    rintro e h10 ⟨x10, rfl⟩
    refine ⟨_, rfl, fun hf => (by simp at hf), fun _ => ⟨rfl, ?_, fun hc => ?_⟩⟩
    · exact ((((hx4.trans x6).trans x7).over y8 fun b hb => by rcases hb with hb | hb <;> omega).trans x9).trans x10
    · rcases hCD with ⟨hn, _⟩ | ⟨dc, dd, hc', hd', hok, p⟩
      · exact (hc hn).elim
      · exact ⟨dc, dd, hc', hd', hok, (((((p.ext x6).ext x7).other y8 (fun b hb hb' => by rcases hb' with hb' | hb' <;> omega) fun b hb hb' => by have := x3.size; rcases hb' with hb' | hb' <;> omega).ext x9).ext x10)⟩
  · rcases hCD with ⟨hn, _⟩ | hh
    · exact (hc hn).elim
    · exact hh
  rintro h6 ⟨_, hx6, hCD6⟩
  refine ⟨!t2, ⟨t2, ec, fun hn => ⟨t2, ed, rfl, rfl⟩, fun hn => ⟨rfl, (by rw [hn])⟩⟩, fun hB => ?_, fun hB => ⟨rfl, hx6⟩⟩
  have ht : t2 = false := by simpa using hB
  obtain ⟨dc, dd, rfl, rfl, hok, p⟩ := hCD6 (hf2 ht)
  have l3 := x3.size
  refine pair_var fun bb h7 hbb x7 c7 => ⟨_, _, pair_ld c7, (settled_c (p.ext x7)).mono ?_⟩
  rintro e h8 ⟨x8, rfl⟩
  have c8 := (x8.old bb (Array.getElem?_eq_some_iff.1 c7).1).trans c7
  refine ⟨_, rfl, fun _ => ⟨_, _, pair_ld c8, (pread_c ((p.ext x7).ext x8) 0).mono ?_⟩, fun hf => (by cases hf)⟩
  rintro e h9 ⟨y9, p9, rfl⟩
  refine ⟨_, rfl, fun _ => (image_c p9.a).mono ?_, fun hf => (by cases hf)⟩
  rintro e h10 ⟨x10, rfl⟩
  refine ⟨_, rfl, ?_, (((hx6.trans x7).trans x8).over y9 fun b hb => by rcases hb with hb | hb <;> omega).trans x10⟩
  have hcr : ((DS.fresh (chunks image)).read 0).1.safe = chunks image := by unfold DS.read; split <;> rfl
  have himE : (((DS.fresh (chunks image)).read 0).1).image = image := by
    apply bl_inj
    show ((((DS.fresh (chunks image)).read 0).1.safe.map fun b => b.data.toList).flatten).toArray.toList = _
    rw [hcr]
    have := flat_chunks hok
    simpa using this
  rw [himE]; simp

end Go.Vc
