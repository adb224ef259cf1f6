/- Pairs of disks: what is lent, crashes, what is pending. -/
import Derived.Test.YtebcmlfccfchoaaS4D4K
import Derived.Test.YtebcmlfccfchoaaS4D4P
set_option maxRecDepth 10000
namespace Go.Vc
open Go Go.Proofs Go.MapKept

/-! ## Rows of structs in a block of their own -/

theorem rows_len {z : Nat} : ∀ {rows : List (List Value)}, (∀ r ∈ rows, r.length = z) → rows.flatten.length = rows.length * z := by
  intro rows
  induction rows with
  | nil => simp
  | cons r rows ih => intro h; rw [List.flatten_cons, List.length_append, h r (by simp), ih (fun r hr => h r (by simp [hr])), List.length_cons, Nat.succ_mul]; omega

theorem row_set {rows : List (List Value)} {z i : Nat} {r : List Value} (hz : 0 < z) (h : ∀ r ∈ rows, r.length = z) (hr : r.length = z) (hi : i < rows.length) : layC rows.flatten.toArray (i * z) r = ((rows.set i r).flatten).toArray := by
  have h' : ∀ s ∈ rows.set i r, s.length = z := by
    intro s hs
    rcases List.mem_or_eq_of_mem_set hs with h1 | h1
    · exact h s h1
    · rw [h1]; exact hr
  apply Array.ext_getElem?
  intro k
  by_cases hk : k < rows.length * z
  · rw [layC_get (by simp only [List.size_toArray]; rw [rows_len h]; exact hk)]
    have hkz : k / z < rows.length := Nat.div_lt_of_lt_mul (by rw [Nat.mul_comm]; exact hk)
    have hm : k % z < z := Nat.mod_lt _ hz
    have e : k / z * z + k % z = k := Nat.div_add_mod' k z
    have f1 := flatten_at h hkz hm
    have f2 := flatten_at h' (i := k / z) (j := k % z) (by simpa using hkz) hm
    rw [e] at f1 f2
    simp only [List.getElem?_toArray]
    rw [f1, f2]
    by_cases hq : k / z = i
    · have hle : i * z ≤ k := by rw [← hq]; omega
      have hlt : k < i * z + r.length := by rw [← hq, hr]; omega
      rw [if_pos ⟨hle, hlt⟩]
      have e2 : k - i * z = k % z := by rw [← hq]; omega
      rw [e2]
      congr 1
      simp [hq]
    · rw [if_neg]
      · congr 1
        rw [List.getElem_set_ne (fun e => hq e.symm)]
      · rintro ⟨h1, h2⟩
        rw [hr] at h2
        apply hq
        have a1 : i ≤ k / z := (Nat.le_div_iff_mul_le hz).2 h1
        have a2 : k / z < i + 1 := (Nat.div_lt_iff_lt_mul hz).2 (by rw [Nat.succ_mul]; exact h2)
        omega
  · rw [Array.getElem?_eq_none (by rw [layC_size]; simp only [List.size_toArray]; rw [rows_len h]; omega), Array.getElem?_eq_none (by simp only [List.size_toArray]; rw [rows_len h', List.length_set]; omega)]

theorem rows_store {h : Hp} {b : Nat} {t : TypeId} {z i : Nat} {rows : List (List Value)} {r : List Value} (c : h[b]? = some (.cells rows.flatten.toArray t)) (hz : 0 < z) (hs : ∀ r ∈ rows, r.length = z) (hr : r.length = z) (hi : i < rows.length) :
    wrAt h b (0 + Int.toNat (i : Int) * z) z ∧ (setsH h b (0 + Int.toNat (i : Int) * z) r)[b]? = some (.cells (rows.set i r).flatten.toArray t) := by
  have hb : (i + 1) * z ≤ rows.length * z := Nat.mul_le_mul_right _ hi
  rw [Nat.succ_mul] at hb
  rw [Int.toNat_natCast, Nat.zero_add]
  refine ⟨wrAt_of c (by simp only [List.size_toArray]; rw [rows_len hs]; exact hb) (.inl (Nat.zero_le _)), ?_⟩
  rw [setsH_at c, row_set hz hs hr hi]

theorem rows_seg {h : Hp} {b : Nat} {t : TypeId} {z n : Nat} {rows : List (List Value)} (c : h[b]? = some (.cells rows.flatten.toArray t)) (hs : ∀ r ∈ rows, r.length = z) (hn : rows.length = n) : SegS h (some ⟨b, 0, none⟩) n z rows :=
  ⟨hn, hs, .inr ⟨b, 0, rfl, cellsAt_all c⟩⟩

theorem rows_head {h : Hp} {p : Option Addr} {n m z : Nat} {rows : List (List Value)} (s : SegS h p n z rows) (hm : m ≤ n) : SegS h p m z (rows.take m) := by
  obtain ⟨h1, h2, h3⟩ := s
  refine ⟨by rw [List.length_take]; omega, fun r hr => h2 r (List.mem_of_mem_take hr), ?_⟩
  rcases h3 with rfl | ⟨b, o, hp, hc⟩
  · exact .inl (by simp)
  · refine .inr ⟨b, o, hp, cellsAt_iff.2 fun j hj => ?_⟩
    have e : rows.flatten = (rows.take m).flatten ++ (rows.drop m).flatten := by rw [← List.flatten_append, List.take_append_drop]
    have hj2 : j < rows.flatten.length := by rw [e, List.length_append]; omega
    have h4 := cellsAt_iff.1 hc j hj2
    rw [h4]
    congr 1
    have : rows.flatten[j]? = (rows.take m).flatten[j]? := by rw [e, List.getElem?_append_left hj]
    rw [List.getElem?_eq_getElem hj2, List.getElem?_eq_getElem hj] at this
    exact Option.some.inj this

theorem semH_makeS {P : Program} {t e : TypeId} {z bytes : Nat} {h : Hp} (T : RowT P t e z bytes) {zs : List Value} (hz : zeros P e = zs.toArray) (hzl : zs.length = z) (hz0 : 0 < z) {l c : Nat} (hlc : l ≤ c) (hb : bytes * c ≤ 281474976710656) (hc : c ≤ maxLen) {R : Value → Hp → Prop}
    (hR : R (.slice (some ⟨h.size, 0, none⟩) l c) (h.push (.cells (List.replicate c zs).flatten.toArray e))) : SemH P (Instr.makeSlice t (.int .i64 (l : Int)) (.int .i64 (c : Int))) h R := by
  obtain ⟨i, y, hi, hy, hs, hby, hys⟩ := T.hi
  have hyz : y.cells = zs.toArray := by
    have := hz
    simpa only [zeros, hi, hy] using this
  have hc' : (c : Int) ≤ 9223372036854775807 := by simp only [maxLen] at hc; omega
  have hb' : ((i.bytes * c : Nat) : Int) ≤ 281474976710656 := by rw [hby]; omega
  rw [Int.natCast_mul] at hb'
  refine SemH.ok (h' := h.push (.cells (List.replicate c zs).flatten.toArray e)) (fun w hw => ?_) (v := .slice (some ⟨h.size, 0, none⟩) l c) hR
  have hr := run_make (P := P) w t e i y T.ht hi hy .i64 .i64 (l : Int) (c : Int) (by omega) (by omega) hb' hc'
  have hm : madeCells y.cells (c * i.size) = (List.replicate c zs).flatten.toArray := by
    rw [hyz, hs]
    have hall : ∀ r ∈ List.replicate c zs, r.length = z := fun r hr => by rw [List.eq_of_mem_replicate hr]; exact hzl
    apply Array.ext_getElem?
    intro k
    by_cases hk : k < c * z
    · have hkz : k / z < (List.replicate c zs).length := by rw [List.length_replicate]; exact Nat.div_lt_of_lt_mul (by rw [Nat.mul_comm]; exact hk)
      have hm : k % z < z := Nat.mod_lt _ hz0
      have f1 := flatten_at hall hkz hm
      rw [Nat.div_add_mod' k z, List.getElem_replicate] at f1
      rw [show (List.replicate c zs).flatten.toArray[k]? = zs[k % z]? by rw [List.getElem?_toArray]; exact f1, List.getElem?_eq_getElem (by omega)]
      simp only [madeCells, Array.getElem?_map, Array.getElem?_range, hk, if_true, Option.map_some, List.size_toArray, hzl]
      rw [getElem!_pos _ _ (by simp only [List.size_toArray]; omega)]
      simp
    · rw [Array.getElem?_eq_none (by rw [size_madeCells]; omega), Array.getElem?_eq_none (by simp only [List.size_toArray]; rw [rows_len hall, List.length_replicate]; omega)]
  simp only [Int.toNat_natCast] at hr
  rw [hm] at hr
  subst hw
  exact ⟨w.alloc (.cells (List.replicate c zs).flatten.toArray e), hr, ⟨rfl, rfl, rfl⟩, rfl⟩

theorem fill_next {α : Type} {L : List α} {z : α} {i : Nat} (hi : i < L.length) : (L.take i ++ List.replicate (L.length - i) z).set i L[i] = L.take (i + 1) ++ List.replicate (L.length - (i + 1)) z := by
  have e : List.replicate (L.length - i) z = z :: List.replicate (L.length - (i + 1)) z := by rw [← List.replicate_succ]; congr 1; omega
  rw [e, List.set_append_right _ _ (by rw [List.length_take]; omega), List.length_take, Nat.min_eq_left (by omega), Nat.sub_self, List.set_cons_zero, List.take_add_one, List.getElem?_eq_getElem hi, List.append_assoc]
  rfl

theorem over_next {α : Type} {L : List α} {k : α} {i : Nat} (hi : i < L.length) : (List.replicate i k ++ L.drop i).set i k = List.replicate (i + 1) k ++ L.drop (i + 1) := by
  rw [List.drop_eq_getElem_cons hi, List.set_append_right _ _ (by rw [List.length_replicate]; exact Nat.le_refl _), List.length_replicate, Nat.sub_self, List.set_cons_zero, List.replicate_succ', List.append_assoc]
  rfl

/-! ## Fates that are lent -/

def lentL (fates : List (Int × Int)) : List (Int × Int) := fates ++ List.replicate 3 (-7, -7)
theorem lentL_tail {fates : List (Int × Int)} {i : Nat} (h : fates.length ≤ i) (hi : i < (lentL fates).length) : (lentL fates)[i] = (-7, -7) := by
  apply Option.some.inj
  rw [← List.getElem?_eq_getElem hi]
  show (fates ++ List.replicate 3 ((-7 : Int), (-7 : Int)))[i]? = _
  rw [List.getElem?_append_right h]
  have : i < fates.length + 3 := by simpa [lentL] using hi
  rw [List.getElem?_replicate, if_pos (by omega)]
def rowsL (l : List (Int × Int)) : List (List Value) := l.map fateV

theorem rowsL_len (l : List (Int × Int)) : ∀ r ∈ rowsL l, r.length = 2 := by
  intro r hr; obtain ⟨x, _, rfl⟩ := List.mem_map.1 hr; rfl

theorem rowsL_set (l : List (Int × Int)) (i : Nat) (f : Int × Int) : (rowsL l).set i (fateV f) = rowsL (l.set i f) := by unfold rowsL; rw [List.map_set]

theorem zerosFate : zeros Try.prog 30 = [vZ 0, vZ 0].toArray := by kernel_rfl
theorem fateInts : intStruct Try.prog 30 2 = true := by kernel_rfl

theorem lent_c {h : Hp} (fates : List (Int × Int)) (hn : fates.length ≤ 8796093022207) {p : Option Addr} {n c : Nat} (hf : SegS h p n 2 (fates.map fateV)) :
    CallsH Try.prog 53 #[.slice p n c] h fun e h' => Ext h h' ∧ h'[h.size]? = some (.cells (rowsL (lentL fates)).flatten.toArray 30) ∧ e = .returned (.slice (some ⟨h.size, 0, none⟩) (n + 3) (n + 3)) := by
  have hfn : fates.length = n := by have := hf.1; simpa using this
  have hL : (lentL fates).length = n + 3 := by simp [lentL, hfn]
  refine V53 _ _ _ h _ ⟨((n + 3 : Nat) : Int), by rw [wrapI64] <;> omega, semH_makeS rowF (zs := [vZ 0, vZ 0]) zerosFate rfl (by decide) (Nat.le_refl _) (by omega) (by simp only [maxLen]; omega) ⟨_, _, _, rfl, ?_⟩⟩
  have x1 : Ext h (h.push (.cells (List.replicate (n + 3) [vZ 0, vZ 0]).flatten.toArray 30)) := Ext.push _ _
  have c1 : (h.push (.cells (List.replicate (n + 3) [vZ 0, vZ 0]).flatten.toArray 30))[h.size]? = some (.cells (rowsL ((lentL fates).take 0 ++ List.replicate ((lentL fates).length - 0) (0, 0))).flatten.toArray 30) := by
    rw [push_last, hL]
    simp [rowsL, fateV]
  generalize (h.push (.cells (List.replicate (n + 3) [vZ 0, vZ 0]).flatten.toArray 30)) = h1 at x1 c1
  refine ⟨fun l hq => ∃ i : Nat, i ≤ n + 3 ∧ l = [vI i] ∧ Ext h hq ∧ hq[h.size]? = some (.cells (rowsL ((lentL fates).take i ++ List.replicate ((lentL fates).length - i) (0, 0))).flatten.toArray 30),
    fun l _ => (n + 3 - numAt l 0).toNat, ⟨0, Nat.zero_le _, rfl, x1, c1⟩, ?_⟩
  rintro x hq ⟨i, hi, hl, hx, hc⟩
  cases hl
  refine ⟨fun hlt => ?_, fun hlt => ?_⟩
  · have hlt : i < n + 3 := by simp at hlt; omega
    have hlL : ∀ k : Nat, k ≤ n + 3 → ((lentL fates).take k ++ List.replicate ((lentL fates).length - k) ((0 : Int), (0 : Int))).length = n + 3 := fun k hk => by rw [List.length_append, List.length_take, List.length_replicate]; omega
    obtain ⟨w1, s1⟩ := rows_store (r := fateV (-7, -7)) hc (by decide) (rowsL_len _) rfl (i := i) (by show i < (List.map _ _).length; rw [List.length_map, hlL i hi]; exact hlt)
    refine ⟨_, _, rfl, by omega, by omega, rfl, by simp [Value.oneCell'], w1, ?_⟩
    rintro h2 rfl
    rw [rowsL_set] at s1
    have x2 := hx.over (setsH_same (B := fun b => b = h.size) (vs := fateV (-7, -7)) (o := 0 + Int.toNat (i : Int) * 2) rfl) fun x hx => by rw [hx]; exact Nat.le_refl _
    refine ⟨fun hin => ?_, fun hin => ?_⟩
    · have hin : i < n := by simp at hin; omega
      obtain ⟨b, o, hp, h0, h1, hcc⟩ := (hf.ext x2).at (i := i) (by simp; omega)
      have hfi : i < fates.length := by omega
      have e : (fates.map fateV)[i]'(by simp; omega) = fateV fates[i] := by simp
      rw [e] at hcc
      refine ⟨b, o, hp, h0, h1, _, _, hcc, ?_⟩
      obtain ⟨w3, s3⟩ := rows_store (r := fateV fates[i]) s1 (by decide) (rowsL_len _) rfl (i := i) (by show i < (List.map _ _).length; rw [List.length_map, List.length_set, hlL i hi]; exact hlt)
      refine ⟨_, _, rfl, by omega, by omega, rfl, by simp [Value.oneCell'], w3, ?_⟩
      rintro h3 rfl
      rw [rowsL_set, List.set_set] at s3
      have e2 : fates[i] = (lentL fates)[i]'(by omega) := by unfold lentL; rw [List.getElem_append_left]
      rw [e2, fill_next (by omega)] at s3
      refine ⟨_, incI (by omega), ⟨i + 1, hlt, rfl, ?_, by rw [e2]; exact s3⟩, by simp only [numAt]; omega⟩
      exact x2.over (setsH_same (B := fun b => b = h.size) rfl) fun x hx => by rw [hx]; exact Nat.le_refl _
    · have hin : n ≤ i := by simp at hin; omega
      have e2 : ((-7 : Int), (-7 : Int)) = (lentL fates)[i]'(by omega) := (lentL_tail (by omega) _).symm
      have s2 : (setsH hq (Array.size h) (0 + Int.toNat (i : Int) * 2) (fateV (-7, -7)))[Array.size h]? = some (.cells (rowsL ((lentL fates).take (i + 1) ++ List.replicate ((lentL fates).length - (i + 1)) (0, 0))).flatten.toArray 30) := by
        rw [s1, ← fill_next (by omega), e2]
      exact ⟨_, incI (by omega), ⟨i + 1, hlt, rfl, x2, s2⟩, by simp only [numAt]; omega⟩
  · have : i = n + 3 := by simp at hlt; omega
    subst this
    refine ⟨hx, ?_, rfl⟩
    rw [hc, hL, List.take_of_length_le (by omega)]
    simp

theorem still_c {h : Hp} (fates : List (Int × Int)) (hn : fates.length ≤ 8796093022207) {p : Option Addr} {n c q : Nat} (hf : SegS h p n 2 (fates.map fateV)) (hc : h[q]? = some (.cells (rowsL (lentL fates)).flatten.toArray 30)) (hne : ∀ b o, p = some ⟨b, o, none⟩ → fates ≠ [] → b ≠ q) :
    CallsH Try.prog 55 #[.slice (some ⟨q, 0, none⟩) (n + 3) (n + 3), .slice p n c] h fun e h' => Same (fun b => b = q) h h' ∧ e = .returned (.bool true) := by
  have hfn : fates.length = n := by have := hf.1; simpa using this
  have hL : (lentL fates).length = n + 3 := by simp [lentL, hfn]
  refine V55 _ _ _ _ _ _ h _ ⟨fun l hq => ∃ i : Nat, i ≤ n + 3 ∧ l = [.bool true, vI i] ∧ Same (fun b => b = q) h hq ∧ hq[q]? = some (.cells (rowsL (List.replicate i (1, 0) ++ (lentL fates).drop i)).flatten.toArray 30),
    fun l _ => (n + 3 - numAt l 1).toNat, ⟨0, Nat.zero_le _, rfl, Same.refl _ _, by simpa using hc⟩, ?_⟩
  rintro ok x hq ⟨i, hi, hl, hx, hcq⟩
  cases hl
  refine ⟨fun hlt => ?_, fun hlt => ⟨hx, rfl⟩⟩
  have hlt : i < n + 3 := by simp at hlt; omega
  have hlen : (rowsL (List.replicate i (1, 0) ++ (lentL fates).drop i)).length = n + 3 := by unfold rowsL; rw [List.length_map, List.length_append, List.length_replicate, List.length_drop]; omega
  have hseg := rows_seg hcq (rowsL_len _) hlen
  obtain ⟨b1, o1, e1, a1, a2, a3⟩ := hseg.at (i := i) (by omega)
  cases e1
  have e3 : (rowsL (List.replicate i (1, 0) ++ (lentL fates).drop i))[i]'(by omega) = fateV ((lentL fates)[i]'(by omega)) := by
    unfold rowsL
    rw [List.getElem_map, List.getElem_append_right (by rw [List.length_replicate]; exact Nat.le_refl _)]
    simp
  rw [e3] at a3
  refine ⟨false, ⟨fun hin => ?_, fun hin => ⟨fun _ => ?_, fun hc => ?_⟩⟩, fun hB => (by cases hB), fun _ => ?_⟩
  · have hin : i < n := by simp at hin; omega
    have e2 : (lentL fates)[i]'(by omega) = fates[i]'(by omega) := by unfold lentL; rw [List.getElem_append_left]
    rw [e2] at a3
    have hfq : SegS hq p n 2 (fates.map fateV) := hf.keep fun b o hp hr => by
      have h0 : fates ≠ [] := fun e => hr (by rw [e]; rfl)
      exact hx.old b (hf.block (by decide) hp hr) (hne b o hp h0)
    obtain ⟨b, o, hp, h0, h1, hcc⟩ := hfq.at (i := i) (by simp; omega)
    have e : (fates.map fateV)[i]'(by simp; omega) = fateV (fates[i]'(by omega)) := by simp
    rw [e] at hcc
    refine ⟨_, _, rfl, a1, a2, _, _, a3, b, o, hp, h0, h1, _, _, hcc, true, ?_, fun hf => (by cases hf), fun _ => ⟨fun hf => (by simp at hf; omega), fun _ => ⟨rfl, rfl⟩⟩⟩
    have := eqv_ints (k := .i64) fateInts [(fates[i]'(by omega)).1, (fates[i]'(by omega)).2] [(fates[i]'(by omega)).1, (fates[i]'(by omega)).2] rfl rfl
    simpa using this
  · have hin : n ≤ i := by simp at hin; omega
    have e2 : (lentL fates)[i]'(by omega) = (-7, -7) := lentL_tail (by omega) _
    rw [e2] at a3
    refine ⟨_, _, rfl, a1, a2, _, _, a3, true, ?_, rfl, rfl⟩
    have := eqv_ints (k := .i64) fateInts [-7, -7] [-7, -7] rfl rfl
    simpa using this
  · exact ⟨rfl, rfl⟩
  · obtain ⟨w3, s3⟩ := rows_store (r := fateV (1, 0)) hcq (by decide) (rowsL_len _) rfl (i := i) (by omega)
    refine ⟨_, _, rfl, a1, a2, rfl, by simp [Value.oneCell'], w3, ?_⟩
    rintro h3 rfl
    rw [rowsL_set, over_next (by omega)] at s3
    exact ⟨_, incI (by omega), ⟨i + 1, hlt, rfl, hx.trans (setsH_same (B := fun b => b = q) rfl) fun x hx _ => hx, s3⟩, by simp only [numAt]; omega⟩

theorem same_c {h : Hp} {l : List Nat} (hlm : l.length ≤ 9223372036854775807) {p q : Option Addr} {n m c c' : Nat} (hp : Seg h p n (l.map vI)) (hq : Seg h q m (l.map vI)) : CallsH Try.prog 50 #[.slice p n c, .slice q m c'] h fun e h' => h' = h ∧ e = .returned (.bool true) := by
  have h1 : l.length = n := by have := hp.1; simpa using this
  have h2 : l.length = m := by have := hq.1; simpa using this
  subst h1
  subst h2
  refine V50 _ _ _ _ _ _ h _ ⟨fun hf => (by simp at hf), fun _ => ⟨fun v hr => ∃ i : Nat, i ≤ l.length ∧ v = [vI i] ∧ hr = h, fun v _ => (l.length - numAt v 0).toNat, ⟨0, Nat.zero_le _, rfl, rfl⟩, ?_⟩⟩
  rintro x hr ⟨i, hi, hl, rfl⟩
  cases hl
  refine ⟨fun hlt => ?_, fun hlt => ⟨rfl, rfl⟩⟩
  have hlt : i < l.length := by simp at hlt; omega
  obtain ⟨b, o, e1, a1⟩ := hp.at (i := i) (by simpa using hlt)
  obtain ⟨b', o', e2, a2⟩ := hq.at (i := i) (by simpa using hlt)
  refine ⟨b, o, e1, by omega, by omega, _, by simpa using a1, b', o', e2, by omega, by omega, _, by simpa using a2, fun hf => (by simp at hf), fun _ => ⟨_, incI (by omega), ⟨i + 1, hlt, rfl, rfl⟩, by simp only [numAt]; omega⟩⟩

/-! ## Pairs -/

/-- A pair in these blocks. -/
def PairIn (h : Hp) (B : Nat → Prop) (da db : Nat) (σ : DS) : Prop := ∃ Ba Bb, PairAt h Ba Bb da db σ ∧ (∀ b, Ba b → B b) ∧ (∀ b, Bb b → B b) ∧ ∀ b, B b → b < h.size

section
variable {h h' : Hp} {B C : Nat → Prop} {da db : Nat} {σ : DS}

theorem PairIn.lt (p : PairIn h B da db σ) : ∀ b, B b → b < h.size := let ⟨_, _, _, _, _, h⟩ := p; h
theorem PairIn.other (p : PairIn h B da db σ) (x : Same C h h') (hC : ∀ b, B b → ¬ C b) : PairIn h' B da db σ :=
  let ⟨Ba, Bb, p, h1, h2, h3⟩ := p
  ⟨Ba, Bb, p.other x (fun b hb => hC b (h1 b hb)) (fun b hb => hC b (h2 b hb)), h1, h2, fun b hb => Nat.lt_of_lt_of_le (h3 b hb) x.size⟩
theorem PairIn.ext (p : PairIn h B da db σ) (x : Ext h h') : PairIn h' B da db σ := p.other (x.same NoB) fun _ _ h => h
theorem PairIn.more (p : PairIn h B da db σ) (hC : ∀ b, B b → C b) (hl : ∀ b, C b → b < h.size) : PairIn h C da db σ :=
  let ⟨Ba, Bb, p, h1, h2, _⟩ := p
  ⟨Ba, Bb, p, fun b hb => hC b (h1 b hb), fun b hb => hC b (h2 b hb), hl⟩

end

end Go.Vc
