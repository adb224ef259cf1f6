/- What the texts of a seat share that has no frames. -/
import Derived.Test.YtloieaoglpjffaaS3V
import Derived.Test.YtloieaoglpjffaaFrM
import Derived.Test.YtloieaoglpjffaaVcO
import Derived.Test.YtloieaoglpjffaaVcL
set_option maxRecDepth 10000
namespace Go.Vc
open Go Go.Proofs

abbrev vU (n : Nat) : Value := .int .u64 (n : Int)
abbrev vB (b : UInt8) : Value := .int .u8 (b.toNat : Int)
abbrev bl (b : ByteArray) : List UInt8 := b.data.toList
def tx (l : List UInt8) : ByteArray := ⟨l.toArray⟩
theorem bl_tx (l : List UInt8) : bl (tx l) = l := by simp [bl, tx]
theorem tx_size (l : List UInt8) : (tx l).size = l.length := by show Array.size _ = _; simp
theorem bl_length (s : ByteArray) : (bl s).length = s.size := by simp [bl]
theorem bl_inj {a b : ByteArray} (h : bl a = bl b) : a = b := by
  apply ByteArray.ext; exact Array.toList_inj.1 h
theorem bl_append (a b : ByteArray) : bl (a ++ b) = bl a ++ bl b := by
  show (a ++ b).data.toList = _
  rw [ByteArray.data_append, Array.toList_append]
theorem bl_extract (s : ByteArray) (i j : Nat) : bl (s.extract i j) = ((bl s).drop i).take (j - i) := by
  show (s.extract i j).data.toList = _
  rw [Lib.extract_data]
theorem byteVs_length (L : List UInt8) : (byteVs L).length = L.length := by simp [byteVs]
theorem byteAt {b : ByteArray} {i : Nat} (h : i < b.size) : b[i]? = some b[i] := by
  rw [getElem?_pos b i h]
theorem byteD {s : ByteArray} {i : Nat} (h : i < s.size) : s[i]? = some ((bl s).getD i 0) := by
  rw [byteAt h]
  have hl : i < (bl s).length := by rw [bl_length]; exact h
  rw [List.getD_eq_getElem?_getD, List.getElem?_eq_getElem hl]
  rfl
theorem uStr : Try.prog.underlying 9 = some .string := by kernel_rfl
theorem uBs : Try.prog.underlying 28 = some (.slice 5) := by kernel_rfl
theorem uB : Try.prog.underlying 5 = some (.int .u8) := by kernel_rfl
theorem rowB : RowT Try.prog 28 5 1 1 := RowT.of (by kernel_rfl)

end Go.Vc
