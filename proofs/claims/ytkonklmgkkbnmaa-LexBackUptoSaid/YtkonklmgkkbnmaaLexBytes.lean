/- Byte strings by their bytes: joined, cut, equal. -/
import Derived.Laws.BytesArg
import Derived.Test.YtkonklmgkkbnmaaWWords
namespace Go.Proofs.Ytkonklmgkkbnmaa.Pure
open Go.RowKit Go.Proofs.YtkonklmgkkbnmaaW.PrintWords
theorem bt_ext (s : ByteArray) {a b j : Nat} (hb : b ≤ s.size) (hj : a + j < b) : bt (s.extract a b) (j : Int) = bt s ((a + j : Nat) : Int) := by
  unfold bt
  have h1 : (j : Int).toNat < (s.extract a b).size := by rw [ByteArray.size_extract]; simp; omega
  have h2 : ((a + j : Nat) : Int).toNat < s.size := by simp; omega
  rw [dif_pos h1, dif_pos h2]
  congr 2
  have e : ((a + j : Nat) : Int).toNat = a + j := by omega
  simp only [ByteArray.getElem_extract]
  congr 1
theorem size_ext (s : ByteArray) {a b : Nat} (hb : b ≤ s.size) : (s.extract a b).size = b - a := by rw [ByteArray.size_extract]; omega
theorem bt_app_l (x y : ByteArray) {j : Nat} (h : j < x.size) : bt (x ++ y) (j : Int) = bt x (j : Int) := by
  unfold bt
  have h1 : (j : Int).toNat < (x ++ y).size := by rw [ByteArray.size_append]; simp; omega
  have h2 : (j : Int).toNat < x.size := by simpa using h
  rw [dif_pos h1, dif_pos h2]
  congr 2
  exact ByteArray.getElem_append_left h2
theorem bt_app_r (x y : ByteArray) {j : Nat} (h : x.size ≤ j) (h' : j < x.size + y.size) : bt (x ++ y) (j : Int) = bt y ((j - x.size : Nat) : Int) := by
  unfold bt
  have h1 : (j : Int).toNat < (x ++ y).size := by rw [ByteArray.size_append]; simp; omega
  have h2 : ((j - x.size : Nat) : Int).toNat < y.size := by simp; omega
  rw [dif_pos h1, dif_pos h2]
  congr 2
  have := ByteArray.getElem_append_right (i := (j : Int).toNat) (a := x) (b := y) (h := h1) (by simpa using h)
  rw [this]
  congr 1
theorem eq_of_bt {x y : ByteArray} (h : x.size = y.size) (hb : ∀ j : Nat, j < x.size → bt x (j : Int) = bt y (j : Int)) : x = y := by
  refine ByteArray.ext_getElem h (fun i hi hi' => ?_)
  have := hb i hi
  unfold bt at this
  rw [dif_pos (by simpa using hi), dif_pos (by simpa using hi')] at this
  simp only [Int.toNat_natCast] at this
  exact UInt8.toNat_inj.mp (by exact_mod_cast this)
theorem bt_one (c : Int) (h : 0 ≤ c ∧ c ≤ 255) : bt (strOfNums [c]) ((0 : Nat) : Int) = c := by
  unfold bt
  rw [dif_pos (by rw [strOfNums_size]; simp)]
  simp [strOfNums]
  obtain ⟨n, rfl⟩ : ∃ n : Nat, c = (n : Int) := ⟨c.toNat, by omega⟩
  show (((UInt8.ofNat n).toNat : Nat) : Int) = _
  rw [UInt8.toNat_ofNat']
  omega
end Go.Proofs.Ytkonklmgkkbnmaa.Pure
