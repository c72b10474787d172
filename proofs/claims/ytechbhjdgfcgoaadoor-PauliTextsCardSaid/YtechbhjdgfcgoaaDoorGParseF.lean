/- pauli.Parse as a plain function, and its contract. -/
import Derived.Test.YtechbhjdgfcgoaaDoorGParse
namespace Go.Proofs.YtechbhjdgfcgoaaDoor.PA
open Go.RowKit Go.Proofs.YtechbhjdgfcgoaaDoorW.PrintWords Go.Proofs.YtechbhjdgfcgoaaDoorW.PrintLast Go.Proofs.YtechbhjdgfcgoaaDoorW.PrintMore
set_option linter.unusedVariables false
def r1Of (l : List UInt8) : List UInt8 := if Lib.hasPrefix l [45] = true then Lib.trimPrefix l [45] else Lib.trimPrefix l [43]
def restOf (l : List UInt8) : List UInt8 := Lib.trimPrefix (r1Of l) [105]
def isLet (c : UInt8) : Bool := [73, 88, 89, 90].contains c
def parseOf (l : List UInt8) : Int × Int × Int × Int × Int :=
  if (restOf l).all isLet = true then
    (if (restOf l).length ≤ 64 then (((restOf l).length : Int), ((bitsOf 88 89 (restOf l) 0 : Nat) : Int), ((bitsOf 90 89 (restOf l) 0 : Nat) : Int), ph (Lib.hasPrefix l [45]) (Lib.hasPrefix (r1Of l) [105]), 0) else (0, 0, 0, 0, 1))
  else (0, 0, 0, 0, 70)
def pauli_Parse.f (a0 : ByteArray) : Option (Int × Int × Int × Int × Int) := if a0.size ≤ 9223372036854775807 then some (parseOf a0.data.toList) else none
theorem all_drop {p : UInt8 → Bool} : ∀ {l : List UInt8}, l.dropWhile p = [] ↔ l.all p = true
  | [] => by simp
  | c :: l => by
    rw [List.dropWhile_cons, List.all_cons]
    cases h : p c with
    | true => simp only [if_true, Bool.true_and]; exact all_drop
    | false => simp
theorem trim_nil {l cs : List UInt8} : Lib.trimS l cs = [] ↔ l.all (cs.contains ·) = true := by
  unfold Lib.trimS Lib.trimLeftS Lib.trimRightS
  rw [all_drop, List.all_reverse]
  constructor
  · intro h
    rw [← List.all_reverse, ← all_drop]
    cases hd : l.reverse.dropWhile (cs.contains ·) with
    | nil => rfl
    | cons c r =>
      rw [hd, List.all_cons] at h
      have h1 : cs.contains c = true := by
        cases hc : cs.contains c with
        | true => rfl
        | false => rw [hc] at h; cases h
      have := List.head_dropWhile_not (p := (cs.contains ·)) (l := l.reverse) (by rw [hd]; simp)
      simp only [hd, List.head_cons] at this
      rw [h1] at this
      cases this
  · intro h
    have : l.reverse.dropWhile (cs.contains ·) = [] := all_drop.mpr (by rw [List.all_reverse]; exact h)
    rw [this]
    rfl
theorem trimPrefix_le (l p : List UInt8) : (Lib.trimPrefix l p).length ≤ l.length := by
  unfold Lib.trimPrefix
  split
  · rw [List.length_drop]; omega
  · exact Nat.le_refl _
theorem rest_le (l : List UInt8) : (restOf l).length ≤ l.length := by
  have h1 := trimPrefix_le (r1Of l) [105]
  have h2 : (r1Of l).length ≤ l.length := by
    unfold r1Of
    split
    · exact trimPrefix_le _ _
    · exact trimPrefix_le _ _
  exact Nat.le_trans h1 h2
def strL (l : List UInt8) : ByteArray := ⟨l.toArray⟩
theorem ways (a : ByteArray) (ha : a.size ≤ 9223372036854775807) : Ways (Lib.hasPrefix a.data.toList [45]) (Lib.hasPrefix (r1Of a.data.toList) [105]) a (strL (restOf a.data.toList)) (strL (Lib.trimS (restOf a.data.toList) [73, 88, 89, 90])) := by
  refine ⟨strL (Lib.trimPrefix a.data.toList [45]), strL (r1Of a.data.toList), strL (restOf a.data.toList), ?_, fun _ => rfl, ?_, ?_, ?_, ?_, ?_⟩
  · intro h
    unfold r1Of
    rw [if_pos h]
  · intro h
    unfold restOf
    conv => rhs; unfold Lib.trimPrefix
    rw [if_neg (by rw [h]; decide)]
  · exact fun w => cut_prefix a ⟨#[45]⟩ w
  · intro h w
    have := trim_prefix a ⟨#[43]⟩ w
    unfold r1Of
    rw [if_neg (by rw [h]; decide)]
    exact this
  · exact fun w => cut_prefix (strL (r1Of a.data.toList)) ⟨#[105]⟩ w
  · refine fun w => trim (strL (restOf a.data.toList)) w ?_
    have h1 := rest_le a.data.toList
    have h2 : (strL (restOf a.data.toList)).size = (restOf a.data.toList).length := rfl
    have h3 : a.data.toList.length = a.size := rfl
    omega
theorem pauli_Parse.calls (a0 : ByteArray) (r1 : Int) (r2 : Int) (r3 : Int) (r4 : Int) (r5 : Int) (w : World) (h : pauli_Parse.f a0 = some (r1, r2, r3, r4, r5)) :
    Calls Tryd.prog 7 #[.string a0] w fun e w' => e = .returned (.tuple #[.agg #[.int .i64 r1, .int .u64 r2, .int .u64 r3, .int .i64 r4], .int .i64 r5]) ∧ Below w.heap.size w w' := by
  unfold pauli_Parse.f at h
  by_cases ha : a0.size ≤ 9223372036854775807
  · rw [if_pos ha] at h
    have hw := ways a0 ha
    have hr := Option.some.inj h
    clear h
    have hT : (strL (Lib.trimS (restOf a0.data.toList) [73, 88, 89, 90])).toList = Lib.trimS (restOf a0.data.toList) [73, 88, 89, 90] := Lib.toList_data _
    unfold parseOf at hr
    by_cases hl : (restOf a0.data.toList).all isLet = true
    · have hnil : (strL (Lib.trimS (restOf a0.data.toList) [73, 88, 89, 90])).toList = [] := by rw [hT]; exact trim_nil.mpr hl
      rw [if_pos hl] at hr
      by_cases h64 : (restOf a0.data.toList).length ≤ 64
      · rw [if_pos h64] at hr
        simp only [Prod.mk.injEq] at hr
        obtain ⟨rfl, rfl, rfl, rfl, rfl⟩ := hr
        refine parse_ok _ _ a0 (strL (restOf a0.data.toList)) _ w hw hnil h64 (fun c hc => ?_)
        have := List.all_eq_true.mp hl c hc
        unfold isLet at this
        unfold Letter
        simpa using this
      · rw [if_neg h64] at hr
        simp only [Prod.mk.injEq] at hr
        obtain ⟨rfl, rfl, rfl, rfl, rfl⟩ := hr
        exact parse_long _ _ a0 (strL (restOf a0.data.toList)) _ w hw hnil (Nat.lt_of_not_le h64)
    · rw [if_neg hl] at hr
      simp only [Prod.mk.injEq] at hr
      obtain ⟨rfl, rfl, rfl, rfl, rfl⟩ := hr
      exact parse_bad _ _ a0 (strL (restOf a0.data.toList)) _ w hw (by rw [hT]; exact fun h => hl (trim_nil.mp h))
  · rw [if_neg ha] at h
    cases h
end Go.Proofs.YtechbhjdgfcgoaaDoor.PA
