/- The package bits: walked. -/
import Derived.Test.YtlobgpgdknjhlaaGreatWhE
import Derived.BigQuiet
namespace Go.Proofs.YtlobgpgdknjhlaaGreat.WH
open Go Go.RowKit Go.Proofs.YtlobgpgdknjhlaaGreat.F
set_option linter.unusedVariables false
set_option linter.unusedSimpArgs false

/-- A slice of whole numbers from 0 on. -/
structure Ints (w : World) (a : Option Addr) (c : Nat) (qs : List Nat) : Prop where
  len : qs.length ≤ c
  cap : c ≤ 9223372036854775807
  at_ : qs = [] ∨ ∃ b off, a = some ⟨b, off, none⟩ ∧ ∀ (j : Nat) (h : j < qs.length), w.cell? ⟨b, off + j, none⟩ = some (.int .i64 (qs[j] : Nat))
theorem block_lt {w : World} {b o : Nat} {v : Value} (h : w.cell? ⟨b, o, none⟩ = some v) : b < w.heap.size := World.block_lt_of_cell? w ⟨b, o, none⟩ h
theorem Ints.below {w w' : World} {a : Option Addr} {c : Nat} {qs : List Nat} (h : Ints w a c qs) (hb : Below w.heap.size w w') : Ints w' a c qs :=
  { h with at_ := h.at_.imp id fun ⟨b, off, ha, hc⟩ => ⟨b, off, ha, fun j hj => (hb.cell (p := ⟨b, off + j, none⟩) (block_lt (hc j hj))).trans (hc j hj)⟩ }
theorem Ints.at {w : World} {a : Option Addr} {c : Nat} {qs : List Nat} (h : Ints w a c qs) (j : Nat) (hj : j < qs.length) :
    ∃ b o, b < w.heap.size ∧ (∀ W, (Instr.indexAt 22 (Value.slice a qs.length c) (.int .i64 j)).run Tryz.prog W = .ok (.pointer (some ⟨b, o, none⟩)) W) ∧ w.cell? ⟨b, o, none⟩ = some (.int .i64 (qs[j] : Nat)) := by
  rcases h.at_ with rfl | ⟨b, off, rfl, hc⟩
  · simp at hj
  · refine ⟨b, off + j, block_lt (hc j hj), fun W => ?_, hc j hj⟩
    have hs : ∀ W, (Go.sizeOf (Tryz.prog.elem 22)).run Tryz.prog W = .ok 1 W := fun _ => by kernel_rfl
    rw [run_indexAt_slice _ 22 _ _ _ _ _ (by kernel_rfl), if_pos ⟨by omega, by exact_mod_cast hj⟩, hs]
    simp [Result.andThen, Addr.add]
theorem List.Nodup.not_mem_take {l : List Nat} (h : l.Nodup) {j : Nat} (hj : j < l.length) : l[j] ∉ l.take j := by
  intro hm
  obtain ⟨i, hi, he⟩ := List.mem_iff_getElem.1 hm
  rw [List.getElem_take] at he
  have h1 := List.length_take (i := j) (l := l)
  have := (List.getElem_inj h).1 he
  omega
/-- The set of the first places. -/
def setOf (qs : List Nat) : Nat := qs.foldl (fun s q => s ||| 2 ^ q) 0
theorem setOf_bit (qs : List Nat) : ∀ (s i : Nat), (qs.foldl (fun s q => s ||| 2 ^ q) s).testBit i = (s.testBit i || decide (i ∈ qs)) := by
  induction qs with
  | nil => intro s i; simp
  | cons q qs ih =>
    intro s i
    rw [List.foldl_cons, ih, Nat.testBit_or, Nat.testBit_two_pow]
    by_cases h : q = i
    · subst h; simp
    · simp [h, show ¬ i = q from fun e => h e.symm]
theorem setOf_testBit (qs : List Nat) (i : Nat) : (setOf qs).testBit i = decide (i ∈ qs) := by
  unfold setOf
  rw [setOf_bit]
  simp
theorem setOf_lt {qs : List Nat} (h : ∀ q ∈ qs, q < 64) : setOf qs < 2 ^ 64 := by
  refine Nat.lt_pow_two_of_testBit _ fun i hi => ?_
  rw [setOf_testBit, decide_eq_false_iff_not]
  intro hm
  have := h i hm
  omega
theorem setOf_snoc (qs : List Nat) (q : Nat) : setOf (qs ++ [q]) = setOf qs ||| 2 ^ q := by
  unfold setOf
  rw [List.foldl_append]
  rfl
theorem shl1 {i : Nat} (hi : i < 64) : IntKind.u64.wrap (2 ^ i) = ((2 ^ i : Nat) : Int) := by
  rw [show ((2 : Int) ^ i) = ((2 ^ i : Nat) : Int) by push_cast; rfl]
  exact B.wrapn (Nat.pow_lt_pow_right (by decide) hi)
theorem bit_of {x : Nat} (hx : x < 2 ^ 64) (q : Nat) : Go.bits .and .u64 ((x : Int) / 2 ^ q) 1 = ((if x.testBit q then 1 else 0 : Nat) : Int) := by
  rw [show ((x : Int) / 2 ^ q) = ((x / 2 ^ q : Nat) : Int) by push_cast; rfl, show (1 : Int) = ((1 : Nat) : Int) from rfl, B.and_u (Nat.lt_of_le_of_lt (Nat.div_le_self _ _) hx) (by decide), Nat.and_one_is_mod, ← Nat.shiftRight_eq_div_pow]
  congr 1
  rw [Nat.testBit_eq_decide_div_mod_eq, Nat.shiftRight_eq_div_pow]
  have := Nat.mod_two_eq_zero_or_one (x / 2 ^ q)
  rcases this with h | h <;> simp [h]
structure Places (qs : List Nat) : Prop where
  lt : ∀ q ∈ qs, q < 64
  nd : qs.Nodup
set_option maxRecDepth 100000 in
theorem right_calls (a : Option Addr) (c : Nat) (qs : List Nat) (w : World) (h : Ints w a c qs) (hp : Places qs) : Calls Tryz.prog 82 #[.slice a qs.length c] w fun e w' => e = .returned (.bool true) ∧ w' = w := by
  have HI := Lib.hid h
  have HP := Lib.hid hp
  have hlc : (qs.length : Int) ≤ 9223372036854775807 := by have := h.len; have := h.cap; omega
  clear h hp
  go_enter Tryz.func82, Tryz.ntmps82
  go_wp2_with fail
  go_loopw [3, 8] (fun s k W => ∃ j : Nat, j ≤ qs.length ∧ k = .int .i64 j ∧ s = .int .u64 (setOf (qs.take j)) ∧ W = w) (fun _ k _ => qs.length - (intOf k).toNat)
  case atStart => exact ⟨0, Nat.zero_le _, rfl, rfl, rfl⟩
  case round =>
    obtain ⟨j, hj, rfl, rfl, rfl⟩ := hrel
    by_cases hlt : j < qs.length
    · obtain ⟨b, o, hbl, hidx, hc⟩ := HI.out.at j hlt
      have hq := HP.out.lt _ (List.getElem_mem hlt)
      have hS : setOf (qs.take j) < 2 ^ 64 := setOf_lt fun q hq => HP.out.lt q (List.mem_of_mem_take hq)
      have hnot : (setOf (qs.take j)).testBit qs[j] = false := by
        rw [setOf_testBit, decide_eq_false_iff_not]
        exact List.Nodup.not_mem_take HP.out.nd hlt
      have hbit := bit_of hS qs[j]
      rw [hnot] at hbit
      have HNX : Hid (Value.int .u64 (Go.bits .or .u64 ((setOf (qs.take j) : Nat) : Int) (IntKind.u64.wrap (2 ^ qs[j]))) = .int .u64 ((setOf (qs.take (j + 1)) : Nat) : Int)) := Lib.hid (by
        rw [shl1 hq, B.or_u hS (Nat.pow_lt_pow_right (by decide) hq), ← setOf_snoc, List.take_succ_eq_append_getElem hlt])
      clear hnot hS
      simp only [Bool.false_eq_true, if_false, Int.ofNat_zero] at hbit
      generalize setOf (qs.take j) = S at *
      generalize qs[j] = q at *
      have hqI : (q : Int) < 64 := by omega
      have hq0 : (0 : Int) ≤ q := by omega
      go_wp2_with fail
      go_roundw
      case rel => exact ⟨j + 1, by omega, by go_num, HNX.out, by first | rfl | trivial⟩
      case measure => simp [intOf]; omega
    · obtain rfl : j = qs.length := by omega
      go_wp2_with fail
      go_ret
      exact ⟨rfl, rfl⟩
theorem or_bit {f : Nat → Bool} {i : Nat} (hi : i < 64) (h : f i = true) : Go.bits .or .u64 ((B.ofB f i : Nat) : Int) (IntKind.u64.wrap (2 ^ i)) = ((B.ofB f (i + 1) : Nat) : Int) := by
  rw [shl1 hi, B.or_u (B.ofB_lt f i (by omega)) (Nat.pow_lt_pow_right (by decide) hi), B.or_setB (B.ofB_lt' f i), B.ofB_succ, h]
theorem or_nil {f : Nat → Bool} {i : Nat} (hi : i < 64) (h : f i = false) : Go.bits .or .u64 ((B.ofB f i : Nat) : Int) 0 = ((B.ofB f (i + 1) : Nat) : Int) := by
  rw [show (0 : Int) = ((0 : Nat) : Int) from rfl, B.or_u (B.ofB_lt f i (by omega)) (by decide), Nat.or_zero, B.ofB_succ, h, ← B.same_setB (B.ofB_lt' f i)]
def pickN (x : Nat) (qs : List Nat) : Nat := B.ofB (fun k => x.testBit (qs[k]?.getD 0)) qs.length
set_option maxRecDepth 100000 in
theorem pick_calls (x : Nat) (a : Option Addr) (c : Nat) (qs : List Nat) (w : World) (hx : x < 2 ^ 64) (h : Ints w a c qs) (hp : Places qs) (hl : qs.length ≤ 64) : Calls Tryz.prog 53 #[.int .u64 x, .slice a qs.length c] w fun e w' => e = .returned (.tuple #[.int .u64 (pickN x qs), .int .i64 0]) ∧ w' = w := by
  have g1 := right_calls a c qs w h hp
  have HI := Lib.hid h
  have HP := Lib.hid hp
  have hlc : (qs.length : Int) ≤ 64 := by omega
  clear h hp
  go_enter Tryz.func53, Tryz.ntmps53
  go_wp2_with fail
  go_at_call 82
  refine g1.mono ?_
  rintro e w' ⟨rfl, rfl⟩
  go_wp2_with fail
  go_loopw [6, 14] (fun s k W => ∃ j : Nat, j ≤ qs.length ∧ k = .int .i64 j ∧ s = .int .u64 (B.ofB (fun k => x.testBit (qs[k]?.getD 0)) j) ∧ W = w') (fun _ k _ => qs.length - (intOf k).toNat)
  case atStart => exact ⟨0, Nat.zero_le _, rfl, rfl, rfl⟩
  case round =>
    obtain ⟨j, hj, rfl, rfl, rfl⟩ := hrel
    by_cases hlt : j < qs.length
    · obtain ⟨b, o, hbl, hidx, hc⟩ := HI.out.at j hlt
      have hq := HP.out.lt _ (List.getElem_mem hlt)
      have hbit := bit_of hx qs[j]
      have hd : qs[j]?.getD 0 = qs[j] := by simp [hlt]
      generalize qs[j] = q at *
      have hqI : (q : Int) < 64 := by omega
      have hq0 : (0 : Int) ≤ q := by omega
      cases hb : x.testBit q with
      | true =>
        rw [hb] at hbit
        simp only [if_true] at hbit
        have HNX := Lib.hid (or_bit (f := fun k => x.testBit (qs[k]?.getD 0)) (i := j) (by omega) (by simp only [hd]; exact hb))
        go_wp2_with fail
        go_roundw
        case rel => exact ⟨j + 1, by omega, by go_num, congrArg (Value.int .u64) HNX.out, by first | rfl | trivial⟩
        case measure => simp [intOf]; omega
      | false =>
        rw [hb] at hbit
        simp only [Bool.false_eq_true, if_false] at hbit
        have HNX := Lib.hid (or_nil (f := fun k => x.testBit (qs[k]?.getD 0)) (i := j) (by omega) (by simp only [hd]; exact hb))
        go_wp2_with fail
        go_roundw
        case rel => exact ⟨j + 1, by omega, by go_num, congrArg (Value.int .u64) HNX.out, by first | rfl | trivial⟩
        case measure => simp [intOf]; omega
    · obtain rfl : j = qs.length := by omega
      go_wp2_with fail
      refine bodyPost_ret (v := .tuple #[.int .u64 (pickN x qs), .int .i64 0]) (by simp [results, Tryz.results53, go_sem, pickN, *]) rfl ⟨rfl, rfl⟩
def putN (x : Nat) (qs : List Nat) (v : Nat) : Nat → Nat
  | 0 => x
  | j + 1 => B.setB (putN x qs v j) (qs[j]?.getD 0) (v.testBit j)
theorem putN_lt {x : Nat} {qs : List Nat} {v : Nat} (hx : x < 2 ^ 64) (hp : ∀ q ∈ qs, q < 64) : ∀ j, j ≤ qs.length → putN x qs v j < 2 ^ 64
  | 0, _ => hx
  | j + 1, h => by
    have hq : qs[j]?.getD 0 < 64 := by
      rw [List.getElem?_eq_getElem (by omega)]
      exact hp _ (List.getElem_mem (by omega))
    exact B.setB_lt (putN_lt hx hp j (by omega)) hq
theorem put_one {X q : Nat} (hX : X < 2 ^ 64) (hq : q < 64) : Go.bits .or .u64 (Go.bits .andNot .u64 (X : Int) (IntKind.u64.wrap (2 ^ q))) (IntKind.u64.wrap (2 ^ q)) = ((B.setB X q true : Nat) : Int) := by
  rw [shl1 hq]
  obtain ⟨c, e, hc, hb⟩ := B.andNot_u (a := X) (b := 2 ^ q) hX (Nat.pow_lt_pow_right (by decide) hq)
  rw [e, B.or_u hc (Nat.pow_lt_pow_right (by decide) hq)]
  congr 1
  refine Nat.eq_of_testBit_eq fun i => ?_
  rw [Nat.testBit_or, hb, B.testBit_setB, Nat.testBit_two_pow]
  by_cases h : q = i
  · subst h; simp
  · simp [h, show ¬ i = q from fun e => h e.symm]
theorem put_nil {X q : Nat} (hX : X < 2 ^ 64) (hq : q < 64) : Go.bits .or .u64 (Go.bits .andNot .u64 (X : Int) (IntKind.u64.wrap (2 ^ q))) 0 = ((B.setB X q false : Nat) : Int) := by
  rw [shl1 hq]
  obtain ⟨c, e, hc, hb⟩ := B.andNot_u (a := X) (b := 2 ^ q) hX (Nat.pow_lt_pow_right (by decide) hq)
  rw [e, show (0 : Int) = ((0 : Nat) : Int) from rfl, B.or_u hc (by decide), Nat.or_zero]
  congr 1
  refine Nat.eq_of_testBit_eq fun i => ?_
  rw [hb, B.testBit_setB, Nat.testBit_two_pow]
  by_cases h : q = i
  · subst h; simp
  · simp [h, show ¬ i = q from fun e => h e.symm]
set_option maxRecDepth 100000 in
set_option maxHeartbeats 1000000 in
theorem put_calls (x v : Nat) (a : Option Addr) (c : Nat) (qs : List Nat) (w : World) (hx : x < 2 ^ 64) (h : Ints w a c qs) (hp : Places qs) (hl : qs.length < 64) (hv : v < 2 ^ qs.length) : Calls Tryz.prog 54 #[.int .u64 x, .slice a qs.length c, .int .u64 v] w fun e w' => e = .returned (.tuple #[.int .u64 (putN x qs v qs.length), .int .i64 0]) ∧ ∃ n, w' = w.drewN n := by
  have g1 := right_calls a c qs w h hp
  have HI := Lib.hid h
  have HP := Lib.hid hp
  have hlc : (qs.length : Int) < 64 := by omega
  have hv0 : ((v : Int) / 2 ^ qs.length != 0) = false := by
    rw [show ((v : Int) / 2 ^ qs.length) = ((v / 2 ^ qs.length : Nat) : Int) by push_cast; rfl, Nat.div_eq_of_lt hv]
    rfl
  have hv64 : v < 2 ^ 64 := Nat.lt_of_lt_of_le hv (Nat.pow_le_pow_right (by decide) (by omega))
  clear h hp
  go_enter Tryz.func54, Tryz.ntmps54
  go_wp2_with fail
  go_at_call 82
  refine g1.mono ?_
  rintro e w' ⟨rfl, rfl⟩
  go_wp2_with fail
  have mixed : Tryz.prog.follows Departure.mixedOrders = true := by kernel_rfl
  go_loopw [0, 27] (fun s k W => ∃ j : Nat, j ≤ qs.length ∧ k = .int .i64 j ∧ s = .int .u64 (putN x qs v j) ∧ ∃ n, W = w'.drewN n) (fun _ k _ => qs.length - (intOf k).toNat)
  case atStart => exact ⟨0, Nat.zero_le _, rfl, rfl, 0, rfl⟩
  case round =>
    obtain ⟨j, hj, rfl, rfl, n, hw⟩ := hrel
    have HW := Lib.hid hw
    have HI2 := Lib.hid (HI.out.below (belowD (Below.refl _ _) n))
    rw [← hw] at HI2
    clear hw
    by_cases hlt : j < qs.length
    · obtain ⟨b, o, hbl, hidx, hc⟩ := HI2.out.at j hlt
      have hq := HP.out.lt _ (List.getElem_mem hlt)
      have hX := putN_lt (v := v) hx HP.out.lt j hj
      have hbit := bit_of hv64 j
      have HD : Hid (qs[j]?.getD 0 = qs[j]) := Lib.hid (by simp [hlt])
      have HST : Hid (putN x qs v (j + 1) = B.setB (putN x qs v j) (qs[j]?.getD 0) (v.testBit j)) := Lib.hid rfl
      generalize putN x qs v j = X at *
      generalize qs[j] = q at *
      have hqI : (q : Int) < 64 := by omega
      have hq0 : (0 : Int) ≤ q := by omega
      cases hb : v.testBit j with
      | true =>
        rw [hb] at hbit HST
        simp only [if_true] at hbit
        have HNX := Lib.hid (put_one hX hq)
        go_wp2_with fail
        go_quiet (fail)
        go_wp2_with fail
        go_roundw
        case rel => exact ⟨j + 1, by omega, by go_num, congrArg (Value.int .u64) (HNX.out.trans (by rw [← HD.out, ← HST.out])), n + nq, by rw [HW.out, World.drewN_drewN]⟩
        case measure => simp [intOf]; omega
      | false =>
        rw [hb] at hbit HST
        simp only [Bool.false_eq_true, if_false] at hbit
        have HNX := Lib.hid (put_nil hX hq)
        go_wp2_with fail
        go_quiet (fail)
        go_wp2_with fail
        go_roundw
        case rel => exact ⟨j + 1, by omega, by go_num, congrArg (Value.int .u64) (HNX.out.trans (by rw [← HD.out, ← HST.out])), n + nq, by rw [HW.out, World.drewN_drewN]⟩
        case measure => simp [intOf]; omega
    · obtain rfl : j = qs.length := by omega
      go_wp2_with fail
      refine bodyPost_ret (v := .tuple #[.int .u64 (putN x qs v qs.length), .int .i64 0]) (by simp [results, Tryz.results54, go_sem, *]) rfl ⟨rfl, n, HW.out⟩
end Go.Proofs.YtlobgpgdknjhlaaGreat.WH
