/- The document's circuits: the check of any operation, walked. -/
import Derived.Test.YtlobgpgdknjhlaaGreatWhW
namespace Go.Proofs.YtlobgpgdknjhlaaGreat.WH
open Go Go.RowKit Go.Proofs.YtlobgpgdknjhlaaGreat.F
set_option linter.unusedVariables false
set_option linter.unusedSimpArgs false
attribute [local go_sem] run_store_complex run_store_func
/-- Any operation. -/
structure Oq where
  kind : Int
  name : ByteArray
  aq : Option Addr
  cq : Nat
  qs : List Int
  bit : Int
  iff : Bool
  mask : Nat
  val : Nat
def Oq.cs (g : Oq) : List Value := [.int .i64 g.kind, .string g.name, .slice g.aq g.qs.length g.cq, .int .i64 g.bit, .bool g.iff, .int .u64 g.mask, .int .u64 g.val]
def IsB (e : Ending) : Prop := ∃ v : Bool, e = .returned (.bool v)
set_option maxRecDepth 100000 in
theorem beyond_calls (x : Nat) (b : Int) (w : World) : Calls Tryz.prog 86 #[.int .u64 x, .int .i64 b] w fun e w' => IsB e ∧ w' = w := by
  go_enter Tryz.func86, Tryz.ntmps86
  by_cases h : b < 64
  · have h1 : decide (b < 64) = true := decide_eq_true h
    go_wp2_with fail
    all_goals (
      go_ret
      exact ⟨⟨_, rfl⟩, rfl⟩)
  · have h1 : decide (b < 64) = false := decide_eq_false h
    go_wp2_with fail
    all_goals (
      go_ret
      exact ⟨⟨_, rfl⟩, rfl⟩)
def ShapeOk (kind bit : Int) (iff : Bool) (mask val : Nat) (e : Int) : Prop := e = 0 → (kind = 1 → bit = 0) ∧ (iff = false → mask = 0 ∧ val = 0)
theorem ShapeOk.err {kind bit : Int} {iff : Bool} {mask val : Nat} {e : Int} (h : e ≠ 0) : ShapeOk kind bit iff mask val e := fun h' => absurd h' h
set_option maxRecDepth 100000 in
set_option maxHeartbeats 4000000 in
theorem shape_calls (kind bit b : Int) (name : ByteArray) (aq : Option Addr) (ql cq mask val : Nat) (iff : Bool) (w : World) : Calls Tryz.prog 59 #[.agg #[.int .i64 kind, .string name, .slice aq ql cq, .int .i64 bit, .bool iff, .int .u64 mask, .int .u64 val], .int .i64 b] w fun x w' => ∃ e : Int, x = .returned (.int .i64 e) ∧ ShapeOk kind bit iff mask val e ∧ Below w.heap.size w w' := by
  have g := beyond_calls mask b
  by_cases h1 : kind < 1
  · have d1 : decide (kind < 1) = true := decide_eq_true h1
    go_enter Tryz.func59, Tryz.ntmps59
    go_wp2_with fail
    go_ret
    exact ⟨_, rfl, ShapeOk.err (by decide), below1 _ _⟩
  · have d1 : decide (kind < 1) = false := decide_eq_false h1
    by_cases h2 : 3 < kind
    · have d2 : decide (3 < kind) = true := decide_eq_true h2
      go_enter Tryz.func59, Tryz.ntmps59
      go_wp2_with fail
      go_ret
      exact ⟨_, rfl, ShapeOk.err (by decide), below1 _ _⟩
    · have d2 : decide (3 < kind) = false := decide_eq_false h2
      cases iff with
      | false =>
        go_enter Tryz.func59, Tryz.ntmps59
        go_wp2_with fail
        all_goals (
          go_ret
          first
          | exact ⟨_, rfl, ShapeOk.err (by decide), below1 _ _⟩
          | (refine ⟨_, rfl, ?_, below1 _ _⟩; unfold ShapeOk; simp_all; done))
      | true =>
        go_enter Tryz.func59, Tryz.ntmps59
        go_wp2_with (go_at_call 86; refine (g _).mono ?_; rintro e w' ⟨⟨v, rfl⟩, rfl⟩)
        all_goals (
          go_ret
          first
          | exact ⟨_, rfl, ShapeOk.err (by decide), below1 _ _⟩
          | (refine ⟨_, rfl, ?_, below1 _ _⟩; unfold ShapeOk; simp_all; done))
/-- A slice of whole numbers. -/
structure IntsZ (w : World) (a : Option Addr) (c : Nat) (qs : List Int) : Prop where
  len : qs.length ≤ c
  cap : c ≤ 9223372036854775807
  at_ : qs = [] ∨ ∃ b off, a = some ⟨b, off, none⟩ ∧ ∀ (j : Nat) (h : j < qs.length), w.cell? ⟨b, off + j, none⟩ = some (.int .i64 qs[j])
theorem IntsZ.below {w w' : World} {a : Option Addr} {c : Nat} {qs : List Int} (h : IntsZ w a c qs) (hb : Below w.heap.size w w') : IntsZ w' a c qs :=
  { h with at_ := h.at_.imp id fun ⟨b, off, ha, hc⟩ => ⟨b, off, ha, fun j hj => (hb.cell (p := ⟨b, off + j, none⟩) (block_lt (hc j hj))).trans (hc j hj)⟩ }
theorem IntsZ.at {w : World} {a : Option Addr} {c : Nat} {qs : List Int} (h : IntsZ w a c qs) (j : Nat) (hj : j < qs.length) :
    ∃ b o, b < w.heap.size ∧ (∀ W, (Instr.indexAt 22 (Value.slice a qs.length c) (.int .i64 j)).run Tryz.prog W = .ok (.pointer (some ⟨b, o, none⟩)) W) ∧ w.cell? ⟨b, o, none⟩ = some (.int .i64 qs[j]) := by
  rcases h.at_ with rfl | ⟨b, off, rfl, hc⟩
  · simp at hj
  · refine ⟨b, off + j, block_lt (hc j hj), fun W => ?_, hc j hj⟩
    have hs : ∀ W, (Go.sizeOf (Tryz.prog.elem 22)).run Tryz.prog W = .ok 1 W := fun _ => by kernel_rfl
    rw [run_indexAt_slice _ 22 _ _ _ _ _ (by kernel_rfl), if_pos ⟨by omega, by exact_mod_cast hj⟩, hs]
    simp [Result.andThen, Addr.add]
/-- What an operation without an error is. -/
structure Fine (n : Int) (kind : Int) (name : ByteArray) (qs : List Int) (bit : Int) (iff : Bool) (mask val : Nat) : Prop where
  gate : kind = 1 → ∃ en ∈ gates, en.name = name ∧ qs.length = en.ar
  bit : kind = 1 → bit = 0
  rng : ∀ i (h : i < qs.length), 0 ≤ qs[i] ∧ qs[i] < n
  nd : ∀ i (h : i < qs.length) j (h' : j < i), qs[i] ≠ qs[j]
  cond : iff = false → mask = 0 ∧ val = 0
def FineOk (n : Int) (kind : Int) (name : ByteArray) (qs : List Int) (bit : Int) (iff : Bool) (mask val : Nat) (e : Int) : Prop := e = 0 → Fine n kind name qs bit iff mask val
theorem FineOk.err {n kind bit : Int} {name : ByteArray} {qs : List Int} {iff : Bool} {mask val : Nat} {e : Int} (h : e ≠ 0) : FineOk n kind name qs bit iff mask val e := fun h' => absurd h' h
set_option maxRecDepth 100000 in
set_option maxHeartbeats 4000000 in
theorem rfault1_calls (n b : Int)  (bit : Int) (name : ByteArray) (aq : Option Addr) (cq mask val : Nat) (iff : Bool) (qs : List Int) (w : World) (h : IntsZ w aq cq qs) : Calls Tryz.prog 26 #[.agg #[.int .i64 1, .string name, .slice aq qs.length cq, .int .i64 bit, .bool iff, .int .u64 mask, .int .u64 val], .int .i64 n, .int .i64 b] w fun x w' => ∃ e : Int, x = .returned (.int .i64 e) ∧ FineOk n 1 name qs bit iff mask val e ∧ Below w.heap.size w w' := by
  have HI := Lib.hid h
  have g59 := fun w => shape_calls 1 bit b name aq qs.length cq mask val iff w
  have HS := Lib.hid (BoxSt.start w #[.int .i64 1, .string name, .slice aq qs.length cq, .int .i64 bit, .bool iff, .int .u64 mask, .int .u64 val] 28)
  have hlc : (qs.length : Int) ≤ 9223372036854775807 := by have := h.len; have := h.cap; omega
  clear h
  go_enter Tryz.func26, Tryz.ntmps26
  go_wp2_with fail
  generalize w.alloc (.cells #[.int .i64 1, .string name, .slice aq qs.length cq, .int .i64 bit, .bool iff, .int .u64 mask, .int .u64 val] 28) = W1 at *
  go_at_call 59
  refine (g59 _).mono ?_
  rintro x w1 ⟨e, rfl, hok, hb⟩
  replace HS := Lib.hid (HS.out.next hb)
  have HOK := Lib.hid hok
  clear hb g59 hok
  by_cases he0 : e = 0
  · subst he0
    have HSH := Lib.hid (HOK.out rfl)
    clear HOK
    have p0 := cell_at (i := 0) HS.out.blk rfl
    have p1 := cell_at (i := 1) HS.out.blk rfl
    have p2 := cell_at (i := 2) HS.out.blk rfl
    have p3 := cell_at (i := 3) HS.out.blk rfl
    rcases gname_or name with ⟨en, he, hen⟩ | hno
    · have g : Calls Tryz.prog 25 #[.string name] w1 fun x w' => x = .returned (.int .i64 (en.ar : Int)) ∧ w' = w1 := by rw [← hen]; exact rarity_calls en he w1
      have har := ar_le en he
      have HE := Lib.hid (And.intro he hen)
      clear he hen
      have h01 : ((en.ar : Int) == 0) = false := by rw [beq_eq_false_iff_ne]; omega
      by_cases hl : qs.length = en.ar
      · have HL := Lib.hid hl
        rw [← hl] at g h01
        clear hl
        go_wp2_with (go_at_call 25; refine g.mono ?_; rintro x w2 ⟨rfl, rfl⟩)
        clear p0 p1 p2 p3
        go_loopw [9] (fun k W => ∃ j : Nat, j ≤ qs.length ∧ k = .int .i64 j ∧ (∀ i (h : i < qs.length), i < j → 0 ≤ qs[i] ∧ qs[i] < n) ∧ BoxSt w #[.int .i64 1, .string name, .slice aq qs.length cq, .int .i64 bit, .bool iff, .int .u64 mask, .int .u64 val] 28 W) (fun k _ => qs.length - (intOf k).toNat)
        case atStart => exact ⟨0, Nat.zero_le _, rfl, fun i _ h => absurd h (Nat.not_lt_zero _), HS.out⟩
        case round =>
          obtain ⟨j, hj, rfl, hall, hst⟩ := hrel
          clear HS
          have HS := Lib.hid hst
          have HALL := Lib.hid hall
          clear hall hst
          have p0 := cell_at (i := 0) HS.out.blk rfl
          have p2 := cell_at (i := 2) HS.out.blk rfl
          have p3 := cell_at (i := 3) HS.out.blk rfl
          by_cases hlt : j < qs.length
          · obtain ⟨b', o, hbl, hidx, hc⟩ := (HI.out.below HS.out.below).at j hlt
            have HJ : Hid (0 ≤ qs[j] ∧ qs[j] < n → ∀ i (h : i < qs.length), i < j + 1 → 0 ≤ qs[i] ∧ qs[i] < n) := Lib.hid fun h i hi hij => by
              by_cases e : i = j
              · subst e; exact h
              · exact HALL.out i hi (by omega)
            generalize qs[j] = q at *
            by_cases hq0 : q < 0
            · have d0 : decide (q < 0) = true := decide_eq_true hq0
              go_wp2_with fail
              go_ret
              exact ⟨_, rfl, FineOk.err (by decide), HS.out.below⟩
            · have d0 : decide (q < 0) = false := decide_eq_false hq0
              by_cases hq1 : n ≤ q
              · have d1 : decide (n ≤ q) = true := decide_eq_true hq1
                go_wp2_with fail
                go_ret
                exact ⟨_, rfl, FineOk.err (by decide), HS.out.below⟩
              · have d1 : decide (n ≤ q) = false := decide_eq_false hq1
                have HJ2 := Lib.hid (HJ.out ⟨by omega, by omega⟩)
                go_wp2_with fail
                go_roundw
                case rel => exact ⟨j + 1, by omega, by go_num, HJ2.out, HS.out⟩
                case measure => simp [intOf]; omega
          · obtain rfl : j = qs.length := by omega
            go_wp2_with fail
            clear p0 p2 p3
            go_loopw [10, 11] (fun k _ W => ∃ j : Nat, j ≤ qs.length ∧ k = .int .i64 j ∧ (∀ i (h : i < qs.length) i' (h' : i' < i), i < j → qs[i] ≠ qs[i']) ∧ BoxSt w #[.int .i64 1, .string name, .slice aq qs.length cq, .int .i64 bit, .bool iff, .int .u64 mask, .int .u64 val] 28 W) (fun k _ _ => qs.length - (intOf k).toNat)
            case atStart => exact ⟨0, Nat.zero_le _, rfl, fun i _ _ _ h => absurd h (Nat.not_lt_zero _), HS.out⟩
            case round =>
              obtain ⟨j, hj, rfl, hall2, hst⟩ := hrel
              clear HS
              have HS := Lib.hid hst
              have HALL2 := Lib.hid hall2
              clear hall2 hst
              by_cases hlt : j < qs.length
              · go_wp2_with fail
                go_loopw [11] (fun k W => ∃ i : Nat, i ≤ j ∧ k = .int .i64 i ∧ (∀ i' (h : i' < i) (hh : i' < qs.length), qs[j] ≠ qs[i']) ∧ BoxSt w #[.int .i64 1, .string name, .slice aq qs.length cq, .int .i64 bit, .bool iff, .int .u64 mask, .int .u64 val] 28 W) (fun k _ => j - (intOf k).toNat)
                case atStart => exact ⟨0, Nat.zero_le _, rfl, fun i h => absurd h (Nat.not_lt_zero _), HS.out⟩
                case round =>
                  obtain ⟨i, hi, rfl, hin, hst⟩ := hrel
                  clear HS
                  have HS := Lib.hid hst
                  have HIN := Lib.hid hin
                  clear hin hst
                  have p2 := cell_at (i := 2) HS.out.blk rfl
                  by_cases hli : i < j
                  · obtain ⟨b', o, hbl, hidx, hc⟩ := (HI.out.below HS.out.below).at j hlt
                    obtain ⟨b2, o2, hbl2, hidx2, hc2⟩ := (HI.out.below HS.out.below).at i (by omega)
                    have HNEW : Hid (qs[j] ≠ qs[i] → ∀ i' (h : i' < i + 1) (hh : i' < qs.length), qs[j] ≠ qs[i']) := Lib.hid fun h i' hi' hh => by
                      by_cases e : i' = i
                      · subst e; exact h
                      · exact HIN.out i' (by omega) hh
                    generalize qs[j] = q at *
                    generalize qs[i] = p at *
                    by_cases hpq : q = p
                    · have d : (q == p) = true := by rw [beq_iff_eq]; exact hpq
                      clear hpq
                      go_wp2_with fail
                      go_quiet (fail)
                      go_wp2_with fail
                      go_ret
                      exact ⟨_, rfl, FineOk.err (by decide), belowD HS.out.below _⟩
                    · have d : (q == p) = false := by rw [beq_eq_false_iff_ne]; exact hpq
                      have HN2 := Lib.hid (HNEW.out hpq)
                      clear hpq
                      go_wp2_with fail
                      go_quiet (fail)
                      go_wp2_with fail
                      go_roundw
                      case rel => exact ⟨i + 1, by omega, by go_num, HN2.out, HS.out.next (belowD (Below.refl _ _) _)⟩
                      case measure => simp [intOf]; omega
                  · obtain rfl : i = j := by omega
                    have HN2 : Hid (∀ i'' (h : i'' < qs.length) i' (h' : i' < i''), i'' < i + 1 → qs[i''] ≠ qs[i']) := Lib.hid fun i'' h i' h' hl => by
                      by_cases e : i'' = i
                      · subst e; exact HIN.out i' h' (by omega)
                      · exact HALL2.out i'' h i' h' (by omega)
                    go_wp2_with fail
                    go_roundw
                    case rel => exact ⟨i + 1, by omega, by go_num, HN2.out, HS.out⟩
                    case measure => simp [intOf]; omega
              · obtain rfl : j = qs.length := by omega
                go_wp2_with fail
                go_ret
                exact ⟨_, rfl, fun _ => ⟨fun _ => ⟨en, HE.out.1, HE.out.2, HL.out⟩, fun _ => HSH.out.1 trivial, fun i h => HALL.out i h h, fun i h i' h' => HALL2.out i h i' h' h, HSH.out.2⟩, HS.out.below⟩
      · have hl1 : ((qs.length : Int) != (en.ar : Int)) = true := by simp; omega
        go_wp2_with (go_at_call 25; refine g.mono ?_; rintro x w2 ⟨rfl, rfl⟩)
        go_ret
        exact ⟨_, rfl, FineOk.err (by decide), HS.out.below⟩
    · have g := rarity_none name hno w1
      clear hno
      go_wp2_with (go_at_call 25; refine g.mono ?_; rintro x w2 ⟨rfl, rfl⟩)
      go_ret
      exact ⟨_, rfl, FineOk.err (by decide), HS.out.below⟩
  · have he1 : (e != 0) = true := by simpa using he0
    go_wp2_with fail
    go_ret
    exact ⟨e, rfl, FineOk.err he0, HS.out.below⟩
set_option maxRecDepth 100000 in
set_option maxHeartbeats 4000000 in
theorem rfaultN_calls (n b : Int) (kind : Int) (bit : Int) (name : ByteArray) (aq : Option Addr) (cq mask val : Nat) (iff : Bool) (qs : List Int) (w : World) (h : IntsZ w aq cq qs) (hk : kind ≠ 1) : Calls Tryz.prog 26 #[.agg #[.int .i64 kind, .string name, .slice aq qs.length cq, .int .i64 bit, .bool iff, .int .u64 mask, .int .u64 val], .int .i64 n, .int .i64 b] w fun x w' => ∃ e : Int, x = .returned (.int .i64 e) ∧ FineOk n kind name qs bit iff mask val e ∧ Below w.heap.size w w' := by
  have HI := Lib.hid h
  have g59 := fun w => shape_calls kind bit b name aq qs.length cq mask val iff w
  have HS := Lib.hid (BoxSt.start w #[.int .i64 kind, .string name, .slice aq qs.length cq, .int .i64 bit, .bool iff, .int .u64 mask, .int .u64 val] 28)
  have hlc : (qs.length : Int) ≤ 9223372036854775807 := by have := h.len; have := h.cap; omega
  have HK := Lib.hid hk
  have hk1 : (kind == 1) = false := by rw [beq_eq_false_iff_ne]; exact hk
  clear h hk
  go_enter Tryz.func26, Tryz.ntmps26
  go_wp2_with fail
  generalize w.alloc (.cells #[.int .i64 kind, .string name, .slice aq qs.length cq, .int .i64 bit, .bool iff, .int .u64 mask, .int .u64 val] 28) = W1 at *
  go_at_call 59
  refine (g59 _).mono ?_
  rintro x w1 ⟨e, rfl, hok, hb⟩
  replace HS := Lib.hid (HS.out.next hb)
  have HOK := Lib.hid hok
  clear hb g59 hok
  by_cases he0 : e = 0
  · subst he0
    have HSH := Lib.hid (HOK.out rfl)
    clear HOK
    have p0 := cell_at (i := 0) HS.out.blk rfl
    have p1 := cell_at (i := 1) HS.out.blk rfl
    have p2 := cell_at (i := 2) HS.out.blk rfl
    have p3 := cell_at (i := 3) HS.out.blk rfl
    by_cases hl : qs.length = 1
    · have hl1 : ((qs.length : Int) != 1) = false := by rw [hl]; rfl
      have hle : (qs.length : Int) ≤ 1 := by omega
      have hge : (1 : Int) ≤ (qs.length : Int) := by omega
      clear hl
      go_wp2_with fail
      clear p0 p1 p2 p3
      go_loopw [9] (fun k W => ∃ j : Nat, j ≤ qs.length ∧ k = .int .i64 j ∧ (∀ i (h : i < qs.length), i < j → 0 ≤ qs[i] ∧ qs[i] < n) ∧ BoxSt w #[.int .i64 kind, .string name, .slice aq qs.length cq, .int .i64 bit, .bool iff, .int .u64 mask, .int .u64 val] 28 W) (fun k _ => qs.length - (intOf k).toNat)
      case atStart => exact ⟨0, Nat.zero_le _, rfl, fun i _ h => absurd h (Nat.not_lt_zero _), HS.out⟩
      case round =>
        obtain ⟨j, hj, rfl, hall, hst⟩ := hrel
        clear HS
        have HS := Lib.hid hst
        have HALL := Lib.hid hall
        clear hall hst
        have p0 := cell_at (i := 0) HS.out.blk rfl
        have p2 := cell_at (i := 2) HS.out.blk rfl
        have p3 := cell_at (i := 3) HS.out.blk rfl
        by_cases hlt : j < qs.length
        · have ht : (j : Int) < 1 := by omega
          obtain ⟨b', o, hbl, hidx, hc⟩ := (HI.out.below HS.out.below).at j hlt
          have HJ : Hid (0 ≤ qs[j] ∧ qs[j] < n → ∀ i (h : i < qs.length), i < j + 1 → 0 ≤ qs[i] ∧ qs[i] < n) := Lib.hid fun h i hi hij => by
            by_cases e : i = j
            · subst e; exact h
            · exact HALL.out i hi (by omega)
          generalize qs[j] = q at *
          by_cases hq0 : q < 0
          · have d0 : decide (q < 0) = true := decide_eq_true hq0
            go_wp2_with fail
            go_ret
            exact ⟨_, rfl, FineOk.err (by decide), HS.out.below⟩
          · have d0 : decide (q < 0) = false := decide_eq_false hq0
            by_cases hq1 : n ≤ q
            · have d1 : decide (n ≤ q) = true := decide_eq_true hq1
              go_wp2_with fail
              go_ret
              exact ⟨_, rfl, FineOk.err (by decide), HS.out.below⟩
            · have d1 : decide (n ≤ q) = false := decide_eq_false hq1
              have HJ2 := Lib.hid (HJ.out ⟨by omega, by omega⟩)
              go_wp2_with fail
              go_roundw
              case rel => exact ⟨j + 1, by omega, by go_num, HJ2.out, HS.out⟩
              case measure => simp [intOf]; omega
        · obtain rfl : j = qs.length := by omega
          by_cases hb2 : kind = 2
          · have hk2 : (kind == 2) = true := by rw [beq_iff_eq]; exact hb2
            by_cases hb0 : bit < 0
            · have d0 : decide (bit < 0) = true := decide_eq_true hb0
              go_wp2_with fail
              go_ret
              exact ⟨_, rfl, FineOk.err (by decide), HS.out.below⟩
            · have d0 : decide (bit < 0) = false := decide_eq_false hb0
              by_cases hb1 : b ≤ bit
              · have d1 : decide (b ≤ bit) = true := decide_eq_true hb1
                go_wp2_with fail
                go_ret
                exact ⟨_, rfl, FineOk.err (by decide), HS.out.below⟩
              · have d1 : decide (b ≤ bit) = false := decide_eq_false hb1
                go_wp2_with fail
                clear p0 p2 p3
                go_loopw [10, 11] (fun k _ W => ∃ j : Nat, j ≤ qs.length ∧ k = .int .i64 j ∧ (∀ i (h : i < qs.length) i' (h' : i' < i), i < j → qs[i] ≠ qs[i']) ∧ BoxSt w #[.int .i64 kind, .string name, .slice aq qs.length cq, .int .i64 bit, .bool iff, .int .u64 mask, .int .u64 val] 28 W) (fun k _ _ => qs.length - (intOf k).toNat)
                case atStart => exact ⟨0, Nat.zero_le _, rfl, fun i _ _ _ h => absurd h (Nat.not_lt_zero _), HS.out⟩
                case round =>
                  obtain ⟨j, hj, rfl, hall2, hst⟩ := hrel
                  clear HS
                  have HS := Lib.hid hst
                  have HALL2 := Lib.hid hall2
                  clear hall2 hst
                  by_cases hlt : j < qs.length
                  · have ht : (j : Int) < 1 := by omega
                    go_wp2_with fail
                    go_loopw [11] (fun k W => ∃ i : Nat, i ≤ j ∧ k = .int .i64 i ∧ (∀ i' (h : i' < i) (hh : i' < qs.length), qs[j] ≠ qs[i']) ∧ BoxSt w #[.int .i64 kind, .string name, .slice aq qs.length cq, .int .i64 bit, .bool iff, .int .u64 mask, .int .u64 val] 28 W) (fun k _ => j - (intOf k).toNat)
                    case atStart => exact ⟨0, Nat.zero_le _, rfl, fun i h => absurd h (Nat.not_lt_zero _), HS.out⟩
                    case round =>
                      obtain ⟨i, hi, rfl, hin, hst⟩ := hrel
                      clear HS
                      have HS := Lib.hid hst
                      have HIN := Lib.hid hin
                      clear hin hst
                      have p2 := cell_at (i := 2) HS.out.blk rfl
                      by_cases hli : i < j
                      · have ht : (j : Int) < 1 := by omega
                        obtain ⟨b', o, hbl, hidx, hc⟩ := (HI.out.below HS.out.below).at j hlt
                        obtain ⟨b2, o2, hbl2, hidx2, hc2⟩ := (HI.out.below HS.out.below).at i (by omega)
                        have HNEW : Hid (qs[j] ≠ qs[i] → ∀ i' (h : i' < i + 1) (hh : i' < qs.length), qs[j] ≠ qs[i']) := Lib.hid fun h i' hi' hh => by
                          by_cases e : i' = i
                          · subst e; exact h
                          · exact HIN.out i' (by omega) hh
                        generalize qs[j] = q at *
                        generalize qs[i] = p at *
                        by_cases hpq : q = p
                        · have d : (q == p) = true := by rw [beq_iff_eq]; exact hpq
                          clear hpq
                          go_wp2_with fail
                          go_quiet (fail)
                          go_wp2_with fail
                          go_ret
                          exact ⟨_, rfl, FineOk.err (by decide), belowD HS.out.below _⟩
                        · have d : (q == p) = false := by rw [beq_eq_false_iff_ne]; exact hpq
                          have HN2 := Lib.hid (HNEW.out hpq)
                          clear hpq
                          go_wp2_with fail
                          go_quiet (fail)
                          go_wp2_with fail
                          go_roundw
                          case rel => exact ⟨i + 1, by omega, by go_num, HN2.out, HS.out.next (belowD (Below.refl _ _) _)⟩
                          case measure => simp [intOf]; omega
                      · obtain rfl : i = j := by omega
                        have HN2 : Hid (∀ i'' (h : i'' < qs.length) i' (h' : i' < i''), i'' < i + 1 → qs[i''] ≠ qs[i']) := Lib.hid fun i'' h i' h' hl => by
                          by_cases e : i'' = i
                          · subst e; exact HIN.out i' h' (by omega)
                          · exact HALL2.out i'' h i' h' (by omega)
                        go_wp2_with fail
                        go_roundw
                        case rel => exact ⟨i + 1, by omega, by go_num, HN2.out, HS.out⟩
                        case measure => simp [intOf]; omega
                  · obtain rfl : j = qs.length := by omega
                    go_wp2_with fail
                    go_ret
                    exact ⟨_, rfl, fun _ => ⟨fun h => absurd h HK.out, fun h => absurd h HK.out, fun i h => HALL.out i h h, fun i h i' h' => HALL2.out i h i' h' h, HSH.out.2⟩, HS.out.below⟩
          · have hk2 : (kind == 2) = false := by rw [beq_eq_false_iff_ne]; exact hb2
            go_wp2_with fail
            clear p0 p2 p3
            go_loopw [10, 11] (fun k _ W => ∃ j : Nat, j ≤ qs.length ∧ k = .int .i64 j ∧ (∀ i (h : i < qs.length) i' (h' : i' < i), i < j → qs[i] ≠ qs[i']) ∧ BoxSt w #[.int .i64 kind, .string name, .slice aq qs.length cq, .int .i64 bit, .bool iff, .int .u64 mask, .int .u64 val] 28 W) (fun k _ _ => qs.length - (intOf k).toNat)
            case atStart => exact ⟨0, Nat.zero_le _, rfl, fun i _ _ _ h => absurd h (Nat.not_lt_zero _), HS.out⟩
            case round =>
              obtain ⟨j, hj, rfl, hall2, hst⟩ := hrel
              clear HS
              have HS := Lib.hid hst
              have HALL2 := Lib.hid hall2
              clear hall2 hst
              by_cases hlt : j < qs.length
              · have ht : (j : Int) < 1 := by omega
                go_wp2_with fail
                go_loopw [11] (fun k W => ∃ i : Nat, i ≤ j ∧ k = .int .i64 i ∧ (∀ i' (h : i' < i) (hh : i' < qs.length), qs[j] ≠ qs[i']) ∧ BoxSt w #[.int .i64 kind, .string name, .slice aq qs.length cq, .int .i64 bit, .bool iff, .int .u64 mask, .int .u64 val] 28 W) (fun k _ => j - (intOf k).toNat)
                case atStart => exact ⟨0, Nat.zero_le _, rfl, fun i h => absurd h (Nat.not_lt_zero _), HS.out⟩
                case round =>
                  obtain ⟨i, hi, rfl, hin, hst⟩ := hrel
                  clear HS
                  have HS := Lib.hid hst
                  have HIN := Lib.hid hin
                  clear hin hst
                  have p2 := cell_at (i := 2) HS.out.blk rfl
                  by_cases hli : i < j
                  · have ht : (j : Int) < 1 := by omega
                    obtain ⟨b', o, hbl, hidx, hc⟩ := (HI.out.below HS.out.below).at j hlt
                    obtain ⟨b2, o2, hbl2, hidx2, hc2⟩ := (HI.out.below HS.out.below).at i (by omega)
                    have HNEW : Hid (qs[j] ≠ qs[i] → ∀ i' (h : i' < i + 1) (hh : i' < qs.length), qs[j] ≠ qs[i']) := Lib.hid fun h i' hi' hh => by
                      by_cases e : i' = i
                      · subst e; exact h
                      · exact HIN.out i' (by omega) hh
                    generalize qs[j] = q at *
                    generalize qs[i] = p at *
                    by_cases hpq : q = p
                    · have d : (q == p) = true := by rw [beq_iff_eq]; exact hpq
                      clear hpq
                      go_wp2_with fail
                      go_quiet (fail)
                      go_wp2_with fail
                      go_ret
                      exact ⟨_, rfl, FineOk.err (by decide), belowD HS.out.below _⟩
                    · have d : (q == p) = false := by rw [beq_eq_false_iff_ne]; exact hpq
                      have HN2 := Lib.hid (HNEW.out hpq)
                      clear hpq
                      go_wp2_with fail
                      go_quiet (fail)
                      go_wp2_with fail
                      go_roundw
                      case rel => exact ⟨i + 1, by omega, by go_num, HN2.out, HS.out.next (belowD (Below.refl _ _) _)⟩
                      case measure => simp [intOf]; omega
                  · obtain rfl : i = j := by omega
                    have HN2 : Hid (∀ i'' (h : i'' < qs.length) i' (h' : i' < i''), i'' < i + 1 → qs[i''] ≠ qs[i']) := Lib.hid fun i'' h i' h' hl => by
                      by_cases e : i'' = i
                      · subst e; exact HIN.out i' h' (by omega)
                      · exact HALL2.out i'' h i' h' (by omega)
                    go_wp2_with fail
                    go_roundw
                    case rel => exact ⟨i + 1, by omega, by go_num, HN2.out, HS.out⟩
                    case measure => simp [intOf]; omega
              · obtain rfl : j = qs.length := by omega
                go_wp2_with fail
                go_ret
                exact ⟨_, rfl, fun _ => ⟨fun h => absurd h HK.out, fun h => absurd h HK.out, fun i h => HALL.out i h h, fun i h i' h' => HALL2.out i h i' h' h, HSH.out.2⟩, HS.out.below⟩

    · have hl1 : ((qs.length : Int) != 1) = true := by simp; omega
      go_wp2_with fail
      go_ret
      exact ⟨_, rfl, FineOk.err (by decide), HS.out.below⟩
  · have he1 : (e != 0) = true := by simpa using he0
    go_wp2_with fail
    go_ret
    exact ⟨e, rfl, FineOk.err he0, HS.out.below⟩
end Go.Proofs.YtlobgpgdknjhlaaGreat.WH
