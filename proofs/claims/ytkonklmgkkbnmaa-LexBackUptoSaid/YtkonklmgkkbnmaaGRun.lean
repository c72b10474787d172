/- lex.run, called with one of the three functions that the program hands it (not a line's end; of a name; a digit): it answers what its Lean function tells. -/
import Derived.Test.YtkonklmgkkbnmaaPAx2
namespace Go.Proofs.Ytkonklmgkkbnmaa.PA
open Go.RowKit Go.Proofs.YtkonklmgkkbnmaaW.PrintWords Go.Proofs.YtkonklmgkkbnmaaW.PrintLast Go.Proofs.YtkonklmgkkbnmaaW.PrintMore
set_option linter.unusedVariables false
set_option linter.unusedSimpArgs false

def lex_Scan_1.f (a0 : Int) : Option Bool := some (a0 != 10)
theorem lex_Scan_1.calls (a0 : Int) (r : Bool) (w : World) (h : lex_Scan_1.f a0 = some r) :
    Calls Try.prog 22 #[.int .u8 a0] w fun e w' => e = .returned (.bool r) ∧ Drawn0 w w' := by
  obtain rfl := Option.some.inj h
  clear h
  go_enter Try.func22, Try.ntmps22
  go_wp2
  go_ret
  exact ⟨rfl, Drawn0.refl _⟩

/-- The function that a function value of number f is: of the three that lex.run is handed. -/
def lex_such (f : Nat) (c : Int) : Option Bool := if f = 22 then lex_Scan_1.f c else if f = 24 then lex_inName.f c else if f = 25 then lex_digit.f c else none
def lex_run.l0 : Nat → ByteArray → Int → Nat → Option Int
  | 0, _, _, _ => none
  | k + 1, s, i, f => if i < (s.size : Int) then (if 0 ≤ i then ((lex_such f (bt s i)).bind fun t => (if t = true then lex_run.l0 k s (wrap64 (i + 1)) f else some i)) else none) else some i
def lex_run.f (k : Nat) (a0 : ByteArray) (a1 : Int) (a2 : Nat) : Option Int := if a2 = 22 ∨ a2 = 24 ∨ a2 = 25 then lex_run.l0 k a0 a1 a2 else none
theorem lex_run.mono_l : ∀ k, ∀ y0 y1 y2, LeO (lex_run.l0 k y0 y1 y2) (lex_run.l0 (k + 1) y0 y1 y2)
  | 0 => fun _ _ _ r h => by simp [lex_run.l0] at h
  | k + 1 => by
    have ih0 := lex_run.mono_l k
    intro y0 y1 y2
    unfold lex_run.l0
    refine LeO.ite (LeO.ite (LeO.bind (LeO.refl _) (fun _ => LeO.ite (ih0 _ _ _) (LeO.refl _))) (LeO.refl _)) (LeO.refl _)
theorem lex_run.mono : ∀ a0 a1 a2 k, LeO (lex_run.f k a0 a1 a2) (lex_run.f (k + 1) a0 a1 a2) := by
  intro a0 a1 a2 k
  unfold lex_run.f
  exact LeO.ite (lex_run.mono_l k _ _ _) (LeO.refl _)

set_option maxHeartbeats 8000000 in
set_option maxRecDepth 100000 in
theorem lex_run.calls22 (k : Nat) (a0 : ByteArray) (a1 : Int) (r : Int) (w : World) (h : lex_run.l0 k a0 a1 22 = some r) :
    Calls Try.prog 21 #[.string a0, .int .i64 a1, .func (.func 22) #[] #[]] w fun e w' => e = .returned (.int .i64 r) ∧ Drawn0 w w' := by
  have H' := Aside0.mk h
  clear h
  go_enter Try.func21, Try.ntmps21
  go_wp2
  go_loopg [1] k (fun kq v1 w' => ∃ (x1_1 : Int), v1 = .int .i64 x1_1 ∧ Aside0 (lex_run.l0 kq a0 x1_1 22 = some r) ∧ Aside0 (kq ≤ k) ∧ Drawn0 w w')
  case atStart => exact ⟨a1, rfl, H', ⟨Nat.le_refl _⟩, Drawn0.refl _⟩
  case round =>
    clear H'
    obtain ⟨x1_1, rfl, HA, HK1, ⟨m1, rfl⟩⟩ := hrel
    cases gk with
    | zero => exact absurd HA.out (by simp [lex_run.l0])
    | succ k1 =>
      have H := HA.out
      clear HA
      simp only [lex_run.l0] at H
      by_cases c2 : x1_1 < (a0.size : Int)
      · rw [if_pos c2] at H
        have c2b0 : decide (x1_1 < (a0.size : Int)) = true := decide_eq_true c2
        clear c2
        by_cases c3 : 0 ≤ x1_1
        · rw [if_pos c3] at H
          have c3b0 : decide (0 ≤ x1_1) = true := decide_eq_true c3
          clear c3
          replace H := Option.bind_eq_some_iff.mp H
          obtain ⟨t225, A50, H⟩ := H
          have A5 : Aside0 (lex_Scan_1.f (bt a0 x1_1) = some t225) := Aside0.mk A50
          clear A50
          by_cases c6 : t225 = true
          · subst c6
            have H1 : (lex_run.l0 k1 a0 (wrap64 (x1_1 + 1)) 22) = some r := by rw [if_pos rfl] at H; exact H
            clear H
            have H' := Aside0.mk H1
            clear H1
            have p4 : 0 ≤ (x1_1 : Int) := of_decide_eq_true c3b0
            have q4 : x1_1 < (a0.size : Int) := of_decide_eq_true c2b0
            have hx4 := bt_at a0 x1_1
            replace p4 := eq_true p4
            replace q4 := eq_true q4
            go_wp2_with (first | ((with_reducible refine gate_callee (f := 22) rfl ?_); refine goesL_ (some 16) rfl rfl Try.func22 (by kernel_rfl) rfl #[.int .u8 (bt a0 x1_1)] rfl (by (try simp only [List.map_toArray, List.map_cons, List.map_nil]); first | done | rfl) ?_; (with_reducible refine (lex_Scan_1.calls (bt a0 x1_1) true _ A5.out).mono ?_); rintro e w' ⟨rfl, ⟨nd, rfl⟩⟩; refine ⟨_, rfl, ?_⟩) | (go_at_call 22; (with_reducible refine (lex_Scan_1.calls (bt a0 x1_1) true _ A5.out).mono ?_); rintro e w' ⟨rfl, ⟨nd, rfl⟩⟩))
            go_roundg k1
            case measure => have := HK1.out; omega
            case rel => exact ⟨(wrap64 (x1_1 + 1)), (by first | rfl | (simp; done) | (simp [*]; done)), H', ⟨by have := HK1.out; omega⟩, by repeat (first | exact Drawn0.refl _ | apply Drawn0.step)⟩
          · replace c6 := Bool.eq_false_iff.mpr c6
            subst c6
            have H1 : (some x1_1) = some r := by rw [if_neg (show ¬ (false = true) by decide)] at H; exact H
            clear H
            obtain rfl := Option.some.inj H1
            clear H1
            have p4 : 0 ≤ (x1_1 : Int) := of_decide_eq_true c3b0
            have q4 : x1_1 < (a0.size : Int) := of_decide_eq_true c2b0
            have hx4 := bt_at a0 x1_1
            replace p4 := eq_true p4
            replace q4 := eq_true q4
            go_wp2_with (first | ((with_reducible refine gate_callee (f := 22) rfl ?_); refine goesL_ (some 16) rfl rfl Try.func22 (by kernel_rfl) rfl #[.int .u8 (bt a0 x1_1)] rfl (by (try simp only [List.map_toArray, List.map_cons, List.map_nil]); first | done | rfl) ?_; (with_reducible refine (lex_Scan_1.calls (bt a0 x1_1) false _ A5.out).mono ?_); rintro e w' ⟨rfl, ⟨nd, rfl⟩⟩; refine ⟨_, rfl, ?_⟩) | (go_at_call 22; (with_reducible refine (lex_Scan_1.calls (bt a0 x1_1) false _ A5.out).mono ?_); rintro e w' ⟨rfl, ⟨nd, rfl⟩⟩))
            go_ret
            exact ⟨by first | rfl | (simp; done) | (simp [*]; done), by repeat (first | exact Drawn0.refl _ | apply Drawn0.step)⟩
        · rw [if_neg c3] at H
          exact absurd H (by simp)
      · rw [if_neg c2] at H
        have c2b0 : decide (x1_1 < (a0.size : Int)) = false := decide_eq_false c2
        clear c2
        obtain rfl := Option.some.inj H
        clear H
        go_wp2
        go_ret
        exact ⟨by first | rfl | (simp; done) | (simp [*]; done), by repeat (first | exact Drawn0.refl _ | apply Drawn0.step)⟩

set_option maxHeartbeats 8000000 in
set_option maxRecDepth 100000 in
theorem lex_run.calls24 (k : Nat) (a0 : ByteArray) (a1 : Int) (r : Int) (w : World) (h : lex_run.l0 k a0 a1 24 = some r) :
    Calls Try.prog 21 #[.string a0, .int .i64 a1, .func (.func 24) #[] #[]] w fun e w' => e = .returned (.int .i64 r) ∧ Drawn0 w w' := by
  have H' := Aside0.mk h
  clear h
  go_enter Try.func21, Try.ntmps21
  go_wp2
  go_loopg [1] k (fun kq v1 w' => ∃ (x1_1 : Int), v1 = .int .i64 x1_1 ∧ Aside0 (lex_run.l0 kq a0 x1_1 24 = some r) ∧ Aside0 (kq ≤ k) ∧ Drawn0 w w')
  case atStart => exact ⟨a1, rfl, H', ⟨Nat.le_refl _⟩, Drawn0.refl _⟩
  case round =>
    clear H'
    obtain ⟨x1_1, rfl, HA, HK1, ⟨m1, rfl⟩⟩ := hrel
    cases gk with
    | zero => exact absurd HA.out (by simp [lex_run.l0])
    | succ k1 =>
      have H := HA.out
      clear HA
      simp only [lex_run.l0] at H
      by_cases c2 : x1_1 < (a0.size : Int)
      · rw [if_pos c2] at H
        have c2b0 : decide (x1_1 < (a0.size : Int)) = true := decide_eq_true c2
        clear c2
        by_cases c3 : 0 ≤ x1_1
        · rw [if_pos c3] at H
          have c3b0 : decide (0 ≤ x1_1) = true := decide_eq_true c3
          clear c3
          replace H := Option.bind_eq_some_iff.mp H
          obtain ⟨t225, A50, H⟩ := H
          have A5 : Aside0 (lex_inName.f (bt a0 x1_1) = some t225) := Aside0.mk A50
          clear A50
          by_cases c6 : t225 = true
          · subst c6
            have H1 : (lex_run.l0 k1 a0 (wrap64 (x1_1 + 1)) 24) = some r := by rw [if_pos rfl] at H; exact H
            clear H
            have H' := Aside0.mk H1
            clear H1
            have p4 : 0 ≤ (x1_1 : Int) := of_decide_eq_true c3b0
            have q4 : x1_1 < (a0.size : Int) := of_decide_eq_true c2b0
            have hx4 := bt_at a0 x1_1
            replace p4 := eq_true p4
            replace q4 := eq_true q4
            go_wp2_with (first | ((with_reducible refine gate_callee (f := 24) rfl ?_); refine goesL_ (some 16) rfl rfl Try.func24 (by kernel_rfl) rfl #[.int .u8 (bt a0 x1_1)] rfl (by (try simp only [List.map_toArray, List.map_cons, List.map_nil]); first | done | rfl) ?_; (with_reducible refine (lex_inName.calls (bt a0 x1_1) true _ A5.out).mono ?_); rintro e w' ⟨rfl, ⟨nd, rfl⟩⟩; refine ⟨_, rfl, ?_⟩) | (go_at_call 24; (with_reducible refine (lex_inName.calls (bt a0 x1_1) true _ A5.out).mono ?_); rintro e w' ⟨rfl, ⟨nd, rfl⟩⟩))
            go_roundg k1
            case measure => have := HK1.out; omega
            case rel => exact ⟨(wrap64 (x1_1 + 1)), (by first | rfl | (simp; done) | (simp [*]; done)), H', ⟨by have := HK1.out; omega⟩, by repeat (first | exact Drawn0.refl _ | apply Drawn0.step)⟩
          · replace c6 := Bool.eq_false_iff.mpr c6
            subst c6
            have H1 : (some x1_1) = some r := by rw [if_neg (show ¬ (false = true) by decide)] at H; exact H
            clear H
            obtain rfl := Option.some.inj H1
            clear H1
            have p4 : 0 ≤ (x1_1 : Int) := of_decide_eq_true c3b0
            have q4 : x1_1 < (a0.size : Int) := of_decide_eq_true c2b0
            have hx4 := bt_at a0 x1_1
            replace p4 := eq_true p4
            replace q4 := eq_true q4
            go_wp2_with (first | ((with_reducible refine gate_callee (f := 24) rfl ?_); refine goesL_ (some 16) rfl rfl Try.func24 (by kernel_rfl) rfl #[.int .u8 (bt a0 x1_1)] rfl (by (try simp only [List.map_toArray, List.map_cons, List.map_nil]); first | done | rfl) ?_; (with_reducible refine (lex_inName.calls (bt a0 x1_1) false _ A5.out).mono ?_); rintro e w' ⟨rfl, ⟨nd, rfl⟩⟩; refine ⟨_, rfl, ?_⟩) | (go_at_call 24; (with_reducible refine (lex_inName.calls (bt a0 x1_1) false _ A5.out).mono ?_); rintro e w' ⟨rfl, ⟨nd, rfl⟩⟩))
            go_ret
            exact ⟨by first | rfl | (simp; done) | (simp [*]; done), by repeat (first | exact Drawn0.refl _ | apply Drawn0.step)⟩
        · rw [if_neg c3] at H
          exact absurd H (by simp)
      · rw [if_neg c2] at H
        have c2b0 : decide (x1_1 < (a0.size : Int)) = false := decide_eq_false c2
        clear c2
        obtain rfl := Option.some.inj H
        clear H
        go_wp2
        go_ret
        exact ⟨by first | rfl | (simp; done) | (simp [*]; done), by repeat (first | exact Drawn0.refl _ | apply Drawn0.step)⟩

set_option maxHeartbeats 8000000 in
set_option maxRecDepth 100000 in
theorem lex_run.calls25 (k : Nat) (a0 : ByteArray) (a1 : Int) (r : Int) (w : World) (h : lex_run.l0 k a0 a1 25 = some r) :
    Calls Try.prog 21 #[.string a0, .int .i64 a1, .func (.func 25) #[] #[]] w fun e w' => e = .returned (.int .i64 r) ∧ Drawn0 w w' := by
  have H' := Aside0.mk h
  clear h
  go_enter Try.func21, Try.ntmps21
  go_wp2
  go_loopg [1] k (fun kq v1 w' => ∃ (x1_1 : Int), v1 = .int .i64 x1_1 ∧ Aside0 (lex_run.l0 kq a0 x1_1 25 = some r) ∧ Aside0 (kq ≤ k) ∧ Drawn0 w w')
  case atStart => exact ⟨a1, rfl, H', ⟨Nat.le_refl _⟩, Drawn0.refl _⟩
  case round =>
    clear H'
    obtain ⟨x1_1, rfl, HA, HK1, ⟨m1, rfl⟩⟩ := hrel
    cases gk with
    | zero => exact absurd HA.out (by simp [lex_run.l0])
    | succ k1 =>
      have H := HA.out
      clear HA
      simp only [lex_run.l0] at H
      by_cases c2 : x1_1 < (a0.size : Int)
      · rw [if_pos c2] at H
        have c2b0 : decide (x1_1 < (a0.size : Int)) = true := decide_eq_true c2
        clear c2
        by_cases c3 : 0 ≤ x1_1
        · rw [if_pos c3] at H
          have c3b0 : decide (0 ≤ x1_1) = true := decide_eq_true c3
          clear c3
          replace H := Option.bind_eq_some_iff.mp H
          obtain ⟨t225, A50, H⟩ := H
          have A5 : Aside0 (lex_digit.f (bt a0 x1_1) = some t225) := Aside0.mk A50
          clear A50
          by_cases c6 : t225 = true
          · subst c6
            have H1 : (lex_run.l0 k1 a0 (wrap64 (x1_1 + 1)) 25) = some r := by rw [if_pos rfl] at H; exact H
            clear H
            have H' := Aside0.mk H1
            clear H1
            have p4 : 0 ≤ (x1_1 : Int) := of_decide_eq_true c3b0
            have q4 : x1_1 < (a0.size : Int) := of_decide_eq_true c2b0
            have hx4 := bt_at a0 x1_1
            replace p4 := eq_true p4
            replace q4 := eq_true q4
            go_wp2_with (first | ((with_reducible refine gate_callee (f := 25) rfl ?_); refine goesL_ (some 16) rfl rfl Try.func25 (by kernel_rfl) rfl #[.int .u8 (bt a0 x1_1)] rfl (by (try simp only [List.map_toArray, List.map_cons, List.map_nil]); first | done | rfl) ?_; (with_reducible refine (lex_digit.calls (bt a0 x1_1) true _ A5.out).mono ?_); rintro e w' ⟨rfl, ⟨nd, rfl⟩⟩; refine ⟨_, rfl, ?_⟩) | (go_at_call 25; (with_reducible refine (lex_digit.calls (bt a0 x1_1) true _ A5.out).mono ?_); rintro e w' ⟨rfl, ⟨nd, rfl⟩⟩))
            go_roundg k1
            case measure => have := HK1.out; omega
            case rel => exact ⟨(wrap64 (x1_1 + 1)), (by first | rfl | (simp; done) | (simp [*]; done)), H', ⟨by have := HK1.out; omega⟩, by repeat (first | exact Drawn0.refl _ | apply Drawn0.step)⟩
          · replace c6 := Bool.eq_false_iff.mpr c6
            subst c6
            have H1 : (some x1_1) = some r := by rw [if_neg (show ¬ (false = true) by decide)] at H; exact H
            clear H
            obtain rfl := Option.some.inj H1
            clear H1
            have p4 : 0 ≤ (x1_1 : Int) := of_decide_eq_true c3b0
            have q4 : x1_1 < (a0.size : Int) := of_decide_eq_true c2b0
            have hx4 := bt_at a0 x1_1
            replace p4 := eq_true p4
            replace q4 := eq_true q4
            go_wp2_with (first | ((with_reducible refine gate_callee (f := 25) rfl ?_); refine goesL_ (some 16) rfl rfl Try.func25 (by kernel_rfl) rfl #[.int .u8 (bt a0 x1_1)] rfl (by (try simp only [List.map_toArray, List.map_cons, List.map_nil]); first | done | rfl) ?_; (with_reducible refine (lex_digit.calls (bt a0 x1_1) false _ A5.out).mono ?_); rintro e w' ⟨rfl, ⟨nd, rfl⟩⟩; refine ⟨_, rfl, ?_⟩) | (go_at_call 25; (with_reducible refine (lex_digit.calls (bt a0 x1_1) false _ A5.out).mono ?_); rintro e w' ⟨rfl, ⟨nd, rfl⟩⟩))
            go_ret
            exact ⟨by first | rfl | (simp; done) | (simp [*]; done), by repeat (first | exact Drawn0.refl _ | apply Drawn0.step)⟩
        · rw [if_neg c3] at H
          exact absurd H (by simp)
      · rw [if_neg c2] at H
        have c2b0 : decide (x1_1 < (a0.size : Int)) = false := decide_eq_false c2
        clear c2
        obtain rfl := Option.some.inj H
        clear H
        go_wp2
        go_ret
        exact ⟨by first | rfl | (simp; done) | (simp [*]; done), by repeat (first | exact Drawn0.refl _ | apply Drawn0.step)⟩

theorem lex_run.calls (k : Nat) (a0 : ByteArray) (a1 : Int) (a2 : Nat) (r : Int) (w : World) (h : lex_run.f k a0 a1 a2 = some r) :
    Calls Try.prog 21 #[.string a0, .int .i64 a1, .func (.func a2) #[] #[]] w fun e w' => e = .returned (.int .i64 r) ∧ Drawn0 w w' := by
  unfold lex_run.f at h
  by_cases c : a2 = 22 ∨ a2 = 24 ∨ a2 = 25
  · rw [if_pos c] at h
    rcases c with rfl | rfl | rfl
    · exact lex_run.calls22 k a0 a1 r w h
    · exact lex_run.calls24 k a0 a1 r w h
    · exact lex_run.calls25 k a0 a1 r w h
  · rw [if_neg c] at h
    cases h
end Go.Proofs.Ytkonklmgkkbnmaa.PA
