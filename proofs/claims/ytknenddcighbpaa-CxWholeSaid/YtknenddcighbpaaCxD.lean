/- cx.Dot of two numbers with themselves: the sum of their norms. -/
import Derived.Test.YtknenddcighbpaaCxB
import Derived.LoopN
import Derived.Handy
import Derived.Deep.Cut
import Derived.Deep.QuietTactic
import Derived.Deep.Draws
import Derived.Laws.Cover2
namespace Go.Proofs.Ytknenddcighbpaa.CX
open Go.RowKit Go.Proofs.Ytknenddcighbpaa.F
set_option linter.unusedVariables false
set_option linter.unusedSimpArgs false
attribute [local go_sem] run_real run_imag run_complex run_fneg
theorem rep_0 : Rep 0 0 := ⟨false, 0, 1074, by decide +kernel, by rw [sg_zero, Int.zero_mul]⟩
theorem rep_1 : Rep 4607182418800017408 1 := ⟨false, 2 ^ 52, 52, by decide +kernel, by decide⟩
theorem sq1 (A B : Int) : A * A - B * -B = A * A + B * B := by rw [Int.mul_neg, Int.sub_neg]
theorem sq2 (A B : Int) : A * -B + B * A = 0 := by rw [Int.mul_neg, Int.mul_comm B A]; omega
theorem normB {A B : Int} {M : Nat} (hA : A.natAbs ≤ M) (hB : B.natAbs ≤ M) : (A * A + B * B).natAbs ≤ 2 * (M * M) := by
  have b1 := le_pow (x := 0) hA hA
  have b2 := le_pow (x := 0) hB hB
  omega
theorem dr {P : Program} {f : FuncId} {args : Array Value} {w : World} {v : Value} (h : Calls P f args w fun e w' => e = .returned v ∧ w' = w) : Calls P f args w fun e w' => e = .returned v ∧ ∃ n, w' = w.drewN n :=
  h.mono (fun e w' ⟨h1, h2⟩ => ⟨h1, 0, h2⟩)
theorem Conj_lit (a b : Nat) (w : World) : Calls Try.prog 9 #[.complex .f64 a b] w fun e w' => e = .returned (.complex .f64 a (b ^^^ 9223372036854775808)) ∧ w' = w := Conj_calls a b w
/-- A number times its conjugate: its norm. -/
theorem sqr {a b : Nat} {A B : Int} (h : CR a b A B) (hA : A.natAbs ≤ 65536) (hB : B.natAbs ≤ 65536) : ∃ u v, CR u v (A * A + B * B) 0 ∧ ∀ w, Calls Try.prog 6 #[.complex .f64 a b, .complex .f64 a (b ^^^ 9223372036854775808)] w fun e w' => e = .returned (.complex .f64 u v) ∧ w' = w := by
  obtain ⟨u, v, r, f⟩ := Mul_calls 65536 65536 h (⟨h.1, rep_neg h.2⟩ : CR a (b ^^^ 2 ^ 63) A (-B)) hA hB hA (by omega) (by decide)
  rw [sq1, sq2] at r
  exact ⟨u, v, r, f⟩
set_option maxRecDepth 100000 in
set_option maxHeartbeats 2000000 in
theorem Dot_calls {a b c d : Nat} {A B C D : Int} (h1 : CR a b A B) (h2 : CR c d C D) (hA : A.natAbs ≤ 65536) (hB : B.natAbs ≤ 65536) (hC : C.natAbs ≤ 65536) (hD : D.natAbs ≤ 65536) :
    ∃ u v, CR u v (A * A + B * B + (C * C + D * D)) 0 ∧ ∀ (X Y : Nat) (w : World), w.cell? ⟨X, 0, none⟩ = some (.complex .f64 a b) → w.cell? ⟨X, 1, none⟩ = some (.complex .f64 c d) → w.cell? ⟨Y, 0, none⟩ = some (.complex .f64 a b) → w.cell? ⟨Y, 1, none⟩ = some (.complex .f64 c d) →
      Calls Try.prog 12 #[.slice (some ⟨X, 0, none⟩) 2 2, .slice (some ⟨Y, 0, none⟩) 2 2] w fun e w' => e = .returned (.complex .f64 u v) ∧ ∃ n, w' = w.drewN n := by
  obtain ⟨u1, v1, r1, f1⟩ := sqr h1 hA hB
  obtain ⟨u2, v2, r2, f2⟩ := sqr h2 hC hD
  have n1 := normB hA hB
  have n2 := normB hC hD
  obtain ⟨u3, v3, r3, f3, _⟩ := Add_all 0 (2 * (65536 * 65536)) (⟨rep_0, rep_0⟩ : CR 0 0 0 0) r1 (by decide) (by decide) n1 (by decide) (by decide)
  rw [Int.zero_add, Int.zero_add] at r3
  obtain ⟨u4, v4, r4, f4, _⟩ := Add_all (2 * (65536 * 65536)) (2 * (65536 * 65536)) r3 r2 n1 (by decide) n2 (by decide) (by decide)
  rw [show (0 : Int) + 0 = 0 from rfl] at r4
  refine ⟨u4, v4, r4, ?_⟩
  intro X Y w c0 c1 d0 d1
  go_enter Try.func12, Try.ntmps12
  go_wp2
  have arms : True := trivial
  refine wp_loop_rounds 3 ?_
  rw [rounds_succ]
  go_wp2_with (first | (go_at_call 9; (with_reducible refine (dr (Conj_lit a b _)).mono ?_); rintro e w' ⟨rfl, ⟨nd, rfl⟩⟩; (try first | exact ⟨rfl, _, World.drewN_drewN _ _ _⟩ | exact ⟨rfl, _, Eq.trans (World.drewN_drewN _ _ _) (congrArg (World.drewN _) (Nat.add_assoc _ _ _))⟩)) | (go_at_call 6; (with_reducible refine (dr (f1 _)).mono ?_); rintro e w' ⟨rfl, ⟨nd, rfl⟩⟩; (try first | exact ⟨rfl, _, World.drewN_drewN _ _ _⟩ | exact ⟨rfl, _, Eq.trans (World.drewN_drewN _ _ _) (congrArg (World.drewN _) (Nat.add_assoc _ _ _))⟩)) | (go_at_call 7; (with_reducible refine (dr (f3 _)).mono ?_); rintro e w' ⟨rfl, ⟨nd, rfl⟩⟩; (try first | exact ⟨rfl, _, World.drewN_drewN _ _ _⟩ | exact ⟨rfl, _, Eq.trans (World.drewN_drewN _ _ _) (congrArg (World.drewN _) (Nat.add_assoc _ _ _))⟩)))
  repeat (go_quiet (first | (go_at_call 9; (with_reducible refine (dr (Conj_lit a b _)).mono ?_); rintro e w' ⟨rfl, ⟨nd, rfl⟩⟩; (try first | exact ⟨rfl, _, World.drewN_drewN _ _ _⟩ | exact ⟨rfl, _, Eq.trans (World.drewN_drewN _ _ _) (congrArg (World.drewN _) (Nat.add_assoc _ _ _))⟩)) | (go_at_call 6; (with_reducible refine (dr (f1 _)).mono ?_); rintro e w' ⟨rfl, ⟨nd, rfl⟩⟩; (try first | exact ⟨rfl, _, World.drewN_drewN _ _ _⟩ | exact ⟨rfl, _, Eq.trans (World.drewN_drewN _ _ _) (congrArg (World.drewN _) (Nat.add_assoc _ _ _))⟩)) | (go_at_call 7; (with_reducible refine (dr (f3 _)).mono ?_); rintro e w' ⟨rfl, ⟨nd, rfl⟩⟩; (try first | exact ⟨rfl, _, World.drewN_drewN _ _ _⟩ | exact ⟨rfl, _, Eq.trans (World.drewN_drewN _ _ _) (congrArg (World.drewN _) (Nat.add_assoc _ _ _))⟩))); try go_wp2_with (first | (go_at_call 9; (with_reducible refine (dr (Conj_lit a b _)).mono ?_); rintro e w' ⟨rfl, ⟨nd, rfl⟩⟩; (try first | exact ⟨rfl, _, World.drewN_drewN _ _ _⟩ | exact ⟨rfl, _, Eq.trans (World.drewN_drewN _ _ _) (congrArg (World.drewN _) (Nat.add_assoc _ _ _))⟩)) | (go_at_call 6; (with_reducible refine (dr (f1 _)).mono ?_); rintro e w' ⟨rfl, ⟨nd, rfl⟩⟩; (try first | exact ⟨rfl, _, World.drewN_drewN _ _ _⟩ | exact ⟨rfl, _, Eq.trans (World.drewN_drewN _ _ _) (congrArg (World.drewN _) (Nat.add_assoc _ _ _))⟩)) | (go_at_call 7; (with_reducible refine (dr (f3 _)).mono ?_); rintro e w' ⟨rfl, ⟨nd, rfl⟩⟩; (try first | exact ⟨rfl, _, World.drewN_drewN _ _ _⟩ | exact ⟨rfl, _, Eq.trans (World.drewN_drewN _ _ _) (congrArg (World.drewN _) (Nat.add_assoc _ _ _))⟩))))
  obtain ⟨w1, hw1⟩ : ∃ w1, w.drewN nq = w1 := ⟨_, rfl⟩
  rw [hw1]
  have c1' : w1.cell? ⟨X, 1, none⟩ = some (.complex .f64 c d) := by rw [← hw1]; exact c1
  have d1' : w1.cell? ⟨Y, 1, none⟩ = some (.complex .f64 c d) := by rw [← hw1]; exact d1
  clear c0 c1 d0 d1
  rw [rounds_succ]
  go_wp2_with (first | (go_at_call 9; (with_reducible refine (dr (Conj_lit c d _)).mono ?_); rintro e w' ⟨rfl, ⟨nd, rfl⟩⟩; (try first | exact ⟨rfl, _, World.drewN_drewN _ _ _⟩ | exact ⟨rfl, _, Eq.trans (World.drewN_drewN _ _ _) (congrArg (World.drewN _) (Nat.add_assoc _ _ _))⟩)) | (go_at_call 6; (with_reducible refine (dr (f2 _)).mono ?_); rintro e w' ⟨rfl, ⟨nd, rfl⟩⟩; (try first | exact ⟨rfl, _, World.drewN_drewN _ _ _⟩ | exact ⟨rfl, _, Eq.trans (World.drewN_drewN _ _ _) (congrArg (World.drewN _) (Nat.add_assoc _ _ _))⟩)) | (go_at_call 7; (with_reducible refine (dr (f4 _)).mono ?_); rintro e w' ⟨rfl, ⟨nd, rfl⟩⟩; (try first | exact ⟨rfl, _, World.drewN_drewN _ _ _⟩ | exact ⟨rfl, _, Eq.trans (World.drewN_drewN _ _ _) (congrArg (World.drewN _) (Nat.add_assoc _ _ _))⟩)))
  repeat (go_quiet (first | (go_at_call 9; (with_reducible refine (dr (Conj_lit c d _)).mono ?_); rintro e w' ⟨rfl, ⟨nd, rfl⟩⟩; (try first | exact ⟨rfl, _, World.drewN_drewN _ _ _⟩ | exact ⟨rfl, _, Eq.trans (World.drewN_drewN _ _ _) (congrArg (World.drewN _) (Nat.add_assoc _ _ _))⟩)) | (go_at_call 6; (with_reducible refine (dr (f2 _)).mono ?_); rintro e w' ⟨rfl, ⟨nd, rfl⟩⟩; (try first | exact ⟨rfl, _, World.drewN_drewN _ _ _⟩ | exact ⟨rfl, _, Eq.trans (World.drewN_drewN _ _ _) (congrArg (World.drewN _) (Nat.add_assoc _ _ _))⟩)) | (go_at_call 7; (with_reducible refine (dr (f4 _)).mono ?_); rintro e w' ⟨rfl, ⟨nd, rfl⟩⟩; (try first | exact ⟨rfl, _, World.drewN_drewN _ _ _⟩ | exact ⟨rfl, _, Eq.trans (World.drewN_drewN _ _ _) (congrArg (World.drewN _) (Nat.add_assoc _ _ _))⟩))); try go_wp2_with (first | (go_at_call 9; (with_reducible refine (dr (Conj_lit c d _)).mono ?_); rintro e w' ⟨rfl, ⟨nd, rfl⟩⟩; (try first | exact ⟨rfl, _, World.drewN_drewN _ _ _⟩ | exact ⟨rfl, _, Eq.trans (World.drewN_drewN _ _ _) (congrArg (World.drewN _) (Nat.add_assoc _ _ _))⟩)) | (go_at_call 6; (with_reducible refine (dr (f2 _)).mono ?_); rintro e w' ⟨rfl, ⟨nd, rfl⟩⟩; (try first | exact ⟨rfl, _, World.drewN_drewN _ _ _⟩ | exact ⟨rfl, _, Eq.trans (World.drewN_drewN _ _ _) (congrArg (World.drewN _) (Nat.add_assoc _ _ _))⟩)) | (go_at_call 7; (with_reducible refine (dr (f4 _)).mono ?_); rintro e w' ⟨rfl, ⟨nd, rfl⟩⟩; (try first | exact ⟨rfl, _, World.drewN_drewN _ _ _⟩ | exact ⟨rfl, _, Eq.trans (World.drewN_drewN _ _ _) (congrArg (World.drewN _) (Nat.add_assoc _ _ _))⟩))))
  rw [rounds_succ]
  go_wp2
  go_ret
  refine ⟨rfl, ?_⟩
  rw [← hw1]
  exact ⟨_, World.drewN_drewN _ _ _⟩
end Go.Proofs.Ytknenddcighbpaa.CX
