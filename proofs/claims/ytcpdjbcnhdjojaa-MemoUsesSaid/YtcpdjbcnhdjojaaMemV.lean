/- cubitlaw26.alive: the document's examples, and a nil memo. -/
import Derived.Test.YtcpdjbcnhdjojaaMemNS
namespace Go.Proofs.Ytcpdjbcnhdjojaa.MS
open Go.RowKit Go.Maps
set_option linter.unusedVariables false
set_option linter.unusedSimpArgs false

def ka : ByteArray := ⟨#[97]⟩
def kb : ByteArray := ⟨#[98]⟩
def kc : ByteArray := ⟨#[99]⟩
theorem ok_a : KOk ka := by unfold KOk maxLen; decide
theorem ok_b : KOk kb := by unfold KOk maxLen; decide
theorem ok_c : KOk kc := by unfold KOk maxLen; decide
theorem ab : ka ≠ kb := by decide
theorem ac : ka ≠ kc := by decide
theorem bc : kb ≠ kc := by decide

theorem bump_two {base : Nat} {w : World} {M B : Nat} {room now u : Int} {x y : Ent} (h : MemoAt base w M B room now [x, y]) : bump y u [x, y] = [{ y with used := u }, x] := by
  have h1 := h.blks
  simp at h1
  simp [bump, h1]

def AliveEnd (w : World) (e : Ending) (w' : World) : Prop := e = .returned (.bool true) ∧ Below w.heap.size w w'

set_option maxRecDepth 100000 in
set_option maxHeartbeats 4000000 in
theorem alive_calls (w : World) : Calls Try.prog 5 #[] w (AliveEnd w) := by
  have m0 := made_memo 2 w
  have b0 := made_below 2 w
  go_enter Try.func5, Try.ntmps5
  go_wp2_with fail
  refine (New_calls 2 w (by omega) (by omega)).mono ?_
  rintro e w' ⟨rfl, rfl⟩
  generalize MadeAt 2 w = w1 at m0 b0 ⊢
  have B0 : Hid _ := Lib.hid b0
  obtain ⟨M, hM⟩ : ∃ M, M = w.heap.size + 1 := ⟨_, rfl⟩
  rw [← hM] at m0 ⊢
  clear b0 hM
  go_wp2_with fail
  refine (Put_room m0 (k := ka) 1 ok_a (fun e he => by cases he) (by simp) (by omega) (by omega)).mono ?_
  rintro e w2 ⟨rfl, ⟨p1, m1⟩, b1⟩
  have B1 : Hid _ := Lib.hid b1
  clear m0 b1
  go_wp2_with fail
  refine (Put_room m1 (k := kb) 2 ok_b (fun e he => by simp at he; subst he; exact ab) (by simp) (by omega) (by omega)).mono ?_
  rintro e w3 ⟨rfl, ⟨p2, m2⟩, b2⟩
  have B2 : Hid _ := Lib.hid b2
  clear m1 b2
  go_wp2_with fail
  refine (Get_here m2 (e := ⟨p1, ka, 1, 0 + 1⟩) (by simp) (by omega)).mono ?_
  rintro e w4 ⟨rfl, rfl⟩
  have m3 := m2.bumped (e := ⟨p1, ka, 1, 0 + 1⟩) (by simp)
  rw [bump_two m2] at m3
  have B3 : Hid _ := Lib.hid (touched_below (w := w3) (now := 0 + 1 + 1) m2.bM (m2.bE ⟨p1, ka, 1, 0 + 1⟩ (by simp)))
  clear m2
  generalize touched w3 M _ _ = w4 at m3 B3 ⊢
  go_wp2_with fail
  refine (Put_full (st := [_]) m3 (k := kc) 3 ok_c (fun e he => by simp at he; rcases he with rfl | rfl; exact ac; exact bc) (by simp) (by omega)).mono ?_
  rintro e w5 ⟨rfl, ⟨p3, m4⟩, b4⟩
  have B4 : Hid _ := Lib.hid b4
  clear m3 b4
  go_wp2_with fail
  refine (Keys_calls m4 (by simp)).mono ?_
  rintro e w6 ⟨v, b, rfl, hb, hrow, b5⟩
  have m5 := m4.below b5
  have B5 : Hid _ := Lib.hid (b5.mono (show w.heap.size ≤ w5.heap.size by have := B0.out.size; have := B1.out.size; have := B2.out.size; have := B3.out.size; have := B4.out.size; omega))
  obtain ⟨g, cap, rfl⟩ : ∃ g cap, v = .slice (some ⟨g, 0, none⟩) 2 cap := by
    rcases hrow.2 with ⟨_, hnil⟩ | ⟨g, cap, cur, e, _⟩
    · simp at hnil
    · exact ⟨g, cap, by rw [e]; rfl⟩
  have k0 : w6.cell? ⟨g, 0, none⟩ = some (.string kc) := hrow.cellAt 0 (by simp)
  have k1 : w6.cell? ⟨g, 1, none⟩ = some (.string ka) := hrow.cellAt 1 (by simp)
  clear m4 b5 hrow
  go_wp2_with fail
  refine (Get_not m5 (k := kb) ok_b (fun e he => by simp at he; rcases he with rfl | rfl; exact bc.symm; exact ab)).mono ?_
  rintro e w7 ⟨rfl, rfl⟩
  clear m5
  go_wp2_with fail
  refine (Get_nil _ _).mono ?_
  rintro e w8 ⟨rfl, rfl⟩
  unfold kc at k0
  unfold ka at k1
  go_wp2_with (first | (go_at_call 13; refine (Put_nil _ _ _).mono ?_; rintro e w' ⟨rfl, rfl⟩) | (go_at_call 15; refine (Drop_nil _ _).mono ?_; rintro e w' ⟨rfl, rfl⟩) | (go_at_call 17; refine (Len_nil _).mono ?_; rintro e w' ⟨rfl, rfl⟩) | (go_at_call 16; refine (Keys_nil _).mono ?_; rintro e w' ⟨rfl, rfl⟩))
  go_ret
  exact ⟨rfl, ((((B0.out.trans B1.out).trans B2.out).trans B3.out).trans B4.out).trans B5.out⟩
end Go.Proofs.Ytcpdjbcnhdjojaa.MS
