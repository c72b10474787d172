/- cubitlaw26.MemoUses: the walk. -/
import Derived.Test.YtcpdjbcnhdjojaaMemW
import Derived.Test.YtcpdjbcnhdjojaaMemQ
namespace Go.Proofs.Ytcpdjbcnhdjojaa.MS
open Go.RowKit Go.Maps
set_option linter.unusedVariables false
set_option linter.unusedSimpArgs false
open MI (plc plc_nonneg plc_lt place_calls)

set_option maxRecDepth 100000 in
set_option maxHeartbeats 1000000 in
theorem MemoUses_out (room n : Int) (w : World) (h : ¬ (1 ≤ room ∧ room ≤ 4096)) : Calls Try.prog 4 #[.int .i64 room, .int .i64 n] w (MI.RoomEnd w) := by
  have hA := alive_calls w
  have hN := fun W => New_out room W h
  by_cases hlt : room < 1
  · clear h
    go_enter Try.func4, Try.ntmps4
    go_wp2_with (first | (go_at_call 5; refine hA.mono ?_; rintro e W ⟨rfl, hb⟩) | (go_at_call 12; refine (hN _).mono ?_; rintro e W' ⟨rfl, rfl⟩))
    go_ret
    exact ⟨rfl, hb⟩
  · have hgt : 4096 < room := by omega
    have hd : decide (room < 1) = false := decide_eq_false hlt
    clear h
    go_enter Try.func4, Try.ntmps4
    go_wp2_with (first | (go_at_call 5; refine hA.mono ?_; rintro e W ⟨rfl, hb⟩) | (go_at_call 12; refine (hN _).mono ?_; rintro e W' ⟨rfl, rfl⟩))
    go_ret
    exact ⟨rfl, hb⟩

set_option maxRecDepth 100000 in
set_option maxHeartbeats 4000000 in
theorem MemoUses_in (r : Nat) (n : Int) (w : World) (h1 : 1 ≤ r) (h2 : r ≤ 4096) (n1 : -9223372036854775808 ≤ n) (n2 : n ≤ 9223372036854775807) :
    Calls Try.prog 4 #[.int .i64 r, .int .i64 n] w (MI.RoomEnd w) := by
  obtain ⟨N, hN⟩ : ∃ N : Nat, plc n 300 = (N : Int) := ⟨(plc n 300).toNat, by have := plc_nonneg (i := n) (n := 300) (by omega); omega⟩
  have hN2 : N ≤ 299 := by have := plc_lt (i := n) (n := 300) (by omega); omega
  have hP1 := fun W => place_calls n 300 W n1 n2 (by omega) (by omega)
  rw [hN] at hP1
  have hA := alive_calls w
  clear hN n1 n2
  go_enter Try.func4, Try.ntmps4
  go_wp2_with (first | (go_at_call 5; refine hA.mono ?_; rintro e W ⟨rfl, hb⟩))
  refine (New_calls r W (by omega) (by omega)).mono ?_
  rintro e W1 ⟨rfl, rfl⟩
  have m0 := made_memo r W
  have B0 : Hid _ := Lib.hid (hb.trans ((made_below r W).mono hb.size))
  have HWw : Hid _ := Lib.hid hb.size
  have HU : Hid _ := Lib.hid (Uses.start m0 h1 h2)
  generalize MadeAt (r : Int) W = W1 at B0 HU ⊢
  obtain ⟨M, hM⟩ : ∃ M, M = W.heap.size + 1 := ⟨_, rfl⟩
  rw [← hM] at HU ⊢
  clear hM m0 hb hA
  generalize hWB : W.heap.size = B at HU HWw
  clear hWB
  go_wp2_with fail
  refine HU.out.mono ?_
  rintro e W2 ⟨⟨b, rfl⟩, hu⟩
  have HU0 : Hid _ := Lib.hid hu
  clear hu HU
  go_wp2_with fail
  go_loopw [7, 8] (fun s7 s wr => ∃ k : Nat, k ≤ N ∧ s7 = .string (xs k) ∧ s = .int .i64 k ∧ Uses r B M B W1 k wr) (fun _ s _ => N - (intOf s).toNat)
  case atStart => exact ⟨0, Nat.zero_le _, rfl, rfl, HU0.out⟩
  case round =>
    clear HU0
    obtain ⟨k, hk, rfl, rfl, hu⟩ := hrel
    have HUK : Hid _ := Lib.hid hu
    clear hu
    by_cases hlt : k < N
    · have hxs := xs_succ k
      have HX : Hid _ := Lib.hid hxs
      clear hxs
      have hsz : ¬ 9223372036854775807 < (xs k).size + 1 := by rw [xs_size]; omega
      by_cases hr1 : r = 1
      · subst hr1
        go_wp2_with (first | (go_at_call 7; refine (hP1 _).mono ?_; rintro e w' ⟨rfl, rfl⟩) | (go_at_call 14; refine (HUK.out.get (by omega)).mono ?_; rintro e w3 ⟨rfl, hu2⟩; have HUK2 : Hid _ := Lib.hid hu2; clear hu2))
        have hput := HUK2.out.put1 (by omega)
        rw [HX.out] at hput
        refine hput.mono ?_
        rintro e w4 ⟨rfl, hl⟩
        have HLo : Hid _ := Lib.hid hl.drop
        clear hl hput
        go_wp2_with (first | (go_at_call 15; refine HLo.out.mono ?_; rintro e w5 ⟨rfl, hb⟩))
        go_ret
        exact ⟨rfl, B0.out.trans (hb.mono HWw.out)⟩
      · have hr2 : 2 ≤ r := by omega
        have hr3 : ((r : Int) == 1) = false := by simp; omega
        clear hr1
        go_wp2_with (first | (go_at_call 7; refine (hP1 _).mono ?_; rintro e w' ⟨rfl, rfl⟩) | (go_at_call 14; refine (HUK.out.get (by omega)).mono ?_; rintro e w3 ⟨rfl, hu2⟩; have HUK2 : Hid _ := Lib.hid hu2; clear hu2))
        have hput := HUK2.out.put hr2 h2 (by omega)
        rw [HX.out] at hput
        refine hput.mono ?_
        rintro e w4 ⟨⟨b', rfl⟩, hu3⟩
        have HU3 : Hid _ := Lib.hid hu3
        clear hu3 hput
        go_wp2_with fail
        go_roundw
        case rel => exact ⟨k + 1, by omega, by rw [HX.out], by go_num, HU3.out⟩
        case measure => simp [intOf]; omega
    · have HD : Hid _ := Lib.hid HUK.out.drop
      go_wp2_with (first | (go_at_call 7; refine (hP1 _).mono ?_; rintro e w' ⟨rfl, rfl⟩))
      refine HD.out.mono ?_
      rintro e w3 ⟨rfl, hl⟩
      have HLo : Hid _ := Lib.hid hl.drop
      clear hl
      go_wp2_with (first | (go_at_call 15; refine HLo.out.mono ?_; rintro e w5 ⟨rfl, hb⟩))
      go_ret
      exact ⟨rfl, B0.out.trans (hb.mono HWw.out)⟩
end Go.Proofs.Ytcpdjbcnhdjojaa.MS
