/- cubitlaw26.MemoRoom: the walk. -/
import Derived.Test.YtcpdjbcnhdjojaaMemR
namespace Go.Proofs.Ytcpdjbcnhdjojaa.MI
open Go.RowKit Go.Maps
set_option linter.unusedVariables false
set_option linter.unusedSimpArgs false

def RoomEnd (w : World) (e : Ending) (w' : World) : Prop := e = .returned (.bool true) ∧ Below w.heap.size w w'

set_option maxRecDepth 100000 in
set_option maxHeartbeats 1000000 in
theorem MemoRoom_out (room n step : Int) (w : World) (h : ¬ (1 ≤ room ∧ room ≤ 4096)) : Calls Try.prog 3 #[.int .i64 room, .int .i64 n, .int .i64 step] w (RoomEnd w) := by
  have hA := MS.alive_calls w
  have hN := fun W => New_out room W h
  by_cases hlt : room < 1
  · clear h
    go_enter Try.func3, Try.ntmps3
    go_wp2_with (first | (go_at_call 5; refine hA.mono ?_; rintro e W ⟨rfl, hb⟩) | (go_at_call 6; refine (hN _).mono ?_; rintro e W' ⟨rfl, rfl⟩))
    go_ret
    exact ⟨rfl, hb⟩
  · have hgt : 4096 < room := by omega
    have hd : decide (room < 1) = false := decide_eq_false hlt
    clear h
    go_enter Try.func3, Try.ntmps3
    go_wp2_with (first | (go_at_call 5; refine hA.mono ?_; rintro e W ⟨rfl, hb⟩) | (go_at_call 6; refine (hN _).mono ?_; rintro e W' ⟨rfl, rfl⟩))
    go_ret
    exact ⟨rfl, hb⟩

set_option maxRecDepth 100000 in
set_option maxHeartbeats 4000000 in
theorem MemoRoom_in (r : Nat) (n step : Int) (w : World) (h1 : 1 ≤ r) (h2 : r ≤ 4096) (n1 : -9223372036854775808 ≤ n) (n2 : n ≤ 9223372036854775807) (s1 : -9223372036854775808 ≤ step) (s2 : step ≤ 9223372036854775807) :
    Calls Try.prog 3 #[.int .i64 r, .int .i64 n, .int .i64 step] w (RoomEnd w) := by
  obtain ⟨N, hN⟩ : ∃ N : Nat, plc n 8192 = (N : Int) := ⟨(plc n 8192).toNat, by have := plc_nonneg (i := n) (n := 8192) (by omega); omega⟩
  have hN2 : N ≤ 8191 := by have := plc_lt (i := n) (n := 8192) (by omega); omega
  obtain ⟨S, hS⟩ : ∃ S : Int, 1 + plc step 1000 = S := ⟨_, rfl⟩
  have hS1 : 1 ≤ S := by have := plc_nonneg (i := step) (n := 1000) (by omega); omega
  have hS2 : S ≤ 1000 := by have := plc_lt (i := step) (n := 1000) (by omega); omega
  have hP1 := fun W => place_calls n 8192 W n1 n2 (by omega) (by omega)
  have hP2 := fun W => place_calls step 1000 W s1 s2 (by omega) (by omega)
  obtain ⟨P, hP⟩ : ∃ P : Int, plc step 1000 = P := ⟨_, rfl⟩
  rw [hN] at hP1
  rw [hP] at hP2
  rw [hP] at hS
  have hPS : P = S - 1 := by omega
  subst hPS
  have hA := MS.alive_calls w
  have hd1 : decide ((r : Int) < 1) = false := decide_eq_false (by omega)
  have hd2 : decide (4096 < (r : Int)) = false := decide_eq_false (by omega)
  clear hN hS hP n1 n2 s1 s2
  go_enter Try.func3, Try.ntmps3
  go_wp2_with (first | (go_at_call 5; refine hA.mono ?_; rintro e W ⟨rfl, hb⟩))
  refine (New_calls r W (by omega) (by omega)).mono ?_
  rintro e W1 ⟨rfl, rfl⟩
  have m0 := made_memo r W
  have B0 : Hid _ := Lib.hid (hb.trans ((made_below r W).mono hb.size))
  have HP0 : Hid (Putted S r W.heap.size (W.heap.size + 1) W.heap.size (MadeAt r W) 0 (MadeAt r W)) := Lib.hid ⟨_, m0, by simp [recent], Below.refl _ _⟩
  generalize MadeAt (r : Int) W = W1 at m0 B0 HP0 ⊢
  obtain ⟨M, hM⟩ : ∃ M, M = W.heap.size + 1 := ⟨_, rfl⟩
  rw [← hM] at HP0 m0 ⊢
  have HWw : Hid _ := Lib.hid hb.size
  clear hM m0 hb hA
  go_wp2_with fail
  refine (hP1 _).mono ?_
  rintro e w' ⟨rfl, rfl⟩
  go_wp2_with fail
  refine (hP2 _).mono ?_
  rintro e w' ⟨rfl, rfl⟩
  go_wp2_with fail
  rw [show (1 + (S - 1) : Int) = S by omega]
  generalize hWB : W.heap.size = B at HP0 HWw
  clear hWB
  go_loopw [9] (fun s wr => ∃ k : Nat, k ≤ N ∧ s = .int .i64 k ∧ Putted S r B M B w' k wr) (fun s _ => N - (intOf s).toNat)
  case atStart => exact ⟨0, Nat.zero_le _, rfl, HP0.out⟩
  case round =>
    obtain ⟨k, hk, rfl, hput⟩ := hrel
    have HPK : Hid _ := Lib.hid hput
    clear hput
    by_cases hlt : k < N
    · have hm := mul_bd (a := (k : Int)) hS1 hS2 (by omega) (by omega)
      have hm1 := hm.1
      have hm2 := hm.2
      clear hm
      go_wp2_with fail
      refine (HPK.out.put hS1 hS2 h1 h2 (by omega)).mono ?_
      rintro e wq ⟨rfl, hput⟩
      have HPK2 : Hid _ := Lib.hid hput
      clear hput
      go_wp2_with fail
      refine HPK2.out.len1.mono ?_
      rintro e wz ⟨rfl, rfl⟩
      go_wp2
      go_roundw
      case rel => exact ⟨k + 1, by omega, by go_num, HPK2.out⟩
      case measure => simp [intOf]; omega
    · have hkN : k = N := by omega
      subst hkN
      obtain ⟨c, hc⟩ : ∃ c, c = min k r := ⟨_, rfl⟩
      have hck : c ≤ k := by omega
      have hcr : c ≤ r := by omega
      have hmin : min (k : Int) (r : Int) = (c : Int) := by omega
      have HK : Hid _ := Lib.hid (HPK.out.keys h2 hN2 hc)
      have hm := mul_bd (a := (k : Int) - 1 - (r : Int)) hS1 hS2 (by omega) (by omega)
      have hm1 := hm.1
      have hm2 := hm.2
      clear hm hlt hk hc hP1 hP2
      go_wp2_with fail
      refine HK.out.mono ?_
      rintro e wk ⟨v, rfl, hkeys, hask⟩
      have HA : Hid _ := Lib.hid hask
      clear hask
      rcases hkeys with ⟨rfl, rfl⟩ | ⟨g, cap, cur, rfl, hg, hcur⟩
      · go_wp2_with fail
        refine wp_loop_rounds 1 ?_
        rw [rounds_succ]
        go_wp2_with (first | (go_at_call 11; refine (HA.out.not hS1 hS2 hN2 (by omega) (by omega) (by omega)).mono ?_; rintro e w' ⟨rfl, rfl⟩))
        go_ret
        exact ⟨rfl, B0.out.trans ((HA.out.below).mono HWw.out)⟩
      · have HC : Hid _ := Lib.hid hcur
        have HG : Hid _ := Lib.hid hg
        clear hcur hg
        go_wp2_with fail
        go_loopw [11] (fun s wr2 => ∃ i : Nat, i ≤ c ∧ s = .int .i64 i ∧ Asked S k c r B M B w' i wr2 ∧ wr2.heap[g]? = some (.cells cur 3 (0, 0))) (fun s _ => c - (intOf s).toNat)
        case atStart => exact ⟨0, Nat.zero_le _, rfl, HA.out, HG.out⟩
        case round =>
          clear HA HG
          obtain ⟨i, hi, rfl, hask, hg⟩ := hrel
          have HA : Hid _ := Lib.hid hask
          have HG : Hid _ := Lib.hid hg
          clear hask
          by_cases hlt : i < c
          · have hcell : wr.cell? ⟨g, i, none⟩ = some (.int .i64 (((k : Int) - 1 - (i : Int)) * S)) := cell_of hg (HC.out i hlt)
            have hm := mul_bd (a := (k : Int) - 1 - (i : Int)) hS1 hS2 (by omega) (by omega)
            have hm3 := hm.1
            have hm4 := hm.2
            have HGET : Hid _ := Lib.hid (HA.out.get hlt (by omega) HG.out)
            clear hm hg
            go_wp2_with fail
            refine HGET.out.mono ?_
            rintro e wq ⟨rfl, hask2, hg2⟩
            have HA2 : Hid _ := Lib.hid hask2
            have HG2 : Hid _ := Lib.hid hg2
            clear hask2 hg2
            go_wp2
            go_roundw
            case rel => exact ⟨i + 1, by omega, by go_num, HA2.out, HG2.out⟩
            case measure => simp [intOf]; omega
          · clear hg
            go_wp2_with (first | (go_at_call 11; refine (HA.out.not hS1 hS2 hN2 (by omega) (by omega) (by omega)).mono ?_; rintro e w' ⟨rfl, rfl⟩))
            go_ret
            exact ⟨rfl, B0.out.trans ((HA.out.below).mono HWw.out)⟩
end Go.Proofs.Ytcpdjbcnhdjojaa.MI
