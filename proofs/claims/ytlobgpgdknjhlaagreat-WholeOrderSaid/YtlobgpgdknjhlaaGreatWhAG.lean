/- The iterator over the keys of the two-element map: walked in a fence. -/
import Derived.Test.YtlobgpgdknjhlaaGreatWhAF
import Derived.RangeFuncStops
import Derived.RangeFuncOwn
import Derived.RangeFuncLeaves
import Derived.RangeFuncCalls
import Derived.Sort.MapsRangeIn
import Derived.OwnWalkIn
import Derived.TacticsInMore
import Derived.RegionIn
import Derived.LoopNIn
import Derived.LoopIn
namespace Go.Proofs.YtlobgpgdknjhlaaGreat.WH
open Go Go.RowKit Go.Maps Go.Proofs.YtlobgpgdknjhlaaGreat.F
set_option linter.unusedVariables false
set_option linter.unusedSimpArgs false
attribute [local go_sem] Oper.semAt_some
/-- What is left of the two keys, k of them gone. -/
def KSt (left : Lit → Bool) (k : Nat) : Prop := (k = 0 ∧ left = Maps.has D2) ∨ (k = 1 ∧ ∃ j, j < 2 ∧ left = fun z => Maps.has D2 z && !z.sameKey (UK j)) ∨ (k = 2 ∧ ∀ z, left z = false)
theorem d2_has0 : Maps.has D2 (UK 0) = true := by
  rw [has_put_other (fun e => by injection e with _ e; omega)]
  exact has_put_same isMap_empty (uk_isKey 0 (by decide)) _
theorem d2_has1 : Maps.has D2 (UK 1) = true := has_put_same (isMap_empty.put _ _) (uk_isKey 1 (by decide)) _
theorem KSt.done {left : Lit → Bool} {k : Nat} (h : KSt left k) (hl : ∀ z, left z = false) : k = 2 := by
  rcases h with ⟨-, rfl⟩ | ⟨-, j, hj, rfl⟩ | ⟨h, -⟩
  · have h1 := hl (UK 0)
    rw [d2_has0] at h1
    cases h1
  · have hj2 : j = 0 ∨ j = 1 := by omega
    rcases hj2 with rfl | rfl
    · have h1 := hl (UK 1)
      have h2 : (!(UK 1).sameKey (UK 0)) = true := by decide +kernel
      simp only [d2_has1, Bool.true_and, h2] at h1
      cases h1
    · have h1 := hl (UK 0)
      have h2 : (!(UK 0).sameKey (UK 1)) = true := by decide +kernel
      simp only [d2_has0, Bool.true_and, h2] at h1
      cases h1
  · exact h
theorem KSt.step {left : Lit → Bool} {k : Nat} (h : KSt left k) {kl : Lit} (hk : left kl = true) : k < 2 ∧ KSt (fun z => left z && !z.sameKey kl) (k + 1) := by
  rcases h with ⟨rfl, rfl⟩ | ⟨rfl, j, hj, rfl⟩ | ⟨-, h⟩
  · rcases d2_has kl hk with rfl | rfl
    · exact ⟨by decide, .inr (.inl ⟨rfl, 0, by decide, rfl⟩)⟩
    · exact ⟨by decide, .inr (.inl ⟨rfl, 1, by decide, rfl⟩)⟩
  · refine ⟨by decide, .inr (.inr ⟨rfl, fun z => ?_⟩)⟩
    simp only [Bool.and_eq_true] at hk
    have hj2 : j = 0 ∨ j = 1 := by omega
    by_cases hz : Maps.has D2 z = true
    · show ((Maps.has D2 z && !z.sameKey (UK j)) && !z.sameKey kl) = false
      rw [hz]
      have h2 := hk.2
      rcases d2_has z hz with rfl | rfl <;> rcases d2_has kl hk.1 with rfl | rfl <;> rcases hj2 with rfl | rfl <;> first | (revert h2; decide +kernel) | decide +kernel
    · show ((Maps.has D2 z && !z.sameKey (UK j)) && !z.sameKey kl) = false
      rw [Bool.eq_false_iff.2 hz]
      rfl
  · rw [h] at hk; cases hk
set_option maxRecDepth 100000 in
set_option maxHeartbeats 2000000 in
theorem keys1_stops (F : Fence) (n : Nat) (hF : F.fn 85) (hro : F.round = none) (hn : 1 ≤ n) (Bm b nn : Nat) (w : World) (hBm : Bm < w.heap.size) (hm : w.cell? ⟨Bm, 0, none⟩ = some (.map (some b))) (hown : w.ownsMap Tryz.prog 23 rd b nn D2) :
    SeqStops F n Tryz.prog 85 #[.pointer (some ⟨Bm, 0, none⟩)] (Value.int .u64) (fun xs => xs.length = 2 ∧ ∀ x ∈ xs, (Lit.int .u64 x).wf = true) (fun _ => True) 2 w := fun l J Jx W hW hJ hJx hY h0 => by
  refine callsIn_of_wp Tryz.func85 rfl hF ?_ hro
  simp only [Tryz.ntmps85, List.size_toArray, List.length_cons, List.length_nil, Nat.reduceAdd, Nat.reduceSub, Array.replicate_succ, Array.replicate_zero, List.push_toArray, List.append_toArray, List.nil_append, List.cons_append]
  have hm1 : W.cell? ⟨Bm, 0, none⟩ = some (.map (some b)) := (hW.cell (p := ⟨Bm, 0, none⟩) hBm).trans hm
  have HO : Hid (W.ownsMap Tryz.prog 23 rd b nn D2) := Lib.hid (hown.kept (row := none) (Below.grownBy hW) (by simp))
  gi_wp2_with (first
    | (gi_at_range; refine wpListIn_range_own _ rfl (.tmp 4) 91 rfl 23 65 law23 Tryz.underlying91 rd b nn D2 rfl HO.out ?_; intro w0 hrg0 hg0 hs0)
    | gi_in)
  go_frame
  gi_loopw [3] (fun _ wr => ∃ (left : Lit → Bool) (cnt : Nat) (ss : List Int), wr.ranges Tryz.prog 23 rd b W.heap.size nn D2 left cnt ∧ KSt left ss.length ∧ (∀ x ∈ ss, (Lit.int .u64 x).wf = true) ∧ J ss wr) (fun _ wr => wr.rangeLeft b W.heap.size)
  case atStart => exact ⟨_, _, [], hrg0, .inl ⟨rfl, rfl⟩, (fun x hx => by cases hx), hJ [] W w0 none h0 hg0 (fun r e => by cases e)⟩
  case round =>
    obtain ⟨left, cnt, ss, hrg, hK, hwf, hJs⟩ := hrel
    have HWF := Lib.hid hwf
    clear hwf
    gi_wp2_with (first
      | (gi_at_next; refine wpListIn_next_ranges _ rfl (.tmp 5) rfl 23 law23 rd (Value.int .u64) id (fun key kl hk => by obtain ⟨x, hx, _⟩ := Maps.keyOf_int_inv Tryz.underlying23 hk; exact ⟨x, hx⟩) (fun v _ _ => ⟨v, rfl⟩) b W.heap.size nn D2 _ _ rfl hrg ?_ ?_)
      | gi_in)
    · intro hc0 hl0
      have h2 := hK.done hl0
      gi_wp2
      go_end0
      exact ⟨⟨_, rfl⟩, .inl ⟨ss, ⟨h2, HWF.out⟩, hJs⟩⟩
    · intro x c kl yd yp w2 cnt2 hkey hlk hv hat hrg2 hlt hg2 hs2 hen
      have hJ2 : J ss w2 := hJ ss wr w2 (some W.heap.size) hJs hg2 (fun r e => by cases e; exact ⟨Nat.le_refl _, hrg.iter_walk⟩)
      obtain ⟨hk2, hKS⟩ := hK.step hlk
      obtain ⟨x', ex, -, hwx⟩ := Maps.keyOf_int_inv Tryz.underlying23 hkey
      injection ex with _ ex
      rw [← ex] at hwx
      have HWX := Lib.hid hwx
      clear hwx ex x'
      obtain ⟨fn, tmps, assign, body, hy, hR⟩ := hY ss x w2 hJ2 hk2
      clear hs2
      gi_wp2
      refine hR.mono ?_
      rintro e W3 (⟨rfl, hJ3, hk3⟩ | ⟨rfl, hJx3⟩)
      · gi_wp2
        have hrg3 := hrg2.of_walks hk3
        go_roundw
        case rel => exact ⟨_, cnt2, ss ++ [x], hrg3, by rw [List.length_append]; exact hKS, (fun z hz => by rcases List.mem_append.1 hz with h | h; exact HWF.out z h; rw [List.mem_singleton.1 h]; exact HWX.out), hJ3⟩
        case measure => rw [hrg3.left_eq, hrg.left_eq]; exact hlt
      · gi_wp2
        refine bodyPost_ret (results_none rfl _ _ _) rfl ?_
        exact ⟨⟨_, rfl⟩, .inr ⟨_, trivial, hJx3⟩⟩
end Go.Proofs.YtlobgpgdknjhlaaGreat.WH
