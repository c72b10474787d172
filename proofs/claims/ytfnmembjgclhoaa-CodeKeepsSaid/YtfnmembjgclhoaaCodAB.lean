/- Lists of strings of letters. -/
import Derived.Test.YtfnmembjgclhoaaCodAA
namespace Go.Proofs.Ytfnmembjgclhoaa.CD
open Go Go.RowKit
set_option linter.unusedVariables false
set_option linter.unusedSimpArgs false

theorem own_below {w w' : World} {base : Nat} {e : TypeId} {size n : Nat} {v : Value} {xs : List Value} (h : w.ownsRow base e size v n xs) (hb : Below w.heap.size w w') : w'.ownsRow base e size v n xs :=
  h.kept (row := none) ⟨hb.os, hb.tape, hb.output, hb.size, fun k hk _ => hb.block k hk⟩ (Classical.em _)
theorem flat_snoc (ps : List Pau) (p : Pau) : flat (ps ++ [p]) = flat ps ++ [.int .i64 p.n, .int .u64 p.x, .int .u64 p.z, .int .i64 p.ph] := by
  simp [flat]
def Strs (W : World) (b : Nat) (ws : List ByteArray) : Prop := ∀ (i : Nat) (h : i < ws.length), W.cell? ⟨b, i, none⟩ = some (.string ws[i])
theorem Strs.below {W W' : World} {b : Nat} {ws : List ByteArray} (h : Strs W b ws) (hb : Below W.heap.size W W') : Strs W' b ws := fun i hi => (hb.cell (p := ⟨b, i, none⟩) (block_lt (h i hi))).trans (h i hi)
def Listed (w : World) (ps : List Pau) (x : Ending) (w' : World) : Prop :=
  ∃ v, x = .returned v ∧ w'.ownsRow w.heap.size 27 4 v ps.length (flat ps) ∧ Below w.heap.size w w'

set_option maxRecDepth 100000 in
set_option maxHeartbeats 4000000 in
theorem list_calls (b : Nat) (ws : List ByteArray) (w : World) (hs : Strs w b ws) (hl : ws.length ≤ 64) (hz : ∀ s ∈ ws, s.size ≤ 64) :
    Calls Try.prog 47 #[.slice (some ⟨b, 0, none⟩) ws.length ws.length] w (Listed w (ws.map spell)) := by
  obtain ⟨i0, hi, hz0, hz1, hz2⟩ := info_parts info27
  have hlI : (ws.length : Int) ≤ 64 := by omega
  have HS := Lib.hid hs
  have HZ := Lib.hid hz
  clear hs hz
  go_enter Try.func47, Try.ntmps47
  go_wp2
  go_loopw [3, 8] (fun v s W => ∃ i : Nat, i ≤ ws.length ∧ s = .int .i64 i ∧ W.ownsRow w.heap.size 27 4 v i (flat ((ws.map spell).take i)) ∧ Below w.heap.size w W) (fun _ s _ => ws.length - (intOf s).toNat)
  case atStart => exact ⟨0, Nat.zero_le _, rfl, World.ownsRow_nil _ _ _ _, Below.refl _ _⟩
  case round =>
    obtain ⟨i, hin, rfl, hown, hbel⟩ := hrel
    by_cases hlt : i < ws.length
    · have hcell := HS.out.below hbel i hlt
      have hsl := HZ.out _ (List.getElem_mem hlt)
      have hwr := fun W => written_calls ws[i] hsl W
      have HTK : Hid ((ws.map spell).take (i + 1) = (ws.map spell).take i ++ [spell ws[i]]) := Lib.hid (by rw [← List.map_take, ← List.map_take, List.take_succ_eq_append_getElem hlt, List.map_append]; rfl)
      have HOWN := Lib.hid hown
      have HBEL := Lib.hid hbel
      clear hown hbel hsl
      generalize spell ws[i] = p at hwr HTK
      generalize ws[i] = s at hcell hwr
      go_wp2_with (first | (go_at_call 53; refine (hwr _).mono ?_; rintro e w' ⟨rfl, hb⟩; have HO2 := Lib.hid (own_below HOWN.out hb); have HB2 := Lib.hid (HBEL.out.trans (hb.mono HBEL.out.size)); clear hb) | (at_builtin; refine wpList_append_own _ rfl _ _ 22 rfl w.heap.size 27 i0 _ 4 32 Try.underlying22 hi hz0 hz1 hz2 rfl (by decide) _ _ _ rfl (HO2.out.alloc _) ⟨w'.heap.size, 0, none⟩ 1 1 [.int .i64 p.n, .int .u64 p.x, .int .u64 p.z, .int .i64 p.ph] rfl rfl ?c1 ?c2 ?c3 ?c4 ?c5 ?_))
      case c1 => exact Row.news (ps := [p]) (off := 0) (fun j hj => by
        obtain rfl : j = 0 := by simpa using hj
        exact Cells4.of (newAt _ _ rfl))
      case c2 => exact flat_one [p]
      case c3 => unfold maxLen; omega
      case c4 => omega
      case c5 => have h9 := HB2.out.size; simp; omega
      intro v' w1 hown2 hg2 _
      have HO3 : Hid (w1.ownsRow w.heap.size 27 4 v' (i + 1) (flat ((ws.map spell).take (i + 1)))) := Lib.hid (by rw [HTK.out, flat_snoc]; exact hown2)
      have HB3 : Hid (Below w.heap.size w w1) := Lib.hid ((HB2.out.alloc HB2.out.size _).trans ⟨hg2.os, hg2.tape, hg2.output, hg2.size, fun k hk => hg2.block k (by have h9 := HB2.out.size; simp; omega) (fun e => by have h9 := HOWN.out.lt k e.symm; omega)⟩)
      clear hown2 hg2
      go_wp2
      go_roundw
      case rel => exact ⟨i + 1, by omega, by go_num, HO3.out, HB3.out⟩
      case measure => simp [intOf]; omega
    · obtain rfl : i = ws.length := by omega
      have HOWN := Lib.hid hown
      have HBEL := Lib.hid hbel
      clear hown hbel
      go_wp2
      go_ret
      refine ⟨_, rfl, ?_, HBEL.out⟩
      have h9 := HOWN.out
      rw [List.take_of_length_le (by simp)] at h9
      rw [List.length_map]
      exact h9
end Go.Proofs.Ytfnmembjgclhoaa.CD
