/- Memos with keys of one kind: Keys of a memo that holds nothing; Put at a nil memo. -/
import Derived.Test.YtcpdjbcnhdjojaaMemLS
namespace Go.Proofs.Ytcpdjbcnhdjojaa.MS
open Go.RowKit Go.Maps
set_option linter.unusedVariables false
set_option linter.unusedSimpArgs false
section
variable {base : Nat} {w w' : World} {M B : Nat} {room now : Int} {st : List Ent}

set_option maxRecDepth 100000 in
theorem Put_nil (k : ByteArray) (v : Int) (w : World) : Calls Try.prog 13 #[.pointer none, (Value.string k), .int .i64 v] w fun x w' => x = .returned (.bool false) ∧ w' = w := by
  go_enter Try.func13, Try.ntmps13
  go_wp2
  go_ret
  exact ⟨rfl, rfl⟩

set_option maxRecDepth 100000 in
set_option maxHeartbeats 2000000 in
theorem Keys_none (h : MemoAt base w M B room now []) : Calls Try.prog 16 #[.pointer (some ⟨M, 0, none⟩)] w (KeysPost w []) := by
  obtain ⟨c0, c1, c2, cf⟩ := h.cells
  obtain ⟨D, hown, hD2, hD3, hD4⟩ := h.map
  obtain ⟨w0, hrunR, hrg0, hg0, hs0⟩ := hown.range law Try.underlying56
  have hbel : Below w.heap.size w w0 := ⟨hg0.os, hg0.tape, hg0.output, hg0.size, fun i hi => hg0.block i hi (by simp)⟩
  have hsort : ∀ w, Calls Try.prog 23 #[.slice none 0 0, .func (.func 24) #[] #[]] w fun e w' => e = .returned (.tuple #[]) ∧ w' = w := fun w => Go.Proofs.AnyF.slices_SortFunc_none { Go.Proofs.Try.sortS with } none 0 _ w
  rcases hrg0.next law 0 with ⟨hc0, hl0, hrunN⟩ | ⟨key, v', kl, y, w1, cnt', hkey, hlk', hv, hat, hrunN, hrg1, hlt, hgr, hsz1, hen⟩
  · clear hrg0 hg0 hs0 hD2 hD3 hD4 hown h hl0
    have HB : Hid _ := Lib.hid hbel
    clear hbel
    go_enter Try.func16, Try.ntmps16
    go_wp2
    refine wp_loop_rounds 1 ?_
    rw [rounds_succ]
    go_wp2_with (go_at_call 23; refine (hsort _).mono ?_; rintro e W ⟨rfl, rfl⟩)
    refine wp_loop_rounds 1 ?_
    rw [rounds_succ]
    go_wp2
    go_ret
    exact ⟨_, W.heap.size, rfl, HB.out.size, World.ownsRow_nil _ _ _ _, HB.out⟩
  · exact absurd (hD4 kl (fun e he => by cases he)) (by rw [Maps.has_true_of_atKey hat]; simp)
theorem Keys_calls (h : MemoAt base w M B room now st) (hl : st.length ≤ 4096) : Calls Try.prog 16 #[.pointer (some ⟨M, 0, none⟩)] w (KeysPost w st) := by
  cases st with
  | nil => exact Keys_none h
  | cons e r => exact Keys_some h (e0 := e) (by simp) hl
end
end Go.Proofs.Ytcpdjbcnhdjojaa.MS
