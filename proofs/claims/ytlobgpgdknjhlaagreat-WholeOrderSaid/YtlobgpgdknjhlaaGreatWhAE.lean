/- sparse.formed at the two-element map: walked. -/
import Derived.Test.YtlobgpgdknjhlaaGreatWhAD
namespace Go.Proofs.YtlobgpgdknjhlaaGreat.WH
open Go Go.RowKit Go.Maps Go.Proofs.YtlobgpgdknjhlaaGreat.F
set_option linter.unusedVariables false
set_option linter.unusedSimpArgs false
attribute [local go_sem] run_store_complex run_store_func
theorem d2_size : Maps.size D2 = 2 := by rfl
theorem d2_has (kl : Lit) (h : Maps.has D2 kl = true) : kl = UK 0 ∨ kl = UK 1 := by
  by_cases h1 : kl = UK 1
  · exact .inr h1
  · by_cases h0 : kl = UK 0
    · exact .inl h0
    · rw [has_put_other h1, has_put_other h0] at h
      cases h
theorem uk_isKey (k : Nat) (hk : k < 2 ^ 64) : WideAt.IsKeyLit (UK k) := law23.key (uk_key k hk)
theorem d2_at (kl : Lit) (h : Maps.has D2 kl = true) (z : DataW Value) : DataW.atKey D2 kl z = .held ONE := by
  rcases d2_has kl h with rfl | rfl
  · rw [atKey_put_other (fun e => by injection e with _ e; omega)]
    exact atKey_put_same isMap_empty (uk_isKey 0 (by decide)) _ z
  · exact atKey_put_same (isMap_empty.put _ _) (uk_isKey 1 (by decide)) _ z
set_option maxRecDepth 100000 in
set_option maxHeartbeats 2000000 in
theorem sformed_calls (b n : Nat) (w : World) (h : w.ownsMap Tryz.prog 23 rd b n D2) : Calls Tryz.prog 49 #[.map (some b), .int .i64 1] w fun e w' => e = .returned (.tuple #[.map (some b), .int .i64 1, .int .i64 0]) ∧ w'.ownsMap Tryz.prog 23 rd b n D2 ∧ Below w.heap.size w w' := by
  have HO := Lib.hid h
  have g := fun w => rhalve_no oneR oneR_pt (by decide) w
  simp only [oneR, fl_one, fl_zero] at g
  have hmk : ∀ w, Sem.run Tryz.prog (Instr.makeMap 91 none) w = .ok (.map (some w.heap.size)) (w.alloc (.map #[] 0)) := fun w => rfl
  have hsz := d2_size
  clear h
  go_enter Tryz.func49, Tryz.ntmps49
  go_wp2_with (at_len; refine wpList_len_own _ rfl (.tmp 13) 91 rfl 23 65 Tryz.underlying91 rd b n D2 rfl HO.out ?_)
  go_loopw [0, 1, 7, 8, 9, 10, 11, 12] (fun m k _ _ _ _ _ _ W => m = .map (some b) ∧ k = .int .i64 1 ∧ W = w) (fun _ _ _ _ _ _ _ _ _ => 0)
  case atStart => exact ⟨rfl, rfl, rfl⟩
  case round =>
    obtain ⟨rfl, rfl, hw⟩ := hrel
    obtain ⟨w0, hw0⟩ : ∃ w0, w0 = wr := ⟨_, rfl⟩
    rw [← hw0] at hw ⊢
    subst hw
    clear hw0
    go_wp2_with (at_range; refine wpList_range_own _ rfl (.tmp 20) 91 rfl 23 65 law23 Tryz.underlying91 rd b n D2 rfl (HO.out.alloc _) ?_)
    intro w1 hrg hg1 hs1
    have HM : Hid (w1.ownsMap Tryz.prog 23 rd w0.heap.size 0 (.map [])) := Lib.hid ((made_at w0 _ rfl).kept hg1 (by simp))
    have HB : Hid (Below w0.heap.size w0 w1) := Lib.hid (((below1 w0 (.map #[] 0))).trans ⟨hg1.os, hg1.tape, hg1.output, hg1.size, fun k hk => hg1.block k (by simp; omega) (by simp)⟩)
    have HR := Lib.hid hrg
    clear hrg hg1 hs1
    go_wp2_with fail
    go_loopw [8, 9, 10, 11, 12] (fun _ _ _ _ _ W => W = w1) (fun _ _ _ _ _ _ => 0)
    case atStart => rfl
    case round =>
      subst hrel
      rename_i wq
      go_wp2_with (at_next; refine wpList_next_ranges _ rfl (.tmp 21) rfl 23 law23 rd (Value.int .u64) id (fun key kl hk => by obtain ⟨x, hx, _⟩ := Maps.keyOf_int_inv Tryz.underlying23 hk; exact ⟨x, hx⟩) (fun v _ _ => ⟨v, rfl⟩) b _ n D2 _ _ rfl HR.out ?_ ?_)
      intro x c kl yd yp w2 cnt2 hkey hlk hv hat hrg2 hlt hg2 hs2 hen
      have hy := d2_at kl hlk (.held ONE)
      rw [hat] at hy
      subst hy
      obtain rfl : c = ONE := held_inj hv
      have HM2 : Hid (w2.ownsMap Tryz.prog 23 rd w0.heap.size 0 (.map [])) := Lib.hid (HM.out.kept hg2 (by simp))
      have HO2 : Hid (w2.ownsMap Tryz.prog 23 rd b n D2) := Lib.hid hrg2.owns
      have HB2 : Hid (Below w0.heap.size w0 w2) := Lib.hid (HB.out.trans ⟨hg2.os, hg2.tape, hg2.output, Nat.le_of_eq hs2.symm, fun k hk => hg2.block k (Nat.lt_of_lt_of_le hk HB.out.size) (by simp; omega)⟩)
      clear hrg2 hg2 hs2 hat hv hkey hlk hlt
      go_wp2_with (fail)
      go_at_call 79
      refine (g _).mono ?_
      rintro e w3 ⟨rfl, hb3⟩
      have hb4 : Below w2.heap.size w2 w3 := (below1 w2 (.cells #[.complex .f64 4607182418800017408 0, .complex .f64 0 0] 65)).trans (hb3.mono (below1 w2 _).size)
      have HM3 : Hid (w3.ownsMap Tryz.prog 23 rd w0.heap.size 0 (.map [])) := Lib.hid (HM2.out.kept (row := none) (Below.grownBy hb4) (by simp))
      have HO3 : Hid (w3.ownsMap Tryz.prog 23 rd b n D2) := Lib.hid (HO2.out.kept (row := none) (Below.grownBy hb4) (by simp))
      have HB3 := Lib.hid (HB2.out.trans (hb4.mono HB2.out.size))
      clear hb3 hb4 hen
      have hs0 : Maps.size (DataW.map [] : DataW Value) = 0 := rfl
      go_wp2_with (at_len; first | refine wpList_len_own _ rfl (.tmp 41) 91 rfl 23 65 Tryz.underlying91 rd w0.heap.size 0 (.map []) rfl (HM3.out.alloc _) ?_ | refine wpList_len_own _ rfl (.tmp 43) 91 rfl 23 65 Tryz.underlying91 rd b n D2 rfl (HO3.out.alloc _) ?_)
      refine bodyPost_ret (v := .tuple #[.map (some b), .int .i64 1, .int .i64 0]) (by simp [results, Tryz.results49, go_sem, *]) rfl ⟨rfl, HO3.out.alloc _, HB3.out.alloc HB3.out.size _⟩
end Go.Proofs.YtlobgpgdknjhlaaGreat.WH
