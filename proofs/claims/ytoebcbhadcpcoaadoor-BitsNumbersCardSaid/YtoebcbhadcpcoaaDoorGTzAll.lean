/- math/bits.TrailingZeros64 and cubit/bits.Low at every word, where the table lies in its variable. -/
import Derived.Test.YtoebcbhadcpcoaaDoorGTz
import Derived.Test.YtoebcbhadcpcoaaDoorPAx2
import Derived.Shelf.Spec.TrailingZeros
import Derived.Lib.LaidTab
namespace Go.Proofs.YtoebcbhadcpcoaaDoor.PA
open Go.RowKit Go.Proofs.YtoebcbhadcpcoaaDoorW.PrintWords Go.Proofs.YtoebcbhadcpcoaaDoorW.PrintLast Go.Proofs.YtoebcbhadcpcoaaDoorW.PrintMore
/-- The table in its variable. -/
def Tab (w : World) : Prop := TabAt 0 Lib.deBruijn64tab w
theorem Tab.below {B : Nat} {w w' : World} (h : Tab w) (hb : Below B w w') (hB : 0 < B) : Tab w' := by
  intro j hj
  rw [← h j hj]
  exact (Below.cell hb hB)
theorem Tab.pos {w : World} (h : Tab w) : 0 < w.heap.size := World.block_lt_of_cell? w _ (h 0 (by decide))
theorem tz_core (x k idx : Nat) (w : World) (hx0 : ((x : Int) == 0) = false)
    (key : IntKind.u64.wrap (bits BinOp.and IntKind.u64 (x : Int) (IntKind.u64.wrap (-(x : Int))) * 285870213051353865) / 288230376151711744 = (idx : Int))
    (hi : idx < 64) (hk : k < 64) (hcell : w.cell? ⟨0, idx, none⟩ = some (.int .u8 k)) :
    Calls Tryd.prog 44 #[.int .u64 x] w fun e w' => e = .returned (.int .i64 k) ∧ Drawn0 w w' := by
  go_enter Tryd.func44, Tryd.ntmps44
  go_wp2_with (simp only [key])
  go_ret
  exact ⟨rfl, Drawn0.refl _⟩
theorem tz_all (x : Nat) (hx : x < 18446744073709551616) (w : World) (T : Tab w) :
    Calls Tryd.prog 44 #[.int .u64 x] w fun e w' => e = .returned (.int .i64 (Lib.ctz 64 x)) ∧ Drawn0 w w' := by
  by_cases hx0 : x = 0
  · subst hx0
    exact bits_TrailingZeros64.calls 0 64 w (by unfold bits_TrailingZeros64.f; rw [if_pos rfl])
  · obtain ⟨hlow, hk⟩ := Lib.lowest_bit 64 x hx0 hx
    obtain ⟨hi, htab⟩ := Lib.deBruijn64_at _ hk
    have hcell := T _ hi
    rw [htab] at hcell
    exact tz_core x _ _ w (by simp; omega) (tz64_key x _ hx hx0 hlow) hi hk hcell
theorem low_all (x : Nat) (hx : x < 18446744073709551616) (w : World) (T : Tab w) :
    Calls Tryd.prog 30 #[.int .u64 x] w fun e w' => e = .returned (.int .i64 (Lib.ctz 64 x)) ∧ Drawn0 w w' := by
  go_enter Tryd.func30, Tryd.ntmps30
  go_wp2_with (go_at_call 44; (with_reducible refine (tz_all x hx _ T).mono ?_); rintro e w' ⟨rfl, ⟨nd, rfl⟩⟩)
  go_ret
  exact ⟨rfl, _, rfl⟩
/-- Low at every word. -/
def lowAll.f (a0 : Int) : Option Int := if 0 ≤ a0 ∧ a0 < 18446744073709551616 then some (Lib.ctz 64 a0.toNat) else none
theorem lowAll.calls (a0 : Int) (r : Int) (w : World) (T : Tab w) (h : lowAll.f a0 = some r) :
    Calls Tryd.prog 30 #[.int .u64 a0] w fun e w' => e = .returned (.int .i64 r) ∧ Drawn0 w w' := by
  unfold lowAll.f at h
  by_cases h0 : 0 ≤ a0 ∧ a0 < 18446744073709551616
  · rw [if_pos h0] at h
    obtain rfl := Option.some.inj h
    have := low_all a0.toNat (by omega) w T
    rw [show ((a0.toNat : Nat) : Int) = a0 by omega] at this
    exact this
  · rw [if_neg h0] at h
    cases h
end Go.Proofs.YtoebcbhadcpcoaaDoor.PA
