/- math/bits.TrailingZeros64 at 0 answers 64, without a look into its table. -/
import Derived.Test.YtoebcbhadcpcoaaDoorProg
import Derived.WalkKit
import Derived.KernelRfl
import Derived.Test.YtoebcbhadcpcoaaDoorWMore
namespace Go.Proofs.YtoebcbhadcpcoaaDoor.PA
open Go.RowKit Go.Proofs.YtoebcbhadcpcoaaDoorW.PrintWords Go.Proofs.YtoebcbhadcpcoaaDoorW.PrintLast Go.Proofs.YtoebcbhadcpcoaaDoorW.PrintMore
def bits_TrailingZeros64.f (a0 : Int) : Option Int := if a0 = 0 then some 64 else none
theorem bits_TrailingZeros64.calls (a0 : Int) (r : Int) (w : World) (h : bits_TrailingZeros64.f a0 = some r) :
    Calls Tryd.prog 44 #[.int .u64 a0] w fun e w' => e = .returned (.int .i64 r) ∧ Drawn0 w w' := by
  unfold bits_TrailingZeros64.f at h
  by_cases h0 : a0 = 0
  · rw [if_pos h0] at h
    subst h0
    obtain rfl := Option.some.inj h
    clear h
    go_enter Tryd.func44, Tryd.ntmps44
    go_wp2
    go_ret
    exact ⟨rfl, Drawn0.refl _⟩
  · rw [if_neg h0] at h
    cases h
end Go.Proofs.YtoebcbhadcpcoaaDoor.PA
