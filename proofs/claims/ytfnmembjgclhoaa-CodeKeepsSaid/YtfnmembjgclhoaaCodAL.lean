/- Two codes: alike. -/
import Derived.Test.YtfnmembjgclhoaaCodAK
import Derived.Test.YtfnmembjgclhoaaCodH
namespace Go.Proofs.Ytfnmembjgclhoaa.CD
open Go Go.RowKit
set_option linter.unusedVariables false
set_option linter.unusedSimpArgs false

def Alike (c d : Cod) : Prop := c.n = d.n ∧ c.gs = d.gs ∧ c.xs = d.xs ∧ c.zs = d.zs
/-- Two codes' boxes. -/
structure BoxT (w : World) (c d : Cod) (W : World) : Prop where
  below : Below w.heap.size w W
  lt : w.heap.size + 1 < W.heap.size
  c0 : W.cell? ⟨w.heap.size, 0, none⟩ = some (.int .i64 c.n)
  c1 : W.cell? ⟨w.heap.size, 1, none⟩ = some (Value.slice c.ga c.gs.length c.gc)
  c2 : W.cell? ⟨w.heap.size, 2, none⟩ = some (Value.slice c.xa c.xs.length c.xc)
  c3 : W.cell? ⟨w.heap.size, 3, none⟩ = some (Value.slice c.za c.zs.length c.zc)
  d0 : W.cell? ⟨w.heap.size + 1, 0, none⟩ = some (.int .i64 d.n)
  d1 : W.cell? ⟨w.heap.size + 1, 1, none⟩ = some (Value.slice d.ga d.gs.length d.gc)
  d2 : W.cell? ⟨w.heap.size + 1, 2, none⟩ = some (Value.slice d.xa d.xs.length d.xc)
  d3 : W.cell? ⟨w.heap.size + 1, 3, none⟩ = some (Value.slice d.za d.zs.length d.zc)
theorem BoxT.start (w : World) (c d : Cod) : BoxT w c d ((w.alloc (.cells #[.int .i64 c.n, (Value.slice c.ga c.gs.length c.gc), (Value.slice c.xa c.xs.length c.xc), (Value.slice c.za c.zs.length c.zc)] 24)).alloc (.cells #[.int .i64 d.n, (Value.slice d.ga d.gs.length d.gc), (Value.slice d.xa d.xs.length d.xc), (Value.slice d.za d.zs.length d.zc)] 24)) := by
  have h1 := (BoxSt.start w c).step (below1 _ (.cells #[.int .i64 d.n, (Value.slice d.ga d.gs.length d.gc), (Value.slice d.xa d.xs.length d.xc), (Value.slice d.za d.zs.length d.zc)] 24))
  have h2 := BoxSt.start (w.alloc (.cells #[.int .i64 c.n, (Value.slice c.ga c.gs.length c.gc), (Value.slice c.xa c.xs.length c.xc), (Value.slice c.za c.zs.length c.zc)] 24)) d
  have hs : (w.alloc (.cells #[.int .i64 c.n, (Value.slice c.ga c.gs.length c.gc), (Value.slice c.xa c.xs.length c.xc), (Value.slice c.za c.zs.length c.zc)] 24)).heap.size = w.heap.size + 1 := by simp
  obtain ⟨-, -, e0, e1, e2, e3⟩ := h2
  rw [hs] at e0 e1 e2 e3
  exact ⟨h1.below, by simp, h1.c0, h1.c1, h1.c2, h1.c3, e0, e1, e2, e3⟩
theorem BoxT.step {w W W' : World} {c d : Cod} (h : BoxT w c d W) (hb : Below W.heap.size W W') : BoxT w c d W' := by
  have hl := h.lt
  have hl' : w.heap.size < W.heap.size := by omega
  exact ⟨h.below.trans (hb.mono h.below.size), Nat.lt_of_lt_of_le h.lt hb.size, (hb.cell (p := ⟨w.heap.size, 0, none⟩) hl').trans h.c0, (hb.cell (p := ⟨w.heap.size, 1, none⟩) hl').trans h.c1, (hb.cell (p := ⟨w.heap.size, 2, none⟩) hl').trans h.c2, (hb.cell (p := ⟨w.heap.size, 3, none⟩) hl').trans h.c3, (hb.cell (p := ⟨w.heap.size + 1, 0, none⟩) hl).trans h.d0, (hb.cell (p := ⟨w.heap.size + 1, 1, none⟩) hl).trans h.d1, (hb.cell (p := ⟨w.heap.size + 1, 2, none⟩) hl).trans h.d2, (hb.cell (p := ⟨w.heap.size + 1, 3, none⟩) hl).trans h.d3⟩

set_option maxRecDepth 100000 in
set_option maxHeartbeats 4000000 in
theorem same_calls (c d : Cod) (w : World) (hc : CodAt w c) (hd : CodAt w d) (r : Bool) (hres : r = true ↔ Alike c d) : Calls Try.prog 22 #[(Value.agg #[.int .i64 c.n, .slice c.ga c.gs.length c.gc, .slice c.xa c.xs.length c.xc, .slice c.za c.zs.length c.zc]), (Value.agg #[.int .i64 d.n, .slice d.ga d.gs.length d.gc, .slice d.xa d.xs.length d.xc, .slice d.za d.zs.length d.zc])] w fun e w' => e = .returned (.bool r) ∧ Below w.heap.size w w' := by
  have HBX := Lib.hid (BoxT.start w c d)
  have hg := fun r W (h : Below w.heap.size w W) (hr : r = true ↔ c.gs = d.gs) => samestr_calls c.ga c.gc c.gs d.ga d.gc d.gs W (hc.g.below h) (hd.g.below h) r hr
  have hx := fun r W (h : Below w.heap.size w W) (hr : r = true ↔ c.xs = d.xs) => samestr_calls c.xa c.xc c.xs d.xa d.xc d.xs W (hc.x.below h) (hd.x.below h) r hr
  have hz := fun r W (h : Below w.heap.size w W) (hr : r = true ↔ c.zs = d.zs) => samestr_calls c.za c.zc c.zs d.za d.zc d.zs W (hc.z.below h) (hd.z.below h) r hr
  clear hc hd
  unfold Alike at hres
  obtain ⟨n, ga, gc, gs, xa, xc, xs, za, zc, zs⟩ := c
  obtain ⟨n', ga', gc', gs', xa', xc', xs', za', zc', zs'⟩ := d
  simp only at HBX hg hx hz hres
  obtain ⟨-, hlt, k0, k1, k2, k3, d0, d1, d2, d3⟩ := HBX.out
  by_cases e0 : n = n'
  · subst e0
    by_cases eg : gs = gs'
    · subst eg
      by_cases ex : xs = xs'
      · subst ex
        by_cases ez : zs = zs'
        · subst ez
          have hg1 := fun W (h : Below w.heap.size w W) => hg true W h (iff_of_true (a := true = true) rfl rfl)
          have hx1 := fun W (h : Below w.heap.size w W) => hx true W h (iff_of_true (a := true = true) rfl rfl)
          have hz1 := fun W (h : Below w.heap.size w W) => hz true W h (iff_of_true (a := true = true) rfl rfl)
          have hr : r = true := hres.2 ⟨rfl, rfl, rfl, rfl⟩
          clear hres
          subst hr
          clear hg hx hz
          try clear ez
          go_enter Try.func22, Try.ntmps22
          go_wp2_with fail
          go_at_call 48
          refine (hg1 _ HBX.out.below).mono ?_
          rintro e w1 ⟨rfl, hb⟩
          replace HBX := Lib.hid (HBX.out.step hb.below)
          clear hb k0 k1 k2 k3 d0 d1 d2 d3 hlt
          obtain ⟨-, hlt, k0, k1, k2, k3, d0, d1, d2, d3⟩ := HBX.out
          go_wp2_with fail
          go_at_call 48
          refine (hx1 _ HBX.out.below).mono ?_
          rintro e w2 ⟨rfl, hb⟩
          replace HBX := Lib.hid (HBX.out.step hb.below)
          clear hb k0 k1 k2 k3 d0 d1 d2 d3 hlt
          obtain ⟨-, hlt, k0, k1, k2, k3, d0, d1, d2, d3⟩ := HBX.out
          go_wp2_with fail
          go_at_call 48
          refine (hz1 _ HBX.out.below).mono ?_
          rintro e w3 ⟨rfl, hb⟩
          replace HBX := Lib.hid (HBX.out.step hb.below)
          clear hb k0 k1 k2 k3 d0 d1 d2 d3 hlt
          obtain ⟨-, hlt, k0, k1, k2, k3, d0, d1, d2, d3⟩ := HBX.out
          go_wp2_with fail
          go_ret
          exact ⟨rfl, HBX.out.below⟩
        · skip
          have hg1 := fun W (h : Below w.heap.size w W) => hg true W h (iff_of_true (a := true = true) rfl rfl)
          have hx1 := fun W (h : Below w.heap.size w W) => hx true W h (iff_of_true (a := true = true) rfl rfl)
          have hz1 := fun W (h : Below w.heap.size w W) => hz false W h (iff_of_false (a := false = true) (by simp) ez)
          have hr : r = false := by
            cases hr : r
            · rfl
            · exact absurd (hres.1 hr).2.2.2 ez
          clear hres
          subst hr
          clear hg hx hz
          try clear ez
          go_enter Try.func22, Try.ntmps22
          go_wp2_with fail
          go_at_call 48
          refine (hg1 _ HBX.out.below).mono ?_
          rintro e w1 ⟨rfl, hb⟩
          replace HBX := Lib.hid (HBX.out.step hb.below)
          clear hb k0 k1 k2 k3 d0 d1 d2 d3 hlt
          obtain ⟨-, hlt, k0, k1, k2, k3, d0, d1, d2, d3⟩ := HBX.out
          go_wp2_with fail
          go_at_call 48
          refine (hx1 _ HBX.out.below).mono ?_
          rintro e w2 ⟨rfl, hb⟩
          replace HBX := Lib.hid (HBX.out.step hb.below)
          clear hb k0 k1 k2 k3 d0 d1 d2 d3 hlt
          obtain ⟨-, hlt, k0, k1, k2, k3, d0, d1, d2, d3⟩ := HBX.out
          go_wp2_with fail
          go_at_call 48
          refine (hz1 _ HBX.out.below).mono ?_
          rintro e w3 ⟨rfl, hb⟩
          replace HBX := Lib.hid (HBX.out.step hb.below)
          clear hb k0 k1 k2 k3 d0 d1 d2 d3 hlt
          obtain ⟨-, hlt, k0, k1, k2, k3, d0, d1, d2, d3⟩ := HBX.out
          go_wp2_with fail
          go_ret
          exact ⟨rfl, HBX.out.below⟩
      · skip
        have hg1 := fun W (h : Below w.heap.size w W) => hg true W h (iff_of_true (a := true = true) rfl rfl)
        have hx1 := fun W (h : Below w.heap.size w W) => hx false W h (iff_of_false (a := false = true) (by simp) ex)
        have hr : r = false := by
          cases hr : r
          · rfl
          · exact absurd (hres.1 hr).2.2.1 ex
        clear hres
        subst hr
        clear hg hx hz
        try clear ex
        go_enter Try.func22, Try.ntmps22
        go_wp2_with fail
        go_at_call 48
        refine (hg1 _ HBX.out.below).mono ?_
        rintro e w1 ⟨rfl, hb⟩
        replace HBX := Lib.hid (HBX.out.step hb.below)
        clear hb k0 k1 k2 k3 d0 d1 d2 d3 hlt
        obtain ⟨-, hlt, k0, k1, k2, k3, d0, d1, d2, d3⟩ := HBX.out
        go_wp2_with fail
        go_at_call 48
        refine (hx1 _ HBX.out.below).mono ?_
        rintro e w2 ⟨rfl, hb⟩
        replace HBX := Lib.hid (HBX.out.step hb.below)
        clear hb k0 k1 k2 k3 d0 d1 d2 d3 hlt
        obtain ⟨-, hlt, k0, k1, k2, k3, d0, d1, d2, d3⟩ := HBX.out
        go_wp2_with fail
        go_ret
        exact ⟨rfl, HBX.out.below⟩
    · skip
      have hg1 := fun W (h : Below w.heap.size w W) => hg false W h (iff_of_false (a := false = true) (by simp) eg)
      have hr : r = false := by
        cases hr : r
        · rfl
        · exact absurd (hres.1 hr).2.1 eg
      clear hres
      subst hr
      clear hg hx hz
      try clear eg
      go_enter Try.func22, Try.ntmps22
      go_wp2_with fail
      go_at_call 48
      refine (hg1 _ HBX.out.below).mono ?_
      rintro e w1 ⟨rfl, hb⟩
      replace HBX := Lib.hid (HBX.out.step hb.below)
      clear hb k0 k1 k2 k3 d0 d1 d2 d3 hlt
      obtain ⟨-, hlt, k0, k1, k2, k3, d0, d1, d2, d3⟩ := HBX.out
      go_wp2_with fail
      go_ret
      exact ⟨rfl, HBX.out.below⟩
  · have e0' : (n == n') = false := by rw [beq_eq_false_iff_ne]; exact e0
    have hr : r = false := by
      cases hr : r
      · rfl
      · exact absurd (hres.1 hr).1 e0
    clear hres e0
    subst hr
    clear hg hx hz
    go_enter Try.func22, Try.ntmps22
    go_wp2_with fail
    go_ret
    exact ⟨rfl, HBX.out.below⟩
end Go.Proofs.Ytfnmembjgclhoaa.CD
