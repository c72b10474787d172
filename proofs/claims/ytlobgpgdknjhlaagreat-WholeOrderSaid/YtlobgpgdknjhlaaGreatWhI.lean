/- gate.Arity, gate.Halves: walked. -/
import Derived.Test.YtlobgpgdknjhlaaGreatWhH
namespace Go.Proofs.YtlobgpgdknjhlaaGreat.WH
open Go Go.RowKit Go.Maps Go.Proofs.YtlobgpgdknjhlaaGreat.F
set_option linter.unusedVariables false
set_option linter.unusedSimpArgs false

theorem dOf_map : ∀ L, IsMap (dOf L)
  | [] => ⟨_, rfl⟩
  | x :: L => by
    obtain ⟨es, h⟩ := dOf_map L
    have e : dOf (x :: L) = (DataW.map es).put (.string x.1.name.data.toList) (.held (x.1.val x.2)) := by
      show (dOf L).put _ _ = _
      rw [h]
    rw [e]
    exact ⟨_, rfl⟩
theorem key9 (s : ByteArray) (h : s.size ≤ maxLen) : WideAt.IsKeyLit (.string s.data.toList) := law9.key (Go.WideMaps.keyOf_string_mk Tryz.underlying9 h)
theorem lit_inj {a b : ByteArray} (h : Lit.string a.data.toList = Lit.string b.data.toList) : a = b := by
  injection h with h
  exact ByteArray.ext (Array.toList_inj.1 h)
theorem dOf_at : ∀ (L : List (En × Value)), (L.map (·.1.name)).Nodup → (∀ x ∈ L, x.1.name.size ≤ maxLen) → ∀ x ∈ L, ∀ z, (dOf L).atKey (.string x.1.name.data.toList) z = .held (x.1.val x.2)
  | [], _, _, x, hx, z => by cases hx
  | y :: L, hn, hs, x, hx, z => by
    rw [List.map_cons, List.nodup_cons] at hn
    rcases List.mem_cons.1 hx with rfl | hx
    · exact atKey_put_same (dOf_map L) (key9 _ (hs _ List.mem_cons_self)) _ z
    · have hne : x.1.name ≠ y.1.name := fun e => hn.1 (e ▸ List.mem_map_of_mem (f := fun x : En × Value => x.1.name) hx)
      show ((dOf L).put _ _).atKey _ z = _
      rw [atKey_put_other (fun e => hne (lit_inj e))]
      exact dOf_at L hn.2 (fun w hw => hs w (List.mem_cons_of_mem _ hw)) x hx z
theorem held_inj {v : Value} {u : Value} {ps : List MemPlace} (h : rd v = some (.held u, ps)) : v = u := by
  unfold rd at h
  injection h with h
  injection h with h
  injection h
theorem zero139 (w : World) : (zeroValue 139).run Tryz.prog w = .ok (.agg #[.int .i64 0, .int .i64 0, .bool false, .bool false, .string { data := #[] }, .nilFunc]) w := by kernel_rfl
/-- The entry of a name. -/
theorem KM.look {w W : World} {B : Nat} {L : List (En × Value)} (h : KM w B L W) (hn : (L.map (·.1.name)).Nodup) (hs : ∀ x ∈ L, x.1.name.size ≤ maxLen) {x : En × Value} (hx : x ∈ L) :
    (Instr.lookup 140 (.map (some B)) (.string x.1.name) false).run Tryz.prog W = .ok (x.1.val x.2) W := by
  obtain ⟨v, ps, hr, hv⟩ := h.map.lookup law9 Tryz.underlying140 (zero139 W) (zd := .held _) (zp := []) rfl (key := .string x.1.name) (Go.WideMaps.keyOf_string_mk Tryz.underlying9 (hs x hx))
  rw [dOf_at L hn hs x hx] at hv
  rw [held_inj hv] at hr
  exact hr
/-- .. with 'ok'. -/
theorem KM.look_ok {w W : World} {B : Nat} {L : List (En × Value)} (h : KM w B L W) (hn : (L.map (·.1.name)).Nodup) (hs : ∀ x ∈ L, x.1.name.size ≤ maxLen) {x : En × Value} (hx : x ∈ L) :
    (Instr.lookup 140 (.map (some B)) (.string x.1.name) true).run Tryz.prog W = .ok (.tuple #[x.1.val x.2, .bool true]) W := by
  obtain ⟨v, ps, hr, hv⟩ := h.map.look_ok law9 Tryz.underlying140 (zero139 W) (zd := .held _) (zp := []) rfl (key := .string x.1.name) (Go.WideMaps.keyOf_string_mk Tryz.underlying9 (hs x hx))
  rw [dOf_at L hn hs x hx] at hv
  rw [held_inj hv, Maps.has_true_of_atKey (dOf_at L hn hs x hx)] at hr
  exact hr
/-- All gates. -/
def gates : List En := [e_cswap, e_ccz, e_ccx, e_iswapdg, e_iswap, e_swap, e_csdg, e_cs, e_ch, e_cz, e_cy, e_cx, e_wdg, e_w, e_vdg, e_v, e_tdg, e_t, e_sdg, e_s, e_h, e_z, e_y, e_x, e_i]
theorem gates_nodup : (gates.map (·.name)).Nodup := by decide +kernel
theorem gates_size : ∀ e ∈ gates, e.name.size ≤ maxLen := by
  intro e he
  have h : gates.all (fun e => decide (e.name.size ≤ 7)) = true := by kernel_rfl
  have h1 := of_decide_eq_true (List.all_eq_true.1 h e he)
  unfold maxLen
  omega
/-- kinds, once more: each gate is there. -/
theorem kinds_at (e : En) (he : e ∈ gates) (w : World) : Calls Tryz.prog 71 #[] w fun x w' => ∃ B v, x = .returned (.map (some B)) ∧ Below w.heap.size w w' ∧ Col B w' v e.f ∧ w.heap.size ≤ B ∧
    (Instr.lookup 140 (.map (some B)) (.string e.name) false).run Tryz.prog w' = .ok (e.val v) w' ∧ (Instr.lookup 140 (.map (some B)) (.string e.name) true).run Tryz.prog w' = .ok (.tuple #[e.val v, .bool true]) w' := by
  refine (kinds_calls w).mono fun x w' ⟨B, L, hx, hk, hL⟩ => ?_
  have hL' : L.map (·.1) = gates := hL
  have hmem : e ∈ L.map (·.1) := hL' ▸ he
  obtain ⟨y, hy, rfl⟩ := List.mem_map.1 hmem
  have hn : (L.map (·.1.name)).Nodup := by
    have h1 := gates_nodup
    rw [← hL', List.map_map] at h1
    exact h1
  have hs : ∀ x ∈ L, x.1.name.size ≤ maxLen := fun x hx => gates_size x.1 (hL' ▸ List.mem_map_of_mem (f := (·.1)) hx)
  exact ⟨B, y.2, hx, hk.below, hk.col y hy, hk.lo, hk.look hn hs hy, hk.look_ok hn hs hy⟩
theorem fld0 (a b : Int) (c d : Bool) (s : ByteArray) (v : Value) (W : World) : (Instr.field 139 (.agg #[.int .i64 a, .int .i64 b, .bool c, .bool d, .string s, v]) 0).run Tryz.prog W = .ok (.int .i64 a) W := by kernel_rfl
theorem fld1 (a b : Int) (c d : Bool) (s : ByteArray) (v : Value) (W : World) : (Instr.field 139 (.agg #[.int .i64 a, .int .i64 b, .bool c, .bool d, .string s, v]) 1).run Tryz.prog W = .ok (.int .i64 b) W := by kernel_rfl
set_option maxRecDepth 100000 in
theorem arity_calls (e : En) (he : e ∈ gates) (w : World) : Calls Tryz.prog 69 #[.string e.name] w fun x w' => x = .returned (.int .i64 e.ar) ∧ Below w.heap.size w w' := by
  have h := kinds_at e he w
  have h0 := fld0
  have h1 := fld1
  obtain ⟨name, ar, ha, cl, di, back, f⟩ := e
  simp only [En.val] at h
  go_enter Tryz.func69, Tryz.ntmps69
  go_wp2_with fail
  go_at_call 71
  refine h.mono ?_
  rintro x w' ⟨B, v, rfl, hb, hc, hlo, hl, -⟩
  go_wp2_with fail
  go_ret
  exact ⟨rfl, hb⟩
set_option maxRecDepth 100000 in
theorem halves_calls (e : En) (he : e ∈ gates) (w : World) : Calls Tryz.prog 41 #[.string e.name] w fun x w' => x = .returned (.int .i64 e.ha) ∧ Below w.heap.size w w' := by
  have h := kinds_at e he w
  have h0 := fld0
  have h1 := fld1
  obtain ⟨name, ar, ha, cl, di, back, f⟩ := e
  simp only [En.val] at h
  go_enter Tryz.func41, Tryz.ntmps41
  go_wp2_with fail
  go_at_call 71
  refine h.mono ?_
  rintro x w' ⟨B, v, rfl, hb, hc, hlo, hl, -⟩
  go_wp2_with fail
  go_ret
  exact ⟨rfl, hb⟩
end Go.Proofs.YtlobgpgdknjhlaaGreat.WH
