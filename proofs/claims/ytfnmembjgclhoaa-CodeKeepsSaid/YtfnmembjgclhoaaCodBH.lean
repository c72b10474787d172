/- Rows that are copied with one string more. -/
import Derived.Test.YtfnmembjgclhoaaCodBD
import Derived.Test.YtfnmembjgclhoaaCodAL
import Derived.Laws.OwnMore
namespace Go.Proofs.Ytfnmembjgclhoaa.CD
open Go Go.RowKit
set_option linter.unusedVariables false
set_option linter.unusedSimpArgs false

theorem Alike.good {c d : Cod} (h : Alike c d) (hg : Good c) : Good d := by
  obtain ⟨n, ga, gc, gs, xa, xc, xs, za, zc, zs⟩ := c
  obtain ⟨n', ga', gc', gs', xa', xc', xs', za', zc', zs'⟩ := d
  obtain ⟨h1, h2, h3, h4⟩ := h
  simp only at h1 h2 h3 h4
  subst h1 h2 h3 h4
  obtain ⟨a1, a2, a3, a4, a5, a6, a7, a8, a9, a10, a11, a12, a13, a14⟩ := hg
  exact ⟨a1, a2, a3, a4, a5, a6, a7, a8, a9, a10, a11, a12, a13, a14⟩
theorem Alike.symm {c d : Cod} (h : Alike c d) : Alike d c := ⟨h.1.symm, h.2.1.symm, h.2.2.1.symm, h.2.2.2.symm⟩
theorem Alike.iff {c d : Cod} (h : Alike c d) : Good c ↔ Good d := ⟨h.good, h.symm.good⟩
theorem Alike.errC {c d : Cod} (h : Alike c d) : errC c = errC d := by
  unfold CD.errC
  by_cases hg : Good c
  · rw [if_pos hg, if_pos (h.good hg)]
  · rw [if_neg hg, if_neg (fun k => hg (h.symm.good k))]
theorem Alike.err2 {c d : Cod} (h : Alike c d) (p : Pau) : err2 c p = err2 d p := by
  unfold CD.err2
  by_cases hg : Good c
  · rw [if_pos hg, if_pos (h.good hg), h.1]
  · rw [if_neg hg, if_neg (fun k => hg (h.symm.good k))]
theorem Alike.synV {c d : Cod} (h : Alike c d) (p : Pau) : synV c p = synV d p := by unfold CD.synV; rw [h.err2 p, h.2.1]
theorem synV_U (c : Cod) (p : Pau) : U (synV c p) := by
  unfold CD.synV
  split
  · rename_i h
    exact ofB_U _ (good_of_err2 h).1.gl
  · unfold U; omega

/-- What an append reads. -/
def Src (w : World) (a : Option Addr) (m c : Nat) (news : List Value) : Prop :=
  (a = none ∧ m = 0 ∧ c = 0 ∧ news = []) ∨ ∃ ad, a = some ad ∧ news.length = m * 4 ∧ (∀ j u, news[j]? = some u → w.cell? (ad.add j) = some u) ∧ ∀ u ∈ news, u.oneCell' = true
theorem Src.below {w w' : World} {a : Option Addr} {m c : Nat} {news : List Value} (h : Src w a m c news) (hb : Below w.heap.size w w') : Src w' a m c news := by
  rcases h with h | ⟨ad, h1, h2, h3, h4⟩
  · exact .inl h
  · refine .inr ⟨ad, h1, h2, fun j u hu => ?_, h4⟩
    have h := h3 j u hu
    exact (hb.cell (World.block_lt_of_cell? w _ h)).trans h
theorem Row.src {w : World} {a : Option Addr} {c : Nat} {ps : List Pau} (h : Row w a c ps) (hn : a = none → c = 0) : Src w a ps.length c (flat ps) := by
  cases a with
  | none =>
    left
    rcases h.at_ with e | ⟨b, off, e, _⟩
    · subst e; exact ⟨rfl, rfl, hn rfl, rfl⟩
    · cases e
  | some ad =>
    right
    refine ⟨ad, rfl, flat_len ps, ?_, flat_one ps⟩
    rcases h.at_ with e | ⟨b, off, e, hc⟩
    · subst e; intro j u hu; simp [flat] at hu
    · injection e with e
      subst e
      exact Row.news hc
theorem step_append_src {ops : Array Oper} {o : Oper} {a : Act} {w : World} {K : Act → World → Prop} {Q : Exit → Act → World → Prop} {E : Prop} (hgd : o.guard = none) (s x : Operand)
    (ho : o.op = .call { callee := .builtin .append, args := #[s, x], argTypes := #[22, 22] })
    (base : Nat) (i : TypeInfo) (hi : Try.prog.info? 27 = some i) (hz : i.zero = some (.agg #[.int .i64 0, .int .u64 0, .int .u64 0, .int .i64 0])) (hsize : i.size = 4) (hby : i.bytes = 32)
    (v : Value) (n : Nat) (xs : List Value) (hs : a.eval s = v) (hown : w.ownsRow base 27 4 v n xs)
    (ad : Option Addr) (m c : Nat) (news : List Value) (hx : a.eval x = .slice ad m c) (hsrc : Src w ad m c news)
    (hm : (n + m) * 32 ≤ 140737488355328) (hbase : base ≤ w.heap.size)
    (h : ∀ v' w', w'.ownsRow base 27 4 v' (n + m) (xs ++ news) → w.grownBy w' v.ownBlock → K (a.put o.dst v') w') :
    if Region.wanted o (yielded ops a.tmps) = true then Oper.wp Try.prog o a w K Q else E := by
  have hw : Region.wanted o (yielded ops a.tmps) = true := by simp [Region.wanted, hgd]
  rw [if_pos hw]
  have hrun : ∃ v' w', (Builtin.append_ #[22, 22] o.type #[v, .slice ad m c]).run Try.prog w = .ok v' w' ∧ w'.ownsRow base 27 4 v' (n + m) (xs ++ news) ∧ w.grownBy w' v.ownBlock := by
    rcases hsrc with ⟨rfl, rfl, rfl, rfl⟩ | ⟨ad, rfl, h2, h3, h4⟩
    · refine ⟨v, w, run_append_owned_none (P := Try.prog) w base 22 o.type 27 i 4 Try.underlying22 hi v n xs hown, by simpa using hown, ⟨rfl, rfl, rfl, Nat.le_refl _, fun _ _ _ => rfl⟩⟩
    · obtain ⟨v', w', a1, a2, a3, _⟩ := run_append_own (P := Try.prog) w base 22 o.type 27 i _ 4 32 Try.underlying22 hi hz hsize hby rfl (by decide) v n xs hown ad m c news h2 h3 h4 (by unfold maxLen; omega) hm hbase
      exact ⟨v', w', a1, a2, a3⟩
  obtain ⟨v', w', hr, h2, h3⟩ := hrun
  unfold Oper.wp execOp
  simp only [ho, resolve, invoke, builtin, Sem.run_bind, Sem.run_pure, Result.andThen_ok, List.map_toArray, List.map_cons, List.map_nil, hs, hx, hr]
  exact h v' w' h2 h3
theorem ownsRow_empty {W : World} {g B : Nat} (h : W.heap[g]? = some (.cells #[] 27)) (hb : B ≤ g) : W.ownsRow B 27 4 (.slice (some ⟨g, 0, none⟩) 0 0) 0 [] :=
  ⟨rfl, .inr ⟨g, 0, #[], rfl, hb, h, Nat.le_refl _, by unfold maxLen; omega, rfl, rfl⟩⟩
theorem grown_below' {W w' : World} {B : Nat} {row : Option Nat} (h : W.grownBy w' row) (hr : ∀ k, row = some k → B ≤ k) (hB : B ≤ W.heap.size) : Below B W w' :=
  ⟨h.os, h.tape, h.output, h.size, fun k hk => h.block k (Nat.lt_of_lt_of_le hk hB) (fun e => by have := hr k e.symm; omega)⟩
/-- A row that the call owns: as a code's list. -/
theorem own_slice {W : World} {B : Nat} {v : Value} {ps : List Pau} {q : Pau} (h : W.ownsRow B 27 4 v (ps.length + 1) (flat (ps ++ [q]))) (hw : ∀ p ∈ ps, WF p) (hs : ps.length ≤ 4398046511104) :
    ∃ g k, v = .slice (some ⟨g, 0, none⟩) (ps.length + 1) k ∧ ps.length + 1 ≤ k ∧ Row W (some ⟨g, 0, none⟩) k ps ∧ Cells4 W g (ps.length * 4) q := by
  rcases h.2 with ⟨_, h1⟩ | ⟨g, k, cur, rfl, h1, h2, h3, h4, _⟩
  · omega
  · have hr := RowsP.of_own (ps := ps ++ [q]) rfl (by rw [List.length_append]; exact h)
    refine ⟨g, k, rfl, h3, ⟨by omega, by unfold maxLen at h4; omega, hs, hw, .inr ⟨g, 0, rfl, fun j hj => ?_⟩⟩, ?_⟩
    · have h9 := hr.at_ j (by simp; omega)
      rw [List.getElem_append_left hj] at h9
      rw [Nat.zero_add]
      exact h9
    · have h9 := hr.at_ ps.length (by simp)
      simpa using h9
end Go.Proofs.Ytfnmembjgclhoaa.CD
