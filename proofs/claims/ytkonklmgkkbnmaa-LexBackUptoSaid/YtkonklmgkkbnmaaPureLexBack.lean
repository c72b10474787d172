/- LexBack: what is joined is read again as the same tokens, and what is read is joined and read again; where the arguments are of bulk at most 1048576. -/
import Derived.Test.YtkonklmgkkbnmaaPAx14
import Derived.Test.YtkonklmgkkbnmaaLexJoin
import Derived.Test.YtkonklmgkkbnmaaLexToks
import Derived.Test.YtkonklmgkkbnmaaLexBytes
import Derived.Test.YtkonklmgkkbnmaaPureLexJoins
namespace Go.Proofs.Ytkonklmgkkbnmaa.Pure
open Go.RowKit Go.Proofs.Ytkonklmgkkbnmaa.PA Go.Proofs.Ytkonklmgkkbnmaa.B Go.Proofs.YtkonklmgkkbnmaaW.PrintWords Go.Proofs.YtkonklmgkkbnmaaW.PrintLast Go.Proofs.YtkonklmgkkbnmaaW.PrintMore
set_option linter.unusedVariables false
set_option linter.unusedSimpArgs false
theorem runTo_eq {p : Int → Bool} {s : ByteArray} : ∀ (d a b : Nat), a + d = b → b ≤ s.size → (∀ j, a ≤ j → j < b → p (bt s (j : Int)) = true) → (b < s.size → p (bt s (b : Int)) = false) → runTo p s a = b
  | 0, a, b, h, hb, _, he => by
    obtain rfl : a = b := by omega
    exact runTo_stop he
  | d + 1, a, b, h, hb, hi, he => by
    rw [runTo_step (by omega) (hi a (Nat.le_refl _) (by omega))]
    exact runTo_eq d (a + 1) b (by omega) hb (fun j h1 h2 => hi j (by omega) h2) he
theorem runTo_in {p : Int → Bool} {s : ByteArray} {i j : Nat} (h1 : i ≤ j) (h2 : j < runTo p s i) : p (bt s (j : Int)) = true := nxt_in p s _ i j h1 h2
/-- A right token, as it stands in a text. -/
theorem tok_at {t : S31} {s : ByteArray} {a : Nat} (hr : rightB t = true) (hb : a + t.f1.size ≤ s.size) (hi : ∀ j : Nat, j < t.f1.size → bt s ((a + j : Nat) : Int) = bt t.f1 (j : Int)) (he : a + t.f1.size < s.size → bt s ((a + t.f1.size : Nat) : Int) = 32) :
    a < s.size ∧ TokAt s a (a + t.f1.size) t.f0 ∧ t = ⟨t.f0, s.extract a (a + t.f1.size), t.f2⟩ := by
  have hx : s.extract a (a + t.f1.size) = t.f1 := by
    refine eq_of_bt (by rw [size_ext s hb]; omega) (fun j hj => ?_)
    rw [size_ext s hb] at hj
    rw [bt_ext s hb (by omega)]
    exact hi j (by omega)
  have key : 0 < t.f1.size ∧ TokAt s a (a + t.f1.size) t.f0 := by
    unfold rightB at hr
    by_cases h1 : t.f0 = 1
    · rw [if_pos h1] at hr
      unfold isNameB at hr
      simp only [Bool.and_eq_true, decide_eq_true_eq] at hr
      refine ⟨hr.1, .inl ⟨h1, ?_, ?_⟩⟩
      · have := hi 0 hr.1
        rw [Nat.add_zero] at this
        rw [this]
        exact hr.2.1
      · refine (runTo_eq t.f1.size a _ rfl hb (fun j h1 h2 => ?_) (fun h => by rw [he h]; decide)).symm
        obtain ⟨m, rfl⟩ : ∃ m, j = a + m := ⟨j - a, by omega⟩
        rw [hi m (by omega)]
        exact runTo_in (Nat.zero_le m) (by rw [hr.2.2]; omega)
    · rw [if_neg h1] at hr
      by_cases h2 : t.f0 = 2
      · rw [if_pos h2] at hr
        unfold numB at hr
        simp only [Bool.and_eq_true, decide_eq_true_eq] at hr
        have all : ∀ m, m < t.f1.size → digitB (bt t.f1 (m : Int)) = true := fun m hm => runTo_in (Nat.zero_le m) (by rw [hr.2]; exact hm)
        refine ⟨hr.1, .inr (.inl ⟨h2, ?_, ?_, ?_⟩)⟩
        · have := hi 0 hr.1
          rw [Nat.add_zero] at this
          rw [this]
          exact all 0 hr.1
        · refine (runTo_eq t.f1.size a _ rfl hb (fun j h1 h2 => ?_) (fun h => by rw [he h]; decide)).symm
          obtain ⟨m, rfl⟩ : ∃ m, j = a + m := ⟨j - a, by omega⟩
          rw [hi m (by omega)]
          exact all m (by omega)
        · rintro ⟨h3, h4⟩
          rw [he h3] at h4
          exact absurd h4 (by decide)
      · rw [if_neg h2] at hr
        by_cases h3 : t.f0 = 3
        · rw [if_pos h3] at hr
          unfold sigB at hr
          simp only [Bool.and_eq_true, decide_eq_true_eq] at hr
          refine ⟨by omega, .inr (.inr ⟨h3, ?_, by rw [hr.1]⟩)⟩
          have := hi 0 (by omega)
          rw [Nat.add_zero] at this
          rw [this]
          exact hr.2
        · rw [if_neg h3] at hr
          cases hr
  refine ⟨by omega, key.2, ?_⟩
  rw [hx]
theorem bt_list (s : ByteArray) {i : Nat} (h : i < s.size) : bt s (i : Int) = (((s.data.toList[i]?).getD 0).toNat : Int) := by
  unfold bt
  rw [dif_pos (show (i : Int).toNat < s.size by simpa using h)]
  have h' : i < s.data.toList.length := h
  rw [List.getElem?_eq_getElem h']
  rfl
/-- A piece of a list behind a place. -/
theorem seg {L x rest : List UInt8} {a : Nat} (h : L.drop a = x ++ rest) (ha : a ≤ L.length) : (∀ j, j < x.length → L[a + j]? = x[j]?) ∧ L.drop (a + x.length) = rest ∧ a + x.length + rest.length = L.length := by
  refine ⟨fun j hj => ?_, ?_, ?_⟩
  · rw [← List.getElem?_drop, h, List.getElem?_append_left hj]
  · rw [← List.drop_drop, h, List.drop_left]
  · have := congrArg List.length h
    rw [List.length_drop, List.length_append] at this
    omega
def placeT : List S31 → Nat → List S31
  | [], _ => []
  | t :: r, e => ⟨t.f0, t.f1, ((e + 1 : Nat) : Int)⟩ :: placeT r (e + 1 + t.f1.size)
def place : List S31 → List S31
  | [] => []
  | t :: r => ⟨t.f0, t.f1, ((0 : Nat) : Int)⟩ :: placeT r t.f1.size
theorem rest_blank {r : List S31} {L : List UInt8} {e : Nat} (h : L.drop e = Lib.joinTail [32] (texts r)) (he : e < L.length) : L[e]? = some 32 := by
  cases r with
  | nil =>
    have := congrArg List.length h
    rw [List.length_drop] at this
    simp [texts, Lib.joinTail] at this
    omega
  | cons t r =>
    have : L.drop e = 32 :: (t.f1.data.toList ++ Lib.joinTail [32] (texts r)) := by
      rw [h]
      simp [texts, Lib.joinTail]
    have h0 : (L.drop e)[0]? = some 32 := by rw [this]; rfl
    rw [List.getElem?_drop] at h0
    exact h0
theorem one_tok {t : S31} {r : List S31} {s : ByteArray} {a : Nat} (hr : rightB t = true) (ha : a ≤ s.size) (h : s.data.toList.drop a = t.f1.data.toList ++ Lib.joinTail [32] (texts r)) :
    a < s.size ∧ TokAt s a (a + t.f1.size) t.f0 ∧ t = ⟨t.f0, s.extract a (a + t.f1.size), t.f2⟩ ∧ s.data.toList.drop (a + t.f1.size) = Lib.joinTail [32] (texts r) ∧ a + t.f1.size ≤ s.size := by
  have hsz : s.data.toList.length = s.size := rfl
  have hts : t.f1.data.toList.length = t.f1.size := rfl
  obtain ⟨h1, h2, h3⟩ := seg h (by omega)
  rw [hts] at h1 h2 h3
  have hb : a + t.f1.size ≤ s.size := by omega
  have hi : ∀ j : Nat, j < t.f1.size → bt s ((a + j : Nat) : Int) = bt t.f1 (j : Int) := fun j hj => by
    rw [bt_list s (by omega), bt_list t.f1 hj, h1 j hj]
  have he : a + t.f1.size < s.size → bt s ((a + t.f1.size : Nat) : Int) = 32 := fun hlt => by
    rw [bt_list s hlt, rest_blank h2 (by omega)]
    rfl
  obtain ⟨k1, k2, k3⟩ := tok_at hr hb hi he
  exact ⟨k1, k2, k3, h2, hb⟩
theorem toks_tail {s : ByteArray} : ∀ (r : List S31) (e : Nat), (∀ t ∈ r, rightB t = true) → e ≤ s.size → s.data.toList.drop e = Lib.joinTail [32] (texts r) → Toks s (placeT r e) e
  | [], e, _, he, h => by
    have := congrArg List.length h
    rw [List.length_drop] at this
    have hsz : s.data.toList.length = s.size := rfl
    simp [texts, Lib.joinTail] at this
    refine ⟨0, ?_⟩
    show e = s.size
    omega
  | t :: r, e, hr, he, h => by
    have hsz : s.data.toList.length = s.size := rfl
    have h' : s.data.toList.drop e = [32] ++ (t.f1.data.toList ++ Lib.joinTail [32] (texts r)) := by
      rw [h]
      simp [texts, Lib.joinTail]
    obtain ⟨g1, g2, g3⟩ := seg h' (by omega)
    have hlt : e < s.size := by
      simp only [List.length_singleton] at g3
      omega
    obtain ⟨k1, k2, k3, k4, k5⟩ := one_tok (hr t (List.mem_cons_self)) (by omega) g2
    have hbl : bt s (e : Int) = 32 := by
      rw [bt_list s hlt]
      have := g1 0 (by simp)
      rw [Nat.add_zero] at this
      rw [this]
      rfl
    refine ⟨e + 1, e + 1 + t.f1.size, 1, t.f0, ?_, k1, k2, ?_, toks_tail r _ (fun u hu => hr u (List.mem_cons_of_mem _ hu)) k5 k4⟩
    · exact .inr (.inl ⟨hlt, by rw [hbl]; rfl, rfl⟩)
    · have hf := congrArg S31.f1 k3
      show (⟨t.f0, t.f1, ((e + 1 : Nat) : Int)⟩ : S31) = ⟨t.f0, s.extract (e + 1) (e + 1 + t.f1.size), ((e + 1 : Nat) : Int)⟩
      rw [show s.extract (e + 1) (e + 1 + t.f1.size) = t.f1 from hf.symm]
theorem toks_join (l : List S31) (hr : ∀ t ∈ l, rightB t = true) : Toks (joinS l) (place l) 0 := by
  cases l with
  | nil => exact ⟨0, rfl⟩
  | cons t r =>
    have h : (joinS (t :: r)).data.toList.drop 0 = t.f1.data.toList ++ Lib.joinTail [32] (texts r) := by
      show Lib.join (t.f1.data.toList :: texts r) [32] = _
      rw [Lib.join_cons]
    obtain ⟨k1, k2, k3, k4, k5⟩ := one_tok (hr t (List.mem_cons_self)) (Nat.zero_le _) h
    rw [Nat.zero_add] at k2 k3 k4 k5
    refine ⟨0, t.f1.size, 0, t.f0, Gap.same _ _ _, k1, k2, ?_, toks_tail r _ (fun u hu => hr u (List.mem_cons_of_mem _ hu)) k5 k4⟩
    have hf := congrArg S31.f1 k3
    show (⟨t.f0, t.f1, ((0 : Nat) : Int)⟩ : S31) = ⟨t.f0, (joinS (t :: r)).extract 0 t.f1.size, ((0 : Nat) : Int)⟩
    rw [show (joinS (t :: r)).extract 0 t.f1.size = t.f1 from hf.symm]
/-- What stands in a text is right. -/
theorem right_of {s : ByteArray} {a b : Nat} {kd c : Int} (ha : a < s.size) (h : TokAt s a b kd) : rightB ⟨kd, s.extract a b, c⟩ = true := by
  obtain ⟨hlt, hb⟩ := h.lt ha
  have hsz : (s.extract a b).size = b - a := size_ext s hb
  have hbt : ∀ j, j < b - a → bt (s.extract a b) (j : Int) = bt s ((a + j : Nat) : Int) := fun j hj => bt_ext s hb (by omega)
  have h0 : bt (s.extract a b) 0 = bt s (a : Int) := by
    have := hbt 0 (by omega)
    rw [Nat.add_zero] at this
    exact this
  unfold rightB
  rcases h with ⟨rfl, h1, h2⟩ | ⟨rfl, h1, h2, _⟩ | ⟨rfl, h1, h2⟩
  · rw [if_pos rfl]
    unfold isNameB
    have hrun : runTo nameB (s.extract a b) 0 = (s.extract a b).size := runTo_eq _ 0 _ (Nat.zero_add _) (Nat.le_refl _) (fun j _ hj => by
      rw [hbt j (by omega)]
      exact runTo_in (i := a) (by omega) (by omega)) (fun h => absurd h (Nat.lt_irrefl _))
    simp only [Bool.and_eq_true, decide_eq_true_eq]
    exact ⟨by omega, by rw [h0]; exact h1, hrun⟩
  · rw [if_neg (show ¬ (2 : Int) = 1 by decide), if_pos rfl]
    unfold numB
    have hrun : runTo digitB (s.extract a b) 0 = (s.extract a b).size := runTo_eq _ 0 _ (Nat.zero_add _) (Nat.le_refl _) (fun j _ hj => by
      rw [hbt j (by omega)]
      exact runTo_in (i := a) (by omega) (by omega)) (fun h => absurd h (Nat.lt_irrefl _))
    simp only [Bool.and_eq_true, decide_eq_true_eq]
    exact ⟨by omega, hrun⟩
  · rw [if_neg (show ¬ (3 : Int) = 1 by decide), if_neg (show ¬ (3 : Int) = 2 by decide), if_pos rfl]
    unfold sigB
    simp only [Bool.and_eq_true, decide_eq_true_eq]
    exact ⟨by omega, by rw [h0]; exact h1⟩
theorem toks_right {s : ByteArray} : ∀ (r : List S31) (e : Nat), Toks s r e → e ≤ s.size → (∀ t ∈ r, rightB t = true) ∧ szs r + e ≤ s.size
  | [], e, _, he => ⟨fun t ht => (by cases ht), by simpa [szs] using he⟩
  | t :: r, e, ⟨a, b, n, kd, hg, ha, ht, et, hr⟩, he => by
    obtain ⟨hlt, hb⟩ := ht.lt ha
    obtain ⟨h1, h2⟩ := toks_right r b hr hb
    have hea := Gap.le _ _ _ hg
    have hR := @right_of s a b kd (a : Int) ha ht
    rw [← et] at hR
    refine ⟨fun u hu => ?_, ?_⟩
    · rcases List.mem_cons.1 hu with rfl | hu
      · exact hR
      · exact h1 u hu
    · have hs : t.f1.size = b - a := by rw [et]; exact size_ext s hb
      have : szs (t :: r) = t.f1.size + szs r := by simp [szs]
      omega
theorem placeT_len : ∀ (r : List S31) (e : Nat), (placeT r e).length = r.length
  | [], _ => rfl
  | t :: r, e => by show (placeT r _).length + 1 = _; rw [placeT_len r]; rfl
theorem place_len (l : List S31) : (place l).length = l.length := by
  cases l with
  | nil => rfl
  | cons t r => show (placeT r _).length + 1 = _; rw [placeT_len]; rfl
theorem placeT_at : ∀ (r : List S31) (e j : Nat) (h : j < r.length), ∃ c, (placeT r e)[j]? = some ⟨(r[j]'h).f0, (r[j]'h).f1, c⟩
  | t :: r, e, 0, _ => ⟨_, rfl⟩
  | t :: r, e, j + 1, h => placeT_at r _ j (by simpa using h)
theorem place_at (l : List S31) (j : Nat) (h : j < l.length) : ∃ c, (place l)[j]? = some ⟨(l[j]'h).f0, (l[j]'h).f1, c⟩ := by
  cases l with
  | nil => simp at h
  | cons t r =>
    cases j with
    | zero => exact ⟨_, rfl⟩
    | succ j => exact placeT_at r _ j (by simpa using h)
theorem placeT_texts : ∀ (r : List S31) (e : Nat), texts (placeT r e) = texts r ∧ (placeT r e).all rightB = r.all rightB ∧ szs (placeT r e) = szs r
  | [], _ => ⟨rfl, rfl, rfl⟩
  | t :: r, e => by
    obtain ⟨h1, h2, h3⟩ := placeT_texts r (e + 1 + t.f1.size)
    refine ⟨?_, ?_, ?_⟩
    · show t.f1.data.toList :: texts (placeT r _) = _
      rw [h1]; rfl
    · show (rightB t && (placeT r _).all rightB) = _
      rw [h2]; rfl
    · have e1 : ∀ (c : Int) (q : List S31), szs (⟨t.f0, t.f1, c⟩ :: q) = t.f1.size + szs q := fun c q => by simp [szs]
      have e2 : szs (t :: r) = t.f1.size + szs r := by simp [szs]
      show szs (⟨t.f0, t.f1, _⟩ :: placeT r _) = _
      rw [e1, e2, h3]
theorem place_texts (l : List S31) : texts (place l) = texts l ∧ (place l).all rightB = l.all rightB ∧ szs (place l) = szs l := by
  cases l with
  | nil => exact ⟨rfl, rfl, rfl⟩
  | cons t r =>
    obtain ⟨h1, h2, h3⟩ := placeT_texts r t.f1.size
    refine ⟨?_, ?_, ?_⟩
    · show t.f1.data.toList :: texts (placeT r _) = _
      rw [h1]; rfl
    · show (rightB t && (placeT r _).all rightB) = _
      rw [h2]; rfl
    · have e1 : ∀ (c : Int) (q : List S31), szs (⟨t.f0, t.f1, c⟩ :: q) = t.f1.size + szs q := fun c q => by simp [szs]
      have e2 : szs (t :: r) = t.f1.size + szs r := by simp [szs]
      show szs (⟨t.f0, t.f1, _⟩ :: placeT r _) = _
      rw [e1, e2, h3]
theorem place_join (l : List S31) : joinR (place l) = joinR l := by
  obtain ⟨h1, h2, h3⟩ := place_texts l
  unfold joinR joinS
  rw [h1, h2, h3, place_len]
theorem join_size (l : List S31) (h : l.length - 1 + szs l ≤ 65536) : (joinS l).size ≤ 65536 := by
  have e : (joinS l).size = (Lib.join (texts l) [32]).length := rfl
  rw [e]
  cases l with
  | nil => simp [texts, Lib.join_nil]
  | cons t r =>
    have h1 := Lib.join_length t.f1.data.toList (texts r) [32]
    have h2 := lens_texts (t :: r)
    show (Lib.join (t.f1.data.toList :: texts r) [32]).length ≤ _
    rw [h1, show Lib.lens (t.f1.data.toList :: texts r) = szs (t :: r) from h2]
    simp [texts] at h ⊢
    omega
/-- Joined and scanned. -/
theorem scan_joined {l : List S31} (ha : l.all rightB = true) (hn : l.length - 1 + szs l ≤ 65536) : scanW (joinS l) = (place l, 0, 0) :=
  scanW_of (toks_join l (fun t ht => List.all_eq_true.mp ha t ht)) (join_size l hn)
/-! The law. -/
theorem size_of_mem {l : List S31} {n : Nat} (h : szs l ≤ n) : ∀ t ∈ l, t.f1.size ≤ n := by
  induction l with
  | nil => intro t ht; cases ht
  | cons u r ih =>
    have e : szs (u :: r) = u.f1.size + szs r := by simp [szs]
    intro t ht
    rcases List.mem_cons.1 ht with rfl | ht
    · omega
    · exact ih (by omega) t ht
theorem j4_ev {l : List S31} (ha : l.all rightB = true) (hl : l.length ≤ 65536) (hz : szs l ≤ 65536) {n : Int} (hn : n = (l.length : Int) - 1 + (szs l : Int)) :
    Ev (fun k => cubitlaw09_LexBack.j4 k l n (joinR l).1 (joinR l).2 (if (joinR l).2 = 0 then decide (n > 65536) else true)) true := by
  have hz0 : l.length = 0 → szs l = 0 := by
    intro h
    rw [List.length_eq_zero_iff.mp h]
    rfl
  unfold joinR
  rw [if_pos ha]
  by_cases h : l.length - 1 + szs l > 65536
  · rw [if_pos h]
    show Ev (fun k => cubitlaw09_LexBack.j4 k l n (⟨#[]⟩ : ByteArray) 1 true) true
    refine Ev.step (f := fun _ => some true) (fun k => ?_) (Ev.now _)
    rw [cubitlaw09_LexBack.j4, if_pos rfl, if_pos rfl, decide_eq_true (by omega)]
  · rw [if_neg h]
    simp only [if_true]
    rw [decide_eq_false (by omega)]
    refine Ev.step (fun k => by rw [cubitlaw09_LexBack.j4, if_neg (by decide)]) ?_
    have hs := scan_prog (joinS l)
    rw [scan_joined ha (by omega)] at hs
    refine Ev.bind hs ?_
    have hp := prog_join (place l) (by rw [place_len]; omega) (by rw [(place_texts l).2.2]; omega) (fun t ht => Nat.le_trans (size_of_mem (Nat.le_of_eq (place_texts l).2.2) t ht) (by omega))
    rw [place_join] at hp
    unfold joinR at hp
    rw [if_pos ha, if_neg h] at hp
    refine Ev.bind hp ?_
    simp only [if_true, place_len, beq_self_eq_true]
    exact Ev.now _
theorem l1_ev {l : List S31} (ha : l.all rightB = true) (hl : l.length ≤ 65536) (hz : szs l ≤ 65536) : ∀ (d j : Nat), j + d = l.length →
    Ev (fun k => cubitlaw09_LexBack.l1 k l ((l.length : Int) - 1 + (szs (l.take j) : Int)) (j : Int)) true
  | 0, j, hj => by
    obtain rfl : j = l.length := by omega
    rw [List.take_length]
    have hp := prog_join l (by omega) (by omega) (fun t ht => Nat.le_trans (size_of_mem hz t ht) (by omega))
    refine Ev.step (f := fun k => (lex_Join.f k l).bind fun bt304 => (if bt304.2 = 0 then (cubitlaw09_LexBack.j4 k l ((l.length : Int) - 1 + (szs l : Int)) bt304.1 bt304.2 (decide (((l.length : Int) - 1 + (szs l : Int)) > 65536))) else (cubitlaw09_LexBack.j4 k l ((l.length : Int) - 1 + (szs l : Int)) bt304.1 bt304.2 true))) (fun k => ?_) (Ev.bind hp ?_)
    · rw [cubitlaw09_LexBack.l1, if_neg (by omega)]
    · refine Ev.congr (fun k => ?_) (j4_ev ha hl hz rfl)
      split <;> rfl
  | d + 1, j, hj => by
    have hlt : j < l.length := by omega
    have hs := szs_take l hlt
    have hle := szs_le l (j + 1)
    have b1 : 0 ≤ (l.length : Int) - 1 + (szs (l.take j) : Int) + ((l[j]'hlt).f1.size : Int) ∧ (l.length : Int) - 1 + (szs (l.take j) : Int) + ((l[j]'hlt).f1.size : Int) ≤ 10000000 := by omega
    have b2 : (l.length : Int) - 1 + (szs (l.take j) : Int) + ((l[j]'hlt).f1.size : Int) = (l.length : Int) - 1 + (szs (l.take (j + 1)) : Int) := by omega
    have e2 : wrap64 ((j : Int) + 1) = ((j + 1 : Nat) : Int) := w1 hlt (by omega)
    have e1 : wrap64 ((l.length : Int) - 1 + (szs (l.take j) : Int) + ((l[j]'hlt).f1.size : Int)) = (l.length : Int) - 1 + (szs (l.take (j + 1)) : Int) := (w64s b1).trans b2
    refine Ev.step (fun k => ?_) (l1_ev ha hl hz d (j + 1) (by omega))
    rw [cubitlaw09_LexBack.l1, if_pos (by omega), if_pos (by omega), rd_at l hlt, e1, e2]
theorem wm1 {n : Nat} (h : n ≤ 65536) : wrap64 ((n : Int) - 1) = (n : Int) - 1 := by
  unfold wrap64
  omega
theorem j2_ev (s : ByteArray) : Ev (fun k => cubitlaw09_LexBack.j2 k s) true := by
  refine Ev.step (f := fun k => (lex_Scan.f k s).bind fun bt298 => (if bt298.2.2 = 0 then (cubitlaw09_LexBack.l1 k bt298.1 (wrap64 ((bt298.1.length : Int) - 1)) 0) else (some true))) (fun k => by rw [cubitlaw09_LexBack.j2]) ?_
  have hs := scan_prog s
  have hlen := scanW_len s
  rcases scanW_cases s with ⟨r, h, hT, hsz⟩ | ⟨j, _, h⟩ | h
  · rw [h] at hs hlen
    obtain ⟨h1, h2⟩ := toks_right r 0 hT (Nat.zero_le _)
    refine Ev.bind hs ?_
    simp only [if_true]
    have := l1_ev (List.all_eq_true.mpr h1) hlen (by omega) r.length 0 (by omega)
    have e : (szs (r.take 0) : Int) = 0 := by simp [szs]
    rw [e, Int.add_zero] at this
    rw [wm1 hlen]
    exact this
  · rw [h] at hs
    refine Ev.bind hs ?_
    simp only [show ¬ (90 : Int) = 0 by decide, if_false]
    exact Ev.now _
  · rw [h] at hs
    refine Ev.bind hs ?_
    simp only [show ¬ (1 : Int) = 0 by decide, if_false]
    exact Ev.now _
theorem l0_ev (s : ByteArray) (l : List S31) (hl : l.length ≤ 2000000) : ∀ (d j : Nat), j + d = l.length → Ev (fun k => cubitlaw09_LexBack.l0 k s l (place l) (j : Int)) true
  | 0, j, hj => by
    refine Ev.step (fun k => ?_) (j2_ev s)
    rw [cubitlaw09_LexBack.l0, if_neg (by rw [place_len]; omega)]
  | d + 1, j, hj => by
    have hlt : j < l.length := by omega
    have hpl := place_len l
    have e2 : wrap64 ((j : Int) + 1) = ((j + 1 : Nat) : Int) := w1 hlt (by omega)
    obtain ⟨c, hc⟩ := place_at l j hlt
    have hrd : rd_T31 (place l) (j : Int) = ⟨(l[j]'hlt).f0, (l[j]'hlt).f1, c⟩ := by
      unfold rd_T31
      rw [Int.toNat_natCast, List.getD_eq_getElem?_getD, hc]
      rfl
    refine Ev.step (fun k => ?_) (l0_ev s l hl d (j + 1) (by omega))
    rw [cubitlaw09_LexBack.l0, if_pos (by omega), if_pos (by omega), if_pos (by omega), rd_at l hlt, hrd, if_pos rfl, if_pos rfl, e2]
theorem LexBack : cubitlaw09_LexBack.Pure := by
  intro s l hs hy hw hup
  rw [bulk_sum] at hup
  have hl : l.length ≤ 2000000 := by omega
  have hz : szs l ≤ 2000000 := by omega
  have hb : ∀ t ∈ l, t.f1.size ≤ 140737488351232 := fun t ht => (hw t ht).2.1
  clear hw hup hy
  refine Ev.rounds ?_
  unfold cubitlaw09_LexBack.f
  refine Ev.bind awake_ev ?_
  simp only [if_true]
  refine Ev.bind (prog_join l hl hz hb) ?_
  unfold joinR
  by_cases ha : l.all rightB = true
  · rw [if_pos ha]
    by_cases h : l.length - 1 + szs l > 65536
    · rw [if_pos h]
      simp only [show ¬ (1 : Int) = 0 by decide, if_false]
      exact j2_ev s
    · rw [if_neg h]
      simp only [if_true]
      have hsc := scan_prog (joinS l)
      rw [scan_joined ha (by omega)] at hsc
      refine Ev.bind hsc ?_
      simp only [if_true, place_len, bne_self_eq_false]
      refine Ev.step (fun k => by rw [cubitlaw09_LexBack.j0, if_neg (by decide)]) ?_
      exact l0_ev s l hl l.length 0 (by omega)
  · rw [if_neg ha]
    simp only [show ¬ (90 : Int) = 0 by decide, if_false]
    exact j2_ev s
end Go.Proofs.Ytkonklmgkkbnmaa.Pure
