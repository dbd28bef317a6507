/- Schemas of which one thing is not right, in plain words. No program in sight. -/
import Derived.Test.YtbhnbjaafejcjaaDoorSRead
set_option linter.unusedVariables false
namespace Go.Proofs.YtbhnbjaafejcjaaDoor
open Go.RowKit

theorem fldsC_set1 : ∀ (l : Fields) (i : Nat) (p : Int × Int) (a : Int), l[i]? = some p → (fldsC l).set (i * 2) (.int .i64 a) = fldsC (l.set i (a, p.2))
  | [], i, p, a, h => by simp at h
  | q :: l, 0, p, a, h => by
    obtain rfl : q = p := by simpa using h
    rfl
  | q :: l, i + 1, p, a, h => by
    have := fldsC_set1 l i p a (by simpa using h)
    rw [show (i + 1) * 2 = i * 2 + 1 + 1 by omega]
    simp only [fldsC, List.set_cons_succ, this]
theorem fldsC_set2 : ∀ (l : Fields) (i : Nat) (p : Int × Int) (b : Int), l[i]? = some p → (fldsC l).set (i * 2 + 1) (.int .i64 b) = fldsC (l.set i (p.1, b))
  | [], i, p, b, h => by simp at h
  | q :: l, 0, p, b, h => by
    obtain rfl : q = p := by simpa using h
    rfl
  | q :: l, i + 1, p, b, h => by
    have := fldsC_set2 l i p b (by simpa using h)
    rw [show (i + 1) * 2 + 1 = i * 2 + 1 + 1 + 1 by omega]
    simp only [fldsC, List.set_cons_succ, this]

theorem bad_row {s : Schema} {t : Nat} {x : Fields} (ht : t < s.length) (h : lOk s.length x = false) : rightB (s.set t x) = false := by
  unfold rightB
  rw [List.length_set]
  rw [all_false_of (s.set t x) (lOk s.length) t x (by rw [List.getElem?_set]; simp [ht]) h, Bool.and_false]
theorem bad_field {n : Nat} {l : Fields} {i : Nat} {q : Int × Int} (hi : i < l.length) (h : fOk n q = false) : lOk n (l.set i q) = false := by
  unfold lOk
  rw [all_false_of (l.set i q) (fOk n) i q (by rw [List.getElem?_set]; simp [hi]) h, Bool.and_false]
theorem bad_nil {n : Nat} : lOk n [] = false := rfl
theorem bad_long {n : Nat} {l : Fields} (h : 6 < l.length) : lOk n l = false := by
  unfold lOk
  rw [show decide (1 ≤ l.length ∧ l.length ≤ 6) = false from decide_eq_false (by omega), Bool.false_and]
theorem bad_many {s : Schema} (h : 8 < s.length) : rightB s = false := by
  unfold rightB
  rw [show decide (1 ≤ s.length ∧ s.length ≤ 8) = false from decide_eq_false (by omega), Bool.false_and]

/-- A schema of the call's own, its rows in blocks of their own. -/
structure OwnX (w : World) (B : Nat) (v : Value) (s : Schema) : Prop where
  ex : ∃ (vs : List Value) (G C : Nat → Nat), w.ownsRow B 28 1 v s.length vs ∧
    (∀ (j : Nat) (l : Fields), s[j]? = some l → vs[j]? = some (.slice (some ⟨G j, 0, none⟩) l.length (C j)) ∧ w.ownsRow B 30 2 (.slice (some ⟨G j, 0, none⟩) l.length (C j)) l.length (fldsC l)) ∧
    (∀ j1 j2, j1 < s.length → j2 < s.length → j1 ≠ j2 → G j1 ≠ G j2)

theorem OwnX.sch {w : World} {B : Nat} {v : Value} {s : Schema} (h : OwnX w B v s) : Sch w v s := by
  obtain ⟨vs, G, C, h1, h2, _⟩ := h.ex
  exact ⟨vs, Row.of_owns h1, fun i l hl => by obtain ⟨h3, h4⟩ := h2 i l hl; exact ⟨_, h3, Row.of_owns h4⟩⟩
theorem OwnX.keep {w w' : World} {B : Nat} {v : Value} {s : Schema} (h : OwnX w B v s) (hb : Below w.heap.size w w') : OwnX w' B v s := by
  obtain ⟨vs, G, C, h1, h2, h3⟩ := h.ex
  exact ⟨vs, G, C, own_beneath h1 hb, fun j l hl => ⟨(h2 j l hl).1, own_beneath (h2 j l hl).2 hb⟩, h3⟩

/-- A row, and a field of it. -/
theorem OwnX.at_ {w : World} {B : Nat} {v : Value} {s : Schema} (h : OwnX w B v s) {t : Nat} {l : Fields} (ht : s[t]? = some l) (h1 : 1 ≤ l.length) :
    ∃ gx cx g c, v = .slice (some ⟨gx, 0, none⟩) s.length cx ∧ B ≤ gx ∧ B ≤ g ∧ gx ≠ g ∧ s.length ≤ cx ∧ cx ≤ maxLen ∧ l.length ≤ c ∧ c ≤ maxLen ∧ w.cell? ⟨gx, t, none⟩ = some (.slice (some ⟨g, 0, none⟩) l.length c) ∧ w.frozen? ⟨gx, t, none⟩ = false ∧
      (∀ (i : Nat) (p : Int × Int), l[i]? = some p → w.cell? ⟨g, i * 2, none⟩ = some (.int .i64 p.1) ∧ w.cell? ⟨g, i * 2 + 1, none⟩ = some (.int .i64 p.2)) ∧ (∀ i, w.frozen? ⟨g, i, none⟩ = false) ∧
      (∀ (i : Nat) (p : Int × Int) (a : Int), l[i]? = some p → OwnX (w.setCell ⟨g, i * 2, none⟩ (.int .i64 a)) B v (s.set t (l.set i (a, p.2)))) ∧
      (∀ (i : Nat) (p : Int × Int) (a b : Int), l[i]? = some p → OwnX ((w.setCell ⟨g, i * 2, none⟩ (.int .i64 a)).setCell ⟨g, i * 2 + 1, none⟩ (.int .i64 b)) B v (s.set t (l.set i (a, b)))) := by
  have htl : t < s.length := (List.getElem?_eq_some_iff.1 ht).1
  obtain ⟨vs, G, C, h2, h3, h4⟩ := h.ex
  obtain ⟨gx, cx, rfl, hgx, hlx⟩ := h2.form (by omega)
  obtain ⟨h5, h6⟩ := h3 t l ht
  have hne : gx ≠ G t := blk_ne (own_blk h2 (g := gx) rfl).1 (own_blk h6 (g := G t) rfl).1 (by decide)
  have hcx : s.length ≤ cx ∧ cx ≤ maxLen := by
    rcases h2.2 with ⟨e, _⟩ | ⟨g', c', cur, e, _, _, a1, a2, _⟩
    · cases e
    · obtain ⟨_, _, rfl⟩ := Value.slice.inj e; exact ⟨a1, a2⟩
  have hc : l.length ≤ C t ∧ C t ≤ maxLen := by
    rcases h6.2 with ⟨e, _⟩ | ⟨g', c', cur, e, _, _, a1, a2, _⟩
    · cases e
    · obtain ⟨_, _, e3⟩ := Value.slice.inj e; rw [e3]; exact ⟨a1, a2⟩
  have hset : ∀ (o : Nat) (u : Value) (w1 : World) (l1 l2 : Fields), OwnX w1 B (.slice (some ⟨gx, 0, none⟩) s.length cx) (s.set t l1) → True := fun _ _ _ _ _ _ => trivial
  have step : ∀ (w1 : World) (l1 : Fields) (o : Nat) (u : Value) (l2 : Fields), l1.length = l.length → l2.length = l.length →
      (w1.ownsRow B 28 1 (.slice (some ⟨gx, 0, none⟩) s.length cx) s.length vs ∧ (∀ (j : Nat) (l : Fields), s[j]? = some l → j ≠ t → w1.ownsRow B 30 2 (.slice (some ⟨G j, 0, none⟩) l.length (C j)) l.length (fldsC l)) ∧ w1.ownsRow B 30 2 (.slice (some ⟨G t, 0, none⟩) l.length (C t)) l.length (fldsC l1)) → (fldsC l1).set o u = fldsC l2 →
      ((w1.setCell ⟨G t, o, none⟩ u).ownsRow B 28 1 (.slice (some ⟨gx, 0, none⟩) s.length cx) s.length vs ∧ (∀ (j : Nat) (l : Fields), s[j]? = some l → j ≠ t → (w1.setCell ⟨G t, o, none⟩ u).ownsRow B 30 2 (.slice (some ⟨G j, 0, none⟩) l.length (C j)) l.length (fldsC l)) ∧ (w1.setCell ⟨G t, o, none⟩ u).ownsRow B 30 2 (.slice (some ⟨G t, 0, none⟩) l.length (C t)) l.length (fldsC l2)) := by
    intro w1 l1 o u l2 e1 e2 ⟨k1, k2, k3⟩ he
    refine ⟨own_keep k1 (fun q hq => ?_), fun j l' hj hjt => own_keep (k2 j l' hj hjt) (fun q hq => ?_), ?_⟩
    · obtain rfl : gx = q := by simpa [Value.ownBlock] using hq
      exact Below.heap_setCell _ _ _ _ hne
    · obtain rfl : G j = q := by simpa [Value.ownBlock] using hq
      exact Below.heap_setCell _ _ _ _ (h4 j t (List.getElem?_eq_some_iff.1 hj).1 htl hjt)
    · have := own_set k3 o u
      rw [he] at this; exact this
  have fin : ∀ (w1 : World) (l2 : Fields), l2.length = l.length → (w1.ownsRow B 28 1 (.slice (some ⟨gx, 0, none⟩) s.length cx) s.length vs ∧ (∀ (j : Nat) (l : Fields), s[j]? = some l → j ≠ t → w1.ownsRow B 30 2 (.slice (some ⟨G j, 0, none⟩) l.length (C j)) l.length (fldsC l)) ∧ w1.ownsRow B 30 2 (.slice (some ⟨G t, 0, none⟩) l.length (C t)) l.length (fldsC l2)) →
      OwnX w1 B (.slice (some ⟨gx, 0, none⟩) s.length cx) (s.set t l2) := by
    intro w1 l2 e2 ⟨k1, k2, k3⟩
    refine ⟨vs, G, C, by rw [List.length_set]; exact k1, fun j l' hj => ?_, fun j1 j2 a1 a2 => h4 j1 j2 (by simpa using a1) (by simpa using a2)⟩
    by_cases hjt : j = t
    · subst hjt
      rw [List.getElem?_set] at hj
      simp [htl] at hj
      subst hj
      rw [e2]
      exact ⟨h5, k3⟩
    · rw [List.getElem?_set, if_neg (fun e => hjt e.symm)] at hj
      exact ⟨(h3 j l' hj).1, k2 j l' hj hjt⟩
  have base : w.ownsRow B 28 1 (.slice (some ⟨gx, 0, none⟩) s.length cx) s.length vs ∧ (∀ (j : Nat) (l : Fields), s[j]? = some l → j ≠ t → w.ownsRow B 30 2 (.slice (some ⟨G j, 0, none⟩) l.length (C j)) l.length (fldsC l)) ∧ w.ownsRow B 30 2 (.slice (some ⟨G t, 0, none⟩) l.length (C t)) l.length (fldsC l) :=
    ⟨h2, fun j l' hj _ => (h3 j l' hj).2, h6⟩
  refine ⟨gx, cx, G t, C t, rfl, hgx, (own_blk h6 (g := G t) rfl).2, hne, hcx.1, hcx.2, hc.1, hc.2, ?_, h2.frozenAt t, ?_, h6.frozenAt, ?_, ?_⟩
  · rw [h2.cellAt t (by omega)]; exact h5
  · intro i p hp
    have hi : i < l.length := (List.getElem?_eq_some_iff.1 hp).1
    obtain ⟨g1, g2⟩ := fldsC_get l i p hp
    exact ⟨by rw [h6.cellAt (i * 2) (by omega)]; exact g1, by rw [h6.cellAt (i * 2 + 1) (by omega)]; exact g2⟩
  · intro i p a hp
    exact fin _ _ (by simp) (step w l (i * 2) _ _ rfl (by simp) base (fldsC_set1 l i p a hp))
  · intro i p a b hp
    have k := step w l (i * 2) _ _ rfl (by simp) base (fldsC_set1 l i p a hp)
    have hi : i < l.length := (List.getElem?_eq_some_iff.1 hp).1
    have e := fldsC_set2 (l.set i (a, p.2)) i (a, p.2) b (by rw [List.getElem?_set]; simp [hi])
    rw [List.set_set] at e
    exact fin _ _ (by simp) (step _ (l.set i (a, p.2)) (i * 2 + 1) _ (l.set i (a, b)) (by simp) (by simp) k e)

/-- A row, and what becomes of the schema when it is stored anew. -/
theorem OwnX.row {w : World} {B : Nat} {v : Value} {s : Schema} (h : OwnX w B v s) {t : Nat} {l : Fields} (ht : s[t]? = some l) :
    ∃ gx cx g c, v = .slice (some ⟨gx, 0, none⟩) s.length cx ∧ B ≤ gx ∧ B ≤ g ∧ gx ≠ g ∧ s.length ≤ cx ∧ cx ≤ maxLen ∧ gx < w.heap.size ∧ g < w.heap.size ∧ w.ownsRow B 30 2 (.slice (some ⟨g, 0, none⟩) l.length c) l.length (fldsC l) ∧
      w.cell? ⟨gx, t, none⟩ = some (.slice (some ⟨g, 0, none⟩) l.length c) ∧ w.frozen? ⟨gx, t, none⟩ = false ∧
      Sch (w.setCell ⟨gx, t, none⟩ (.slice none 0 0)) v (s.set t []) ∧
      (∀ (w3 : World) (g3 c3 : Nat) (l3 : Fields), w.grownBy w3 (some g) → w3.ownsRow B 30 2 (.slice (some ⟨g3, 0, none⟩) l3.length c3) l3.length (fldsC l3) → (g = g3 ∨ w.heap.size ≤ g3) →
        OwnX (w3.setCell ⟨gx, t, none⟩ (.slice (some ⟨g3, 0, none⟩) l3.length c3)) B v (s.set t l3)) := by
  have htl : t < s.length := (List.getElem?_eq_some_iff.1 ht).1
  obtain ⟨vs, G, C, h2, h3, h4⟩ := h.ex
  obtain ⟨gx, cx, rfl, hgx, hlx⟩ := h2.form (by omega)
  obtain ⟨h5, h6⟩ := h3 t l ht
  have hvs : vs.length = s.length := by have := h2.1; simpa using this
  have hne : ∀ j l', s[j]? = some l' → gx ≠ G j := fun j l' hj => blk_ne (own_blk h2 (g := gx) rfl).1 (own_blk (h3 j l' hj).2 (g := G j) rfl).1 (by decide)
  have hcx : s.length ≤ cx ∧ cx ≤ maxLen := by
    rcases h2.2 with ⟨e, _⟩ | ⟨g', c', cur, e, _, _, a1, a2, _⟩
    · cases e
    · obtain ⟨_, _, rfl⟩ := Value.slice.inj e; exact ⟨a1, a2⟩
  have hset : ∀ (w3 : World) (x : Value), w.grownBy w3 (some (G t)) → (w3.setCell ⟨gx, t, none⟩ x).ownsRow B 28 1 (.slice (some ⟨gx, 0, none⟩) s.length cx) s.length (vs.set t x) ∧
      ∀ (j : Nat) (l' : Fields), s[j]? = some l' → j ≠ t → (w3.setCell ⟨gx, t, none⟩ x).ownsRow B 30 2 (.slice (some ⟨G j, 0, none⟩) l'.length (C j)) l'.length (fldsC l') := fun w3 x hg => by
    refine ⟨own_set (own_keep h2 (fun q hq => ?_)) t x, fun j l' hj hjt => own_keep (w := w3) (own_keep (w := w) (h3 j l' hj).2 (fun q hq => ?_)) (fun q hq => ?_)⟩
    · obtain rfl : gx = q := by simpa [Value.ownBlock] using hq
      exact hg.block gx (own_blk h2 (g := gx) rfl).1.lt (by simp; exact hne t l ht)
    · obtain rfl : G j = q := by simpa [Value.ownBlock] using hq
      exact hg.block (G j) (own_blk (h3 j l' hj).2 (g := G j) rfl).1.lt (by simp; exact h4 j t (List.getElem?_eq_some_iff.1 hj).1 htl hjt)
    · obtain rfl : G j = q := by simpa [Value.ownBlock] using hq
      exact Below.heap_setCell _ _ _ _ (fun e => hne j l' hj e.symm)
  refine ⟨gx, cx, G t, C t, rfl, hgx, (own_blk h6 (g := G t) rfl).2, hne t l ht, hcx.1, hcx.2, (own_blk h2 (g := gx) rfl).1.lt, (own_blk h6 (g := G t) rfl).1.lt, h6, ?_, h2.frozenAt t, ?_, ?_⟩
  · rw [h2.cellAt t (by omega)]; exact h5
  · obtain ⟨k1, k2⟩ := hset w (.slice none 0 0) (World.grownBy.refl w _)
    refine ⟨vs.set t (.slice none 0 0), by rw [List.length_set]; exact Row.of_owns k1, fun j l' hj => ?_⟩
    by_cases hjt : j = t
    · subst hjt
      rw [List.getElem?_set] at hj
      simp [htl] at hj
      subst hj
      exact ⟨_, by rw [List.getElem?_set]; simp [hvs, htl], Row.of_owns (own_nil _ B 30 2)⟩
    · rw [List.getElem?_set, if_neg (fun e => hjt e.symm)] at hj
      exact ⟨_, by rw [List.getElem?_set, if_neg (fun e => hjt e.symm)]; exact (h3 j l' hj).1, Row.of_owns (k2 j l' hj hjt)⟩
  · intro w3 g3 c3 l3 hg ho hgg
    obtain ⟨k1, k2⟩ := hset w3 (.slice (some ⟨g3, 0, none⟩) l3.length c3) hg
    have hlts : ∀ j l', s[j]? = some l' → G j < w.heap.size := fun j l' hj => (own_blk (h3 j l' hj).2 (g := G j) rfl).1.lt
    have hgx3 : gx ≠ g3 := by
      have h1 := hne t l ht
      have h2 := (own_blk h2 (g := gx) rfl).1.lt
      rcases hgg with e | e
      · rw [← e]; exact h1
      · omega
    have hfar : ∀ j l', s[j]? = some l' → j ≠ t → G j ≠ g3 := fun j l' hj hjt => by
      have h1 := h4 j t (List.getElem?_eq_some_iff.1 hj).1 htl hjt
      have h2 := hlts j l' hj
      rcases hgg with e | e
      · rw [← e]; exact h1
      · omega
    refine ⟨vs.set t (.slice (some ⟨g3, 0, none⟩) l3.length c3), fun j => if j = t then g3 else G j, fun j => if j = t then c3 else C j, by rw [List.length_set]; exact k1, fun j l' hj => ?_, fun j1 j2 a1 a2 hne12 => ?_⟩
    · by_cases hjt : j = t
      · subst hjt
        rw [List.getElem?_set] at hj
        simp [htl] at hj
        subst hj
        simp only [if_true]
        refine ⟨by rw [List.getElem?_set]; simp [hvs, htl], own_keep ho (fun q hq => ?_)⟩
        obtain rfl : g3 = q := by simpa [Value.ownBlock] using hq
        exact Below.heap_setCell _ _ _ _ (fun e => hgx3 e.symm)
      · rw [List.getElem?_set, if_neg (fun e => hjt e.symm)] at hj
        simp only [hjt, if_false]
        exact ⟨by rw [List.getElem?_set, if_neg (fun e => hjt e.symm)]; exact (h3 j l' hj).1, k2 j l' hj hjt⟩
    · rw [List.length_set] at a1 a2
      obtain ⟨l1, e1⟩ : ∃ l1, s[j1]? = some l1 := ⟨s[j1], List.getElem?_eq_getElem a1⟩
      obtain ⟨l2, e2⟩ : ∃ l2, s[j2]? = some l2 := ⟨s[j2], List.getElem?_eq_getElem a2⟩
      by_cases h1 : j1 = t <;> by_cases h2 : j2 = t
      · omega
      · simp only [h1, h2, if_true, if_false]; exact fun e => hfar j2 l2 e2 h2 e.symm
      · simp only [h1, h2, if_true, if_false]; exact hfar j1 l1 e1 h1
      · simp only [h1, h2, if_false]; exact h4 j1 j2 a1 a2 hne12

def lenAt (o : Option Value) : Nat := match o with | some (.slice _ n _) => n | _ => 0

/-- While one type grows. -/
structure GrowX (w : World) (B gx cx k t nb : Nat) (s : Schema) (l : Fields) (j : Nat) : Prop where
  own : OwnX w B (.slice (some ⟨gx, 0, none⟩) k cx) (s.set t (l ++ List.replicate (j - l.length) (1, 0)))
  far : ∃ g c, w.cell? ⟨gx, t, none⟩ = some (.slice (some ⟨g, 0, none⟩) j c) ∧ g ≠ nb
  num0 : w.cell? ⟨nb, 0, none⟩ = some (.int .i64 1)
  num1 : w.cell? ⟨nb, 1, none⟩ = some (.int .i64 0)
  lt : nb < w.heap.size
  ne : gx ≠ nb

theorem GrowX.step {w : World} {B gx cx k t nb : Nat} {s : Schema} {l : Fields} {j : Nat} (h : GrowX w B gx cx k t nb s l j) (hk : k = s.length) (ht : t < k) (hj : l.length ≤ j) :
    ∃ g c, w.cell? ⟨gx, t, none⟩ = some (.slice (some ⟨g, 0, none⟩) j c) ∧ gx ≠ g ∧ B ≤ g ∧ B ≤ gx ∧ w.frozen? ⟨gx, t, none⟩ = false ∧ k ≤ cx ∧
      w.ownsRow B 30 2 (.slice (some ⟨g, 0, none⟩) j c) j (fldsC (l ++ List.replicate (j - l.length) (1, 0))) ∧
      (∀ (w3 : World) (g3 c3 : Nat), w3.ownsRow B 30 2 (.slice (some ⟨g3, 0, none⟩) (j + 1) c3) (j + 1) (fldsC (l ++ List.replicate (j - l.length) (1, 0)) ++ [.int .i64 1, .int .i64 0]) → w.grownBy w3 (some g) → (g = g3 ∨ g3 = w.heap.size) →
        w3.frozen? ⟨gx, t, none⟩ = false ∧ w3.cell? ⟨gx, t, none⟩ = some (.slice (some ⟨g, 0, none⟩) j c) ∧ GrowX (w3.setCell ⟨gx, t, none⟩ (.slice (some ⟨g3, 0, none⟩) (j + 1) c3)) B gx cx k t nb s l (j + 1)) := by
  obtain ⟨hown, ⟨g0, c0, hc0, hfar⟩, hn0, hn1, hlt, hne⟩ := h
  have hrow : (s.set t (l ++ List.replicate (j - l.length) (1, 0)))[t]? = some (l ++ List.replicate (j - l.length) (1, 0)) := by rw [List.getElem?_set]; simp [← hk, ht]
  obtain ⟨gx', cx', g, c, e, b1, b2, b3, b4, _, b5, b6, b7, b8, b9, _, b10⟩ := hown.row hrow
  obtain ⟨e1, _, e3⟩ := Value.slice.inj e
  obtain ⟨rfl, _⟩ := Addr.mk.inj (Option.some.inj e1)
  subst e3
  have hlen : (l ++ List.replicate (j - l.length) (1, 0)).length = j := by simp; omega
  rw [hlen] at b7 b8
  have e4 := hc0.symm.trans b8
  obtain ⟨e5, _, e6⟩ := Value.slice.inj (Option.some.inj e4)
  obtain ⟨rfl, _⟩ := Addr.mk.inj (Option.some.inj e5)
  subst e6
  rw [List.length_set, ← hk] at b4
  refine ⟨g0, c0, hc0, b3, b2, b1, b9, b4, b7, fun w3 g3 c3 ho hg hgg => ?_⟩
  have hbx := hg.block gx b5 (by simp; exact b3)
  have hbn := hg.block nb hlt (by simp; exact fun e => hfar e.symm)
  refine ⟨by rw [World.frozen?_of_block (a := ⟨gx, t, none⟩) hbx]; exact b9, by rw [World.cell?_of_block (a := ⟨gx, t, none⟩) hbx, hc0], ?_⟩
  have hl3 : l ++ List.replicate (j + 1 - l.length) (1, 0) = (l ++ List.replicate (j - l.length) (1, 0)) ++ [((1 : Int), (0 : Int))] := by
    rw [show j + 1 - l.length = j - l.length + 1 by omega, List.replicate_succ', List.append_assoc]
  have hlen3 : (l ++ List.replicate (j + 1 - l.length) (1, 0)).length = j + 1 := by simp; omega
  have hX := b10 w3 g3 c3 (l ++ List.replicate (j + 1 - l.length) (1, 0)) hg (by rw [hlen3, hl3, fldsC_append]; exact ho) (by rcases hgg with e | e; exact .inl e; exact .inr (by omega))
  rw [hlen3, List.set_set] at hX
  have hg3 : g3 ≠ nb := by rcases hgg with e | e; exact e ▸ hfar; omega
  have hkeep : ∀ o, (w3.setCell ⟨gx, t, none⟩ (.slice (some ⟨g3, 0, none⟩) (j + 1) c3)).cell? ⟨nb, o, none⟩ = w.cell? ⟨nb, o, none⟩ := fun o => by
    rw [World.cell?_of_block (w := w3) (a := ⟨nb, o, none⟩) (Below.heap_setCell _ _ _ _ hne.symm), World.cell?_of_block (w := w) (a := ⟨nb, o, none⟩) hbn]
  refine ⟨hX, ⟨g3, c3, ?_, hg3⟩, by rw [hkeep]; exact hn0, by rw [hkeep]; exact hn1, ?_, hne⟩
  · have hc3 : w3.cell? ⟨gx, t, none⟩ = some (.slice (some ⟨g0, 0, none⟩) j c0) := by rw [World.cell?_of_block (a := ⟨gx, t, none⟩) hbx]; exact hc0
    exact World.cell?_setCell_same w3 _ _ hc3
  · have := hg.size
    exact Nat.lt_of_lt_of_le hlt (by simpa [World.setCell] using this)

/-- While types are added. -/
structure ManyX (w : World) (B nb : Nat) (v : Value) (s : Schema) (j : Nat) : Prop where
  ex : ∃ vs : List Value, w.ownsRow B 28 1 v j vs ∧ (∀ (i : Nat) (l : Fields), (s ++ List.replicate (j - s.length) [(1, 0)])[i]? = some l → ∃ g c, vs[i]? = some (.slice (some ⟨g, 0, none⟩) l.length c) ∧ w.ownsRow B 30 2 (.slice (some ⟨g, 0, none⟩) l.length c) l.length (fldsC l))
  num : w.ownsRow B 30 2 (.slice (some ⟨nb, 0, none⟩) 1 1) 1 (fldsC [(1, 0)])
theorem ManyX.sch {w : World} {B nb : Nat} {v : Value} {s : Schema} {j : Nat} (h : ManyX w B nb v s j) (hj : s.length ≤ j) : Sch w v (s ++ List.replicate (j - s.length) [(1, 0)]) := by
  obtain ⟨vs, h1, h2⟩ := h.ex
  have hlen : (s ++ List.replicate (j - s.length) [((1 : Int), (0 : Int))]).length = j := by simp; omega
  exact ⟨vs, by rw [hlen]; exact Row.of_owns h1, fun i l hl => by obtain ⟨g, c, h3, h4⟩ := h2 i l hl; exact ⟨_, h3, Row.of_owns h4⟩⟩
theorem ManyX.start {w : World} {B nb : Nat} {v : Value} {s : Schema} (h : OwnX w B v s) (hn : w.ownsRow B 30 2 (.slice (some ⟨nb, 0, none⟩) 1 1) 1 (fldsC [(1, 0)])) : ManyX w B nb v s s.length := by
  obtain ⟨vs, G, C, h1, h2, _⟩ := h.ex
  exact ⟨⟨vs, h1, fun i l hl => by rw [Nat.sub_self] at hl; simp at hl; obtain ⟨h3, h4⟩ := h2 i l hl; exact ⟨_, _, h3, h4⟩⟩, hn⟩
theorem num_owns (w : World) (B : Nat) (hB : B ≤ w.heap.size) : (w.alloc (.cells #[.int .i64 1, .int .i64 0] 30)).ownsRow B 30 2 (.slice (some ⟨w.heap.size, 0, none⟩) 1 1) 1 (fldsC [(1, 0)]) :=
  ⟨rfl, .inr ⟨w.heap.size, 1, #[.int .i64 1, .int .i64 0], rfl, hB, heap_alloc_new w _, Nat.le_refl _, by simp [maxLen], rfl, rfl⟩⟩
theorem ManyX.step {w : World} {B nb : Nat} {v : Value} {s : Schema} {j : Nat} (h : ManyX w B nb v s j) (hj : s.length ≤ j) :
    ∃ vs : List Value, w.ownsRow B 28 1 v j vs ∧ ∀ (wa w6 : World) (v6 : Value), Below w.heap.size w wa →
    w6.ownsRow B 28 1 v6 (j + 1) (vs ++ [.slice (some ⟨nb, 0, none⟩) 1 1]) → wa.grownBy w6 v.ownBlock → ManyX w6 B nb v6 s (j + 1) := by
  obtain ⟨⟨vs, h1, h2⟩, hn⟩ := h
  refine ⟨vs, h1, fun wa w6 v6 hb ho hg => ?_⟩
  have h1' := own_beneath h1 hb
  have hvs : vs.length = j := by have := h1.1; simpa using this
  have hlen : (s ++ List.replicate (j - s.length) [((1 : Int), (0 : Int))]).length = j := by simp; omega
  have hsplit : s ++ List.replicate (j + 1 - s.length) [((1 : Int), (0 : Int))] = (s ++ List.replicate (j - s.length) [((1 : Int), (0 : Int))]) ++ [[((1 : Int), (0 : Int))]] := by
    rw [show j + 1 - s.length = j - s.length + 1 by omega, List.replicate_succ', List.append_assoc]
  have hn' := own_row (own_beneath hn hb) h1' hg (by decide)
  refine ⟨⟨_, ho, fun i l hl => ?_⟩, hn'⟩
  rw [hsplit] at hl
  by_cases hi : i < j
  · rw [List.getElem?_append_left (by omega)] at hl
    obtain ⟨g, c, h3, h4⟩ := h2 i l hl
    exact ⟨g, c, by rw [List.getElem?_append_left (by omega)]; exact h3, own_row (own_beneath h4 hb) h1' hg (by decide)⟩
  · have hij : i = j := by
      have := (List.getElem?_eq_some_iff.1 hl).1
      simp at this; omega
    subst hij
    rw [List.getElem?_append_right (by omega), hlen, Nat.sub_self] at hl
    obtain rfl : [((1 : Int), (0 : Int))] = l := by simpa using hl
    exact ⟨nb, 1, by rw [List.getElem?_append_right (by omega), hvs, Nat.sub_self]; rfl, hn'⟩
end Go.Proofs.YtbhnbjaafejcjaaDoor

