/- tree.has; the document's only. -/
import Derived.Test.YtblbhlgihlgncaaDoorGd
import Derived.Deep.QuietTactic
import Derived.BigQuiet
import Derived.Test.YtblbhlgihlgncaaDoorGc
import Derived.Deep.RegionHeld3
import Derived.IntWalk
set_option linter.unusedVariables false
set_option linter.unusedSimpArgs false
namespace Go.Proofs.YtblbhlgihlgncaaDoor
section STrHas
open Go.RowKit

theorem fin_drawn {w : World} (o : Obj) (n : Nat) : Below w.heap.size w ((w.alloc o).drewN n) := (below_alloc w o).trans (below_drewN _ _ _)

set_option maxHeartbeats 4000000 in
theorem has_any (kind : Int) (x : BitVec 64) (s : ByteArray) (a2 a3 : Option Addr) (nn nk p2 p3 : Nat) (w : World) (hb : s.size ≤ 1000) (hn : nn ≤ 1000) (hk : nk ≤ 1000) :
    Calls Tryd.prog 60 #[.int .i64 kind, .agg #[U x, .string s, .slice a2 nn p2, .slice a3 nk p3]] w fun r w' => r = .returned (.bool (hasV kind x s.size nn nk)) ∧ Below w.heap.size w w' := by
  by_cases hkd : 1 ≤ kind ∧ kind ≤ 5
  · have h5 : kind = 1 ∨ kind = 2 ∨ kind = 3 ∨ kind = 4 ∨ kind = 5 := by omega
    clear hkd
    rcases h5 with rfl | rfl | rfl | rfl | rfl
    · have Hr := hid (show ((((s.size : Int) + nn) + nk == 0) = hasV 1 x s.size nn nk) by
        rw [hasV, if_pos rfl, Bool.eq_iff_iff, beq_iff_eq, decide_eq_true_eq]; omega)
      go_enter Tryd.func60, Tryd.ntmps60
      go_wp2_with fail
      go_quiet (fail)
      go_wp2_with fail
      go_ret
      exact ⟨by rw [← Hr.out]; rfl, fin_drawn _ _⟩
    · by_cases hx : x = 0#64
      · have h1 : (x == 0#64) = true := by simpa using hx
        by_cases hs : nn = 0 ∧ nk = 0
        · have h2 : ((nn : Int) + nk == 0) = true := by rw [beq_iff_eq]; omega
          have Hr := hid (show decide ((s.size : Int) ≤ 40) = hasV 2 x s.size nn nk by
            simp only [hasV]
            rw [Bool.eq_iff_iff]; simp [hx, hs]; try omega)
          clear hx hs
          go_enter Tryd.func60, Tryd.ntmps60
          go_wp2_with fail
          go_quiet (fail)
          go_wp2_with fail
          go_ret
          first | exact ⟨by rw [Hr.out]; rfl, fin_drawn _ _⟩ | exact ⟨by rw [← Hr.out]; rfl, fin_drawn _ _⟩ | exact ⟨by rw [← Hr.out]; simp <;> omega, fin_drawn _ _⟩
        · have h2 : ((nn : Int) + nk == 0) = false := by rw [beq_eq_false_iff_ne]; omega
          have Hr := hid (show hasV 2 x s.size nn nk = false by
            generalize s.size = nb at *
            simp [hasV, hx]; omega)
          clear hx hs
          go_enter Tryd.func60, Tryd.ntmps60
          go_wp2_with fail
          go_quiet (fail)
          go_wp2_with fail
          go_ret
          first | exact ⟨by rw [Hr.out]; rfl, fin_drawn _ _⟩ | exact ⟨by rw [← Hr.out]; rfl, fin_drawn _ _⟩ | exact ⟨by rw [← Hr.out]; simp <;> omega, fin_drawn _ _⟩
      · have h1 : (x == 0#64) = false := by simpa using hx
        have Hr := hid (show hasV 2 x s.size nn nk = false by simp [hasV, hx])
        clear hx
        go_enter Tryd.func60, Tryd.ntmps60
        go_wp2_with fail
        go_quiet (fail)
        go_wp2_with fail
        go_ret
        first | exact ⟨by rw [Hr.out]; rfl, fin_drawn _ _⟩ | exact ⟨by rw [← Hr.out]; rfl, fin_drawn _ _⟩ | exact ⟨by rw [← Hr.out]; simp <;> omega, fin_drawn _ _⟩
    · by_cases hx : x = 0#64
      · have h1 : (x == 0#64) = true := by simpa using hx
        by_cases hs : s.size = 0 ∧ nk = 0
        · have h2 : ((s.size : Int) + nk == 0) = true := by rw [beq_iff_eq]; omega
          have Hr := hid (show decide ((nn : Int) ≤ 12) = hasV 3 x s.size nn nk by
            simp only [hasV]
            rw [Bool.eq_iff_iff]; simp [hx, hs]; try omega)
          clear hx hs
          go_enter Tryd.func60, Tryd.ntmps60
          go_wp2_with fail
          go_quiet (fail)
          go_wp2_with fail
          go_ret
          first | exact ⟨by rw [Hr.out]; rfl, fin_drawn _ _⟩ | exact ⟨by rw [← Hr.out]; rfl, fin_drawn _ _⟩ | exact ⟨by rw [← Hr.out]; simp <;> omega, fin_drawn _ _⟩
        · have h2 : ((s.size : Int) + nk == 0) = false := by rw [beq_eq_false_iff_ne]; omega
          have Hr := hid (show hasV 3 x s.size nn nk = false by
            generalize s.size = nb at *
            simp [hasV, hx]; omega)
          clear hx hs
          go_enter Tryd.func60, Tryd.ntmps60
          go_wp2_with fail
          go_quiet (fail)
          go_wp2_with fail
          go_ret
          first | exact ⟨by rw [Hr.out]; rfl, fin_drawn _ _⟩ | exact ⟨by rw [← Hr.out]; rfl, fin_drawn _ _⟩ | exact ⟨by rw [← Hr.out]; simp <;> omega, fin_drawn _ _⟩
      · have h1 : (x == 0#64) = false := by simpa using hx
        have Hr := hid (show hasV 3 x s.size nn nk = false by simp [hasV, hx])
        clear hx
        go_enter Tryd.func60, Tryd.ntmps60
        go_wp2_with fail
        go_quiet (fail)
        go_wp2_with fail
        go_ret
        first | exact ⟨by rw [Hr.out]; rfl, fin_drawn _ _⟩ | exact ⟨by rw [← Hr.out]; rfl, fin_drawn _ _⟩ | exact ⟨by rw [← Hr.out]; simp <;> omega, fin_drawn _ _⟩
    · by_cases hk1 : 1 < nk
      · have Hr := hid (show hasV 4 x s.size nn nk = false by simp [hasV]; omega)
        go_enter Tryd.func60, Tryd.ntmps60
        go_wp2_with fail
        go_quiet (fail)
        go_wp2_with fail
        go_ret
        first | exact ⟨by rw [Hr.out]; rfl, fin_drawn _ _⟩ | exact ⟨by rw [← Hr.out]; rfl, fin_drawn _ _⟩ | exact ⟨by rw [← Hr.out]; simp <;> omega, fin_drawn _ _⟩
      · have hk12 : nk ≤ 12 := by omega
        by_cases hx : x = 0#64
        · have h1 : (x == 0#64) = true := by simpa using hx
          by_cases hs : s.size = 0 ∧ nn = 0
          · have h2 : ((s.size : Int) + nn == 0) = true := by rw [beq_iff_eq]; omega
            have Hr := hid (show decide ((nk : Int) ≤ 12) = hasV 4 x s.size nn nk by
              simp only [hasV]
              rw [Bool.eq_iff_iff]; simp [hx, hs]; try omega)
            clear hx hs
            go_enter Tryd.func60, Tryd.ntmps60
            go_wp2_with fail
            go_quiet (fail)
            go_wp2_with fail
            go_ret
            first | exact ⟨by rw [Hr.out]; rfl, fin_drawn _ _⟩ | exact ⟨by rw [← Hr.out]; rfl, fin_drawn _ _⟩ | exact ⟨by rw [← Hr.out]; simp <;> omega, fin_drawn _ _⟩
          · have h2 : ((s.size : Int) + nn == 0) = false := by rw [beq_eq_false_iff_ne]; omega
            have Hr := hid (show hasV 4 x s.size nn nk = false by
              generalize s.size = nb at *
              simp [hasV, hx]; omega)
            clear hx hs
            go_enter Tryd.func60, Tryd.ntmps60
            go_wp2_with fail
            go_quiet (fail)
            go_wp2_with fail
            go_ret
            first | exact ⟨by rw [Hr.out]; rfl, fin_drawn _ _⟩ | exact ⟨by rw [← Hr.out]; rfl, fin_drawn _ _⟩ | exact ⟨by rw [← Hr.out]; simp <;> omega, fin_drawn _ _⟩
        · have h1 : (x == 0#64) = false := by simpa using hx
          have Hr := hid (show hasV 4 x s.size nn nk = false by simp [hasV, hx])
          clear hx
          go_enter Tryd.func60, Tryd.ntmps60
          go_wp2_with fail
          go_quiet (fail)
          go_wp2_with fail
          go_ret
          first | exact ⟨by rw [Hr.out]; rfl, fin_drawn _ _⟩ | exact ⟨by rw [← Hr.out]; rfl, fin_drawn _ _⟩ | exact ⟨by rw [← Hr.out]; simp <;> omega, fin_drawn _ _⟩
    · by_cases hx : x = 0#64
      · have h1 : (x == 0#64) = true := by simpa using hx
        by_cases hs : s.size = 0 ∧ nn = 0
        · have h2 : ((s.size : Int) + nn == 0) = true := by rw [beq_iff_eq]; omega
          have Hr := hid (show decide ((nk : Int) ≤ 12) = hasV 5 x s.size nn nk by
            simp only [hasV]
            rw [Bool.eq_iff_iff]; simp [hx, hs]; try omega)
          clear hx hs
          go_enter Tryd.func60, Tryd.ntmps60
          go_wp2_with fail
          go_quiet (fail)
          go_wp2_with fail
          go_ret
          first | exact ⟨by rw [Hr.out]; rfl, fin_drawn _ _⟩ | exact ⟨by rw [← Hr.out]; rfl, fin_drawn _ _⟩ | exact ⟨by rw [← Hr.out]; simp <;> omega, fin_drawn _ _⟩
        · have h2 : ((s.size : Int) + nn == 0) = false := by rw [beq_eq_false_iff_ne]; omega
          have Hr := hid (show hasV 5 x s.size nn nk = false by
            generalize s.size = nb at *
            simp [hasV, hx]; omega)
          clear hx hs
          go_enter Tryd.func60, Tryd.ntmps60
          go_wp2_with fail
          go_quiet (fail)
          go_wp2_with fail
          go_ret
          first | exact ⟨by rw [Hr.out]; rfl, fin_drawn _ _⟩ | exact ⟨by rw [← Hr.out]; rfl, fin_drawn _ _⟩ | exact ⟨by rw [← Hr.out]; simp <;> omega, fin_drawn _ _⟩
      · have h1 : (x == 0#64) = false := by simpa using hx
        have Hr := hid (show hasV 5 x s.size nn nk = false by simp [hasV, hx])
        clear hx
        go_enter Tryd.func60, Tryd.ntmps60
        go_wp2_with fail
        go_quiet (fail)
        go_wp2_with fail
        go_ret
        first | exact ⟨by rw [Hr.out]; rfl, fin_drawn _ _⟩ | exact ⟨by rw [← Hr.out]; rfl, fin_drawn _ _⟩ | exact ⟨by rw [← Hr.out]; simp <;> omega, fin_drawn _ _⟩
  · have Hr := hid (show hasV kind x s.size nn nk = false by
      rw [hasV, if_neg (by omega), if_neg (by omega), if_neg (by omega), if_neg (by omega), if_neg (by omega)])
    have h1 : (kind == 1) = false := by simp; omega
    have h2 : (kind == 2) = false := by simp; omega
    have h3 : (kind == 3) = false := by simp; omega
    have h4 : (kind == 4) = false := by simp; omega
    have h5 : (kind == 5) = false := by simp; omega
    clear hkd
    go_enter Tryd.func60, Tryd.ntmps60
    go_wp2_with fail
    go_quiet (fail)
    go_wp2_with fail
    go_ret
    first | exact ⟨by rw [Hr.out]; rfl, fin_drawn _ _⟩ | exact ⟨by rw [← Hr.out]; rfl, fin_drawn _ _⟩ | exact ⟨by rw [← Hr.out]; simp <;> omega, fin_drawn _ _⟩
end STrHas

section STrLook
open Go.RowKit

theorem held4 {w W W' : World} {D : Nat} {v0 v1 v2 v3 : Value} (h : W.cell? ⟨D, 0, none⟩ = some v0 ∧ W.cell? ⟨D, 1, none⟩ = some v1 ∧ W.cell? ⟨D, 2, none⟩ = some v2 ∧ W.cell? ⟨D, 3, none⟩ = some v3 ∧ D < W.heap.size ∧ Below w.heap.size w W) (hb : Below W.heap.size W W') :
    W'.cell? ⟨D, 0, none⟩ = some v0 ∧ W'.cell? ⟨D, 1, none⟩ = some v1 ∧ W'.cell? ⟨D, 2, none⟩ = some v2 ∧ W'.cell? ⟨D, 3, none⟩ = some v3 ∧ D < W'.heap.size ∧ Below w.heap.size w W' := by
  obtain ⟨h0, h1, h2, h3, h5, h6⟩ := h
  exact ⟨(hb.cell h5).trans h0, (hb.cell h5).trans h1, (hb.cell h5).trans h2, (hb.cell h5).trans h3, Nat.lt_of_lt_of_le h5 hb.size, h6.trans (hb.mono h6.size)⟩
theorem held4_end {w W : World} {D : Nat} {v0 v1 v2 v3 : Value} (h : W.cell? ⟨D, 0, none⟩ = some v0 ∧ W.cell? ⟨D, 1, none⟩ = some v1 ∧ W.cell? ⟨D, 2, none⟩ = some v2 ∧ W.cell? ⟨D, 3, none⟩ = some v3 ∧ D < W.heap.size ∧ Below w.heap.size w W) : Below w.heap.size w W := h.2.2.2.2.2

theorem bytes_nil {b : ByteArray} (h : b.size = 0) : b.toList = [] := by
  rw [ByteArray.toList_eq]; exact List.eq_nil_of_length_eq_zero (by simpa using h)
theorem bytes_ne {b : ByteArray} (h : ¬ b.size = 0) : (!b.toList.isEmpty) = true := by
  rw [ByteArray.toList_eq]
  cases hb : b.data.toList with
  | nil => exact absurd (by have := congrArg List.length hb; simpa using this) h
  | cons => rfl

set_option maxHeartbeats 4000000 in
theorem look_any (s : Schema) (sv : Value) (d : Nat) : ∀ (left : Nat) (hl : left ≤ 5) (t : Int) (v : St d) (cs : List Value) (w : World), Sch w sv s → RdS d w cs v →
    Calls Tryd.prog 31 #[sv, .int .i64 t, .agg cs.toArray, .int .i64 left] w fun r w' => r = .returned (.int .i64 (codeT s d left t v)) ∧ Below w.heap.size w w' := by
  induction d with
  | zero => exact fun _ _ _ v _ _ _ _ => nomatch v
  | succ d ihd =>
    intro left hl t v cs w hs h
    have ih := hid ihd
    clear ihd
    obtain ⟨a2, p2, a, cap, rfl, hbs, hn, hk, hnm, hkm⟩ := RdN.open h
    clear h hn
    obtain ⟨N, hN⟩ : ∃ N, N = (Node.kids v).length := ⟨_, rfl⟩
    obtain ⟨Q, hQ⟩ : ∃ Q, Q = (Node.nums v).length := ⟨_, rfl⟩
    rw [← hN] at hk hkm ⊢
    rw [← hQ] at hnm ⊢
    have HN := hid hN
    have HQ := hid hQ
    clear hN hQ
    by_cases hl0 : left = 0
    · subst hl0
      rw [show codeT s (d + 1) 0 t v = 16 from rfl]
      go_enter Tryd.func31, Tryd.ntmps31
      go_wp2_with fail
      go_step3
      go_wp2_with fail
      (try rw [Exit.noGoto_ret])
      go_ret
      exact ⟨rfl, by go_grown⟩
    · have hl1 : 1 ≤ left := by omega
      have hl2 : ((left : Int) == 0) = false := by simp; omega
      obtain ⟨w1, hw1, hb1, hlt1, hbox⟩ := boxed w #[U (Node.num v), .string (Node.bytes v), .slice a2 Q p2, .slice a N cap] 32
      have x0 : w1.cell? ⟨w.heap.size, 0, none⟩ = some (U (Node.num v)) := hbox 0
      have x1 : w1.cell? ⟨w.heap.size, 1, none⟩ = some (.string (Node.bytes v)) := hbox 1
      have x2 : w1.cell? ⟨w.heap.size, 2, none⟩ = some (.slice a2 Q p2) := hbox 2
      have x3 : w1.cell? ⟨w.heap.size, 3, none⟩ = some (.slice a N cap) := hbox 3
      have hk1 := hk.below (kept_N (kept_S d)) hb1 (Nat.le_refl _)
      have hs1 := hs.below hb1 (Nat.le_refl _)
      have hf := fun n => nfields_any s sv t (w1.drewN n) hs1.drewN
      clear hbox hk hs
      by_cases hx : Node.num v = 0#64
      · have hxx : (Node.num v != 0#64) = false := by simpa using hx
        by_cases hb : (Node.bytes v).size = 0
        · have hbb1 := bytes_nil hb
          have hbb2 : (!(Node.bytes v).toList.isEmpty) = false := by rw [hbb1]; rfl
          by_cases hq : Q = 0
          · by_cases hf0 : N = (typeL s t).length
            · have Hc := hid (show codeT s (d + 1) left t v = firstE (fun i k => if hasB (fieldP s t i).1 k then firstE (fun _ x => codeT s d (left - 1) (fieldP s t i).2 x) 0 k.kids else 24) 0 (Node.kids v) by
                rw [codeT, if_neg hl0, if_neg]
                rw [← HN.out, ← HQ.out]
                simp [hx, hb, hq, hf0])
              subst hq
              clear hb hx
              obtain ⟨f, hfd⟩ : ∃ f : Nat → Node (St d) → Int, f = fun (i : Nat) k => if hasB (fieldP s t i).1 k then firstE (fun _ x => codeT s d (left - 1) (fieldP s t i).2 x) 0 k.kids else 24 := ⟨_, rfl⟩
              rw [← hfd] at Hc
              have Hfy := hid (show ∀ (i : Nat) k, hasB (fieldP s t i).1 k = true → f i k = firstE (fun _ x => codeT s d (left - 1) (fieldP s t i).2 x) 0 k.kids from fun i k hh => by rw [hfd]; simp only [hh, if_true])
              have Hfn := hid (show ∀ (i : Nat) k, hasB (fieldP s t i).1 k = false → f i k = 24 from fun i k hh => by rw [hfd]; simp [hh])
              have hNf : ((N : Int) != ((typeL s t).length : Int)) = false := by simp [hf0]
              have Hk := hid (fun W (hW : Below w1.heap.size w1 W) (i : Int) => kind_any s sv t i W (hs1.below hW (Nat.le_refl _)))
              have Ht := hid (fun W (hW : Below w1.heap.size w1 W) (i : Int) => type_any s sv t i W (hs1.below hW (Nat.le_refl _)))
              have Hs := hid (fun W (hW : Below w1.heap.size w1 W) => hs1.below hW (Nat.le_refl _))
              clear hfd hf0 hl0 hs1
              generalize (typeL s t).length = nf at *
              go_enter Tryd.func31, Tryd.ntmps31
              go_wp2_with fail
              go_step3
              go_wp2_with fail
              clear hw1
              go_quiet ((go_at_call 38; exact Calls.quiet_of_same (hf _)))
              go_wp2_with fail
              go_step3
              go_wp2_with fail
              clear hf hNf hbb1 hbb2 hxx
              go_loopw [9, 44] (fun c i wr => ∃ k : Nat, k ≤ N ∧ i = .int .i64 k ∧ c = .int .i64 0 ∧ firstE f 0 ((Node.kids v).take k) = 0 ∧ Below w1.heap.size w1 wr) (fun _ i _ => N - (intOf i).toNat)
              case atStart => exact ⟨0, Nat.zero_le _, rfl, rfl, rfl, below_drewN _ _ _⟩
              case round =>
                obtain ⟨k, hkN, rfl, rfl, hz, hbl⟩ := hrel
                have Hz := hid hz
                clear hz
                by_cases hlt : k < N
                · obtain ⟨fk, hfk⟩ := get_lt (l := Node.kids v) (i := k) (by rw [← HN.out]; exact hlt)
                  obtain ⟨b, off, a4, p4, a5, p5, rfl, hbb, q0, q1, q2, q3, hfb, hfn, hfkk, _, hfnn, hfm⟩ := Kids.at_ (hk1.below (kept_N (kept_S d)) hbl (Nat.le_refl _)) hfk
                  obtain ⟨M, hM⟩ : ∃ M, M = fk.kids.length := ⟨_, rfl⟩
                  obtain ⟨R, hR⟩ : ∃ R, R = fk.nums.length := ⟨_, rfl⟩
                  rw [← hM] at hfkk hfm q3
                  rw [← hR] at hfnn q2
                  have HM := hid hM
                  have HR := hid hR
                  have Hfk := hid hfk
                  clear hM hR hfk hfn
                  obtain ⟨wk, hwk, hbk, hltk, hboxk⟩ := boxed wr #[U fk.num, .string fk.bytes, .slice a4 R p4, .slice a5 M p5] 32
                  have y0 : wk.cell? ⟨wr.heap.size, 0, none⟩ = some (U fk.num) := hboxk 0
                  have y1 : wk.cell? ⟨wr.heap.size, 1, none⟩ = some (.string fk.bytes) := hboxk 1
                  have y2 : wk.cell? ⟨wr.heap.size, 2, none⟩ = some (.slice a4 R p4) := hboxk 2
                  have y3 : wk.cell? ⟨wr.heap.size, 3, none⟩ = some (.slice a5 M p5) := hboxk 3
                  have hblk := hbl.trans (hbk.mono hbl.size)
                  have hfk3 := hfkk.below (kept_S d) hbk (Nat.le_refl _)
                  have hkind := fun W hW => Hk.out W hW k
                  have hhas := fun W => has_any (fieldP s t k).1 fk.num fk.bytes a4 a5 R M p4 p5 W hfb hfnn hfm
                  have Hb := hid (show hasV (fieldP s t k).1 fk.num fk.bytes.size R M = hasB (fieldP s t k).1 fk by rw [hasB, ← HM.out, ← HR.out])
                  generalize hvg : hasV (fieldP s t k).1 fk.num fk.bytes.size R M = hv at *
                  clear hvg hboxk hfkk hbb
                  generalize hkg : (fieldP s t k).1 = kd at *
                  have Hkd := hid hkg
                  clear hkg
                  cases hv
                  · go_wp2_with fail
                    go_region_held3 (fun W => W.cell? ⟨wr.heap.size, 0, none⟩ = some (U fk.num) ∧ W.cell? ⟨wr.heap.size, 1, none⟩ = some (.string fk.bytes) ∧ W.cell? ⟨wr.heap.size, 2, none⟩ = some (.slice a4 R p4) ∧ W.cell? ⟨wr.heap.size, 3, none⟩ = some (.slice a5 M p5) ∧ wr.heap.size < W.heap.size ∧ Below w1.heap.size w1 W)
                      (first | exact ⟨y0, y1, y2, y3, hltk, hblk.trans (below_drewN _ _ 1)⟩ | exact held4 (by assumption) hb3 | exact held4 (by assumption) hb4)
                      (first
                      | (go_at_call 34; (with_reducible refine (hkind _ (held4_end (by assumption))).mono ?_); rintro r wA ⟨rfl, hb3⟩)
                      | (go_at_call 60; (with_reducible refine (hhas _).mono ?_); rintro r wB ⟨rfl, hb4⟩))
                    have hfin := held4_end (w := w1) (W := wB) (by assumption)
                    have Hcode := hid (show codeT s (d + 1) left t v = 24 by
                      have hn := Hfn.out k fk (by rw [Hkd.out]; exact Hb.out.symm)
                      rw [Hc.out, firstE_hit f (Node.kids v) k fk Hfk.out Hz.out (by rw [hn]; decide), hn])
                    clear hkind hhas hbk y0 y1 y2 y3 hfk3
                    go_wp2_with fail
                    (try rw [Exit.noGoto_ret])
                    go_ret
                    exact ⟨by rw [Hcode.out]; rfl, hb1.trans (hfin.mono hb1.size)⟩
                  · go_wp2_with fail
                    go_region_held3 (fun W => W.cell? ⟨wr.heap.size, 0, none⟩ = some (U fk.num) ∧ W.cell? ⟨wr.heap.size, 1, none⟩ = some (.string fk.bytes) ∧ W.cell? ⟨wr.heap.size, 2, none⟩ = some (.slice a4 R p4) ∧ W.cell? ⟨wr.heap.size, 3, none⟩ = some (.slice a5 M p5) ∧ wr.heap.size < W.heap.size ∧ Below w1.heap.size w1 W)
                      (first | exact ⟨y0, y1, y2, y3, hltk, hblk.trans (below_drewN _ _ 1)⟩ | exact held4 (by assumption) hb3 | exact held4 (by assumption) hb4)
                      (first
                      | (go_at_call 34; (with_reducible refine (hkind _ (held4_end (by assumption))).mono ?_); rintro r wA ⟨rfl, hb3⟩)
                      | (go_at_call 60; (with_reducible refine (hhas _).mono ?_); rintro r wB ⟨rfl, hb4⟩))
                    have hfin := held4_end (w := w1) (W := wB) (by assumption)
                    have hltB : wr.heap.size < wB.heap.size := Nat.lt_of_lt_of_le (Nat.lt_of_lt_of_le hltk hb3.size) hb4.size
                    have z3 : wB.cell? ⟨wr.heap.size, 3, none⟩ = some (.slice a5 M p5) := (hb4.cell (p := ⟨wr.heap.size, 3, none⟩) (Nat.lt_of_lt_of_le hltk hb3.size)).trans ((hb3.cell (p := ⟨wr.heap.size, 3, none⟩) hltk).trans y3)
                    have hkB : Below wk.heap.size wk wB := (below_drewN _ wk 1).trans (hb3.trans (hb4.mono hb3.size))
                    have hfkB := hfk3.below (kept_S d) hkB (Nat.le_refl _)
                    have Hst := hid (show f k fk = firstE (fun _ x => codeT s d (left - 1) (fieldP s t k).2 x) 0 fk.kids from Hfy.out k fk (by rw [Hkd.out]; exact Hb.out.symm))
                    have Hty := hid (fun W (hW : Below w1.heap.size w1 W) => Ht.out W hW k)
                    clear hkind hhas hbk y0 y1 y2 y3 hfk3 hkB hb3 hb4 hwk hblk q0 q1 q2 q3
                    generalize (fieldP s t k).2 = ty at *
                    go_wp2_with fail
                    go_loopw [9, 59] (fun c i wr => ∃ j : Nat, j ≤ M ∧ i = .int .i64 j ∧ c = .int .i64 0 ∧ firstE (fun _ x => codeT s d (left - 1) ty x) 0 (fk.kids.take j) = 0 ∧ Below wB.heap.size wB wr) (fun _ i _ => M - (intOf i).toNat)
                    case atStart => exact ⟨0, Nat.zero_le _, rfl, rfl, rfl, Below.refl _ _⟩
                    case round =>
                      obtain ⟨j, hjM, rfl, rfl, hzj, hbj⟩ := hrel
                      have Hzj := hid hzj
                      clear hzj
                      by_cases hjl : j < M
                      · obtain ⟨x, hx⟩ := get_lt (l := fk.kids) (i := j) (by rw [← HM.out]; exact hjl)
                        obtain ⟨b2, off2, xn, xb, e2, m2, s2, e3, m3, s3, rfl, hbb2, q0, q1, q2, q3, hrx⟩ := Kids.atS (hfkB.below (kept_S d) hbj (Nat.le_refl _)) hx
                        obtain ⟨wi, hwi, hbi, hlti, hboxi⟩ := boxed wr #[U xn, .string xb, .slice e2 m2 s2, .slice e3 m3 s3] 32
                        have z0 : wi.cell? ⟨wr.heap.size, 0, none⟩ = some (U xn) := hboxi 0
                        have z1 : wi.cell? ⟨wr.heap.size, 1, none⟩ = some (.string xb) := hboxi 1
                        have z2 : wi.cell? ⟨wr.heap.size, 2, none⟩ = some (.slice e2 m2 s2) := hboxi 2
                        have z4 : wi.cell? ⟨wr.heap.size, 3, none⟩ = some (.slice e3 m3 s3) := hboxi 3
                        have hBi : Below wB.heap.size wB wi := hbj.trans (hbi.mono hbj.size)
                        have h1i : Below w1.heap.size w1 wi := hfin.trans (hBi.mono hfin.size)
                        have hty := fun W (hW : Below wi.heap.size wi W) => Hty.out W (h1i.trans (hW.mono h1i.size))
                        have hlook := fun W (hW : Below wi.heap.size wi W) => ih.out (left - 1) (by omega) ty x _ W (Hs.out W (h1i.trans (hW.mono h1i.size))) (hrx.below (hbi.trans (hW.mono hbi.size)) (Nat.le_refl _))
                        have hlw : IntKind.i64.wrap ((left : Int) - 1) = ((left - 1 : Nat) : Int) := (IntWalk.i64_in _ (by omega)).trans (by omega)
                        have Hst2 := hid (firstE_succ (fun _ x => codeT s d (left - 1) ty x) fk.kids j x hx Hzj.out)
                        have Hx := hid hx
                        have Hhit := hid (fun h => firstE_hit (fun _ x => codeT s d (left - 1) ty x) fk.kids j x hx Hzj.out h)
                        clear hrx hx hfkB z3 hboxi hk1
                        generalize hcg : codeT s d (left - 1) ty x = c at *
                        have Hcg := hid hcg
                        clear hcg
                        generalize hlg : left - 1 = left1 at *
                        clear hlg
                        by_cases hc0 : c = 0
                        · subst hc0
                          go_wp2_with fail
                          go_region_held3 (fun W => W.cell? ⟨wr.heap.size, 0, none⟩ = some (U xn) ∧ W.cell? ⟨wr.heap.size, 1, none⟩ = some (.string xb) ∧ W.cell? ⟨wr.heap.size, 2, none⟩ = some (.slice e2 m2 s2) ∧ W.cell? ⟨wr.heap.size, 3, none⟩ = some (.slice e3 m3 s3) ∧ wr.heap.size < W.heap.size ∧ Below wi.heap.size wi W)
                            (first | exact ⟨z0, z1, z2, z4, hlti, below_drewN _ _ 1⟩ | exact held4 (by assumption) hb5 | exact held4 (by assumption) hb6)
                            (first
                            | (go_at_call 35; (with_reducible refine (hty _ (held4_end (by assumption))).mono ?_); rintro r wC ⟨rfl, hb5⟩)
                            | (go_at_call 31; (with_reducible refine (hlook _ (held4_end (by assumption))).mono ?_); rintro r wD ⟨rfl, hb6⟩))
                          have hfin2 := hBi.trans ((held4_end (w := wi) (W := wD) (by assumption)).mono hBi.size)
                          clear hty hlook z0 z1 z2 z4 hwi
                          go_wp2_with fail
                          go_roundw
                          case rel => exact ⟨j + 1, by omega, by go_num, rfl, by rw [Hst2.out]; first | done | exact Hcg.out, hfin2⟩
                          case measure => simp [intOf] <;> omega
                        · have hcb : (c != 0) = true := by simpa using hc0
                          have Hcode := hid (show codeT s (d + 1) left t v = c by
                            have h2 := Hhit.out (by first | exact hc0 | (rw [Hcg.out]; exact hc0))
                            have h3 : f k fk = c := by rw [Hst.out, h2]; first | done | exact Hcg.out
                            rw [Hc.out, firstE_hit f (Node.kids v) k fk Hfk.out Hz.out (by rw [h3]; exact hc0), h3])
                          clear hc0
                          go_wp2_with fail
                          go_region_held3 (fun W => W.cell? ⟨wr.heap.size, 0, none⟩ = some (U xn) ∧ W.cell? ⟨wr.heap.size, 1, none⟩ = some (.string xb) ∧ W.cell? ⟨wr.heap.size, 2, none⟩ = some (.slice e2 m2 s2) ∧ W.cell? ⟨wr.heap.size, 3, none⟩ = some (.slice e3 m3 s3) ∧ wr.heap.size < W.heap.size ∧ Below wi.heap.size wi W)
                            (first | exact ⟨z0, z1, z2, z4, hlti, below_drewN _ _ 1⟩ | exact held4 (by assumption) hb5 | exact held4 (by assumption) hb6)
                            (first
                            | (go_at_call 35; (with_reducible refine (hty _ (held4_end (by assumption))).mono ?_); rintro r wC ⟨rfl, hb5⟩)
                            | (go_at_call 31; (with_reducible refine (hlook _ (held4_end (by assumption))).mono ?_); rintro r wD ⟨rfl, hb6⟩))
                          have hfin2 := hBi.trans ((held4_end (w := wi) (W := wD) (by assumption)).mono hBi.size)
                          clear hty hlook z0 z1 z2 z4 hwi
                          go_wp2_with fail
                          (try rw [Exit.noGoto_ret])
                          go_ret
                          exact ⟨by rw [Hcode.out]; rfl, (hb1.trans (hfin.mono hb1.size)).trans (hfin2.mono (Nat.le_trans hb1.size hfin.size))⟩
                      · obtain rfl : j = M := by omega
                        have Hst2 := hid (show firstE f 0 ((Node.kids v).take (k + 1)) = 0 by
                          rw [firstE_succ f _ k fk Hfk.out Hz.out, Hst.out, ← firstE_all _ fk.kids j (by rw [← HM.out]; exact Nat.le_refl _)]
                          exact Hzj.out)
                        clear hfkB z3 hk1
                        go_wp2_with fail
                        go_roundw
                        case rel => exact ⟨k + 1, by omega, by go_num, rfl, Hst2.out, hfin.trans (hbj.mono hfin.size)⟩
                        case measure => simp [intOf] <;> omega
                · obtain rfl : k = N := by omega
                  have Hcode := hid (show codeT s (d + 1) left t v = 0 by
                    rw [Hc.out, ← firstE_all f _ k (by rw [← HN.out]; exact Nat.le_refl _)]; exact Hz.out)
                  clear hk1
                  go_wp2_with fail
                  (try rw [Exit.noGoto_ret])
                  go_ret
                  exact ⟨by rw [Hcode.out]; rfl, hb1.trans (hbl.mono hb1.size)⟩
            · have hff : ((N : Int) != ((typeL s t).length : Int)) = true := by rw [bne_iff_ne]; omega
              have Hc := hid (show codeT s (d + 1) left t v = 24 by rw [codeT, if_neg hl0, if_pos (.inr (.inr (.inr (by rw [← HN.out]; exact hf0))))])
              clear hl0 hx hb hf0
              subst hq
              generalize (typeL s t).length = nf at *
              go_enter Tryd.func31, Tryd.ntmps31
              go_wp2_with fail
              go_step3
              go_wp2_with fail
              clear hw1
              go_quiet (((go_at_call 38; exact Calls.quiet_of_same (hf _))))
              go_wp2_with fail
              (try rw [Exit.noGoto_ret])
              go_ret
              exact ⟨by rw [Hc.out]; rfl, hb1.trans (below_drewN _ _ _)⟩
          · have hqq : 0 < Q := by omega
            have hqd : decide (0 < Q) = true := decide_eq_true hqq
            have Hc := hid (show codeT s (d + 1) left t v = 24 by rw [codeT, if_neg hl0, if_pos (.inr (.inr (.inl (by rw [← HQ.out]; exact hq))))])
            clear hl0 hx hb hq
            go_enter Tryd.func31, Tryd.ntmps31
            go_wp2_with fail
            go_step3
            go_wp2_with fail
            clear hw1
            go_quiet (fail)
            go_wp2_with fail
            (try rw [Exit.noGoto_ret])
            go_ret
            exact ⟨by rw [Hc.out]; rfl, hb1.trans (below_drewN _ _ _)⟩
        · have hbb2 := bytes_ne hb
          have Hc := hid (show codeT s (d + 1) left t v = 24 by rw [codeT, if_neg hl0, if_pos (.inr (.inl hb))])
          clear hl0 hx hb
          go_enter Tryd.func31, Tryd.ntmps31
          go_wp2_with fail
          go_step3
          go_wp2_with fail
          clear hw1
          go_quiet (fail)
          go_wp2_with fail
          (try rw [Exit.noGoto_ret])
          go_ret
          exact ⟨by rw [Hc.out]; rfl, hb1.trans (below_drewN _ _ _)⟩
      · have hxx : (Node.num v != 0#64) = true := by simpa using hx
        have Hc := hid (show codeT s (d + 1) left t v = 24 by rw [codeT, if_neg hl0, if_pos (.inl hx)])
        clear hl0 hx
        go_enter Tryd.func31, Tryd.ntmps31
        go_wp2_with fail
        go_step3
        go_wp2_with fail
        clear hw1
        go_quiet (fail)
        go_wp2_with fail
        (try rw [Exit.noGoto_ret])
        go_ret
        exact ⟨by rw [Hc.out]; rfl, hb1.trans (below_drewN _ _ _)⟩
end STrLook

section STrCheck
open Go.RowKit

theorem errV_ne {c : Int} (h : c ≠ 0) : ErrV c = .iface 37 (.int .i64 c) := if_neg h

theorem new_err (c : Int) (w : World) : Calls Tryd.prog 16 #[.int .i64 c] w fun r w' => r = .returned (ErrV c) ∧ w' = w := by
  by_cases h : c = 0
  · subst h
    go_enter Tryd.func16, Tryd.ntmps16
    go_wp2
    go_ret
    exact ⟨rfl, rfl⟩
  · rw [errV_ne h]
    exact new_any c h w

theorem top_err (c : Int) (w : World) (hl : LaidE w) : Calls Tryd.prog 7 #[ErrV c] w fun r w' => r = .returned (.int .i64 c) ∧ Below w.heap.size w w' := by
  by_cases h : c = 0
  · subst h; exact top_nil w
  · rw [errV_ne h]; exact top_code c w hl

set_option maxHeartbeats 2000000 in
theorem tcheck_any (s : Schema) (sv : Value) (d : Nat) (t : Int) (v : St d) (cs : List Value) (w : World) (hs : Sch w sv s) (h : RdS d w cs v) :
    Calls Tryd.prog 14 #[sv, .int .i64 t, .agg cs.toArray] w fun r w' => r = .returned (ErrV (checkC s d t v)) ∧ Below w.heap.size w w' := by
  cases d with
  | zero => exact nomatch v
  | succ d =>
    obtain ⟨a2, p2, a, cap, hcs, hbs, hn, hk, hnm, hkm⟩ := RdN.open h
    obtain ⟨sa, scap, hsv, _, _, hsm⟩ := hs.shape
    unfold maxLen at hsm
    subst hcs
    obtain ⟨w1, hw1, hb1, hlt1, hbox⟩ := boxed w #[U (Node.num v), .string (Node.bytes v), .slice a2 (Node.nums v).length p2, .slice a (Node.kids v).length cap] 32
    have x0 : w1.cell? ⟨w.heap.size, 0, none⟩ = some (U (Node.num v)) := hbox 0
    have x1 : w1.cell? ⟨w.heap.size, 1, none⟩ = some (.string (Node.bytes v)) := hbox 1
    have x2 : w1.cell? ⟨w.heap.size, 2, none⟩ = some (.slice a2 (Node.nums v).length p2) := hbox 2
    have x3 : w1.cell? ⟨w.heap.size, 3, none⟩ = some (.slice a (Node.kids v).length cap) := hbox 3
    have hs1 := hs.below hb1 (Nat.le_refl _)
    have h1 := h.below hb1 (Nat.le_refl _)
    have hck := check_any s sv w1 hs1
    have hlook := hid (fun W (hW : Below w1.heap.size w1 W) => look_any s sv (d + 1) 5 (by omega) t v _ W (hs1.below hW (Nat.le_refl _)) (h1.below hW (Nat.le_refl _)))
    obtain ⟨n, hn2⟩ : ∃ n, n = s.length := ⟨_, rfl⟩
    have Hn := hid hn2
    rw [← hn2] at hsm hsv
    subst hsv
    clear hs h hs1 h1 hk hn hn2 hbox hbs
    by_cases hr : rightB s = true
    · by_cases ht : 0 ≤ t ∧ t < n
      · have Hc := hid (show checkC s (d + 1) t v = codeT s (d + 1) 5 t v by rw [checkC, if_pos ⟨hr, ht.1, by rw [← Hn.out]; exact ht.2⟩])
        rw [hr, if_pos rfl, show ErrV 0 = .nilIface from rfl] at hck
        obtain ⟨ht0, ht1⟩ := ht
        clear hr
        have hnew := fun w => new_err (codeT s (d + 1) 5 t v) w
        generalize codeT s (d + 1) 5 t v = c at *
        go_enter Tryd.func14, Tryd.ntmps14
        go_wp2_with fail
        ((refine hck.mono ?_); rintro r1 w2 ⟨rfl, hb2⟩)
        replace x0 := (hb2.cell hlt1).trans x0
        replace x1 := (hb2.cell hlt1).trans x1
        replace x2 := (hb2.cell hlt1).trans x2
        replace x3 := (hb2.cell hlt1).trans x3
        clear hw1
        go_wp2_with fail
        ((refine (hlook.out _ hb2).mono ?_); rintro r2 w3 ⟨rfl, hb3⟩)
        go_wp2_with fail
        ((refine (hnew _).mono ?_); rintro r3 w4 ⟨rfl, rfl⟩)
        go_wp2
        go_ret
        exact ⟨by rw [Hc.out]; rfl, hb1.trans ((hb2.trans (hb3.mono hb2.size)).mono hb1.size)⟩
      · have Hc := hid (show checkC s (d + 1) t v = 1 by rw [checkC, if_neg (by rw [← Hn.out]; exact fun h => ht h.2)])
        rw [hr, if_pos rfl, show ErrV 0 = .nilIface from rfl] at hck
        have hnew := fun w => new_err 1 w
        clear hr
        rcases Int.lt_or_le t 0 with ht0 | ht0
        all_goals
          (try have ht1 : (n : Int) ≤ t := by omega)
          clear ht
          go_enter Tryd.func14, Tryd.ntmps14
          go_wp2_with fail
          ((refine hck.mono ?_); rintro r1 w2 ⟨rfl, hb2⟩)
          clear hw1
          go_wp2_with fail
          ((refine (hnew _).mono ?_); rintro r3 w4 ⟨rfl, rfl⟩)
          go_wp2
          go_ret
          exact ⟨by rw [Hc.out]; rfl, hb1.trans (hb2.mono hb1.size)⟩
    · have Hc := hid (show checkC s (d + 1) t v = 1 by rw [checkC, if_neg (fun h => hr h.1)])
      rw [if_neg hr, errV_ne (by decide)] at hck
      have hnew := fun w => new_err 1 w
      clear hr
      go_enter Tryd.func14, Tryd.ntmps14
      go_wp2_with fail
      ((refine hck.mono ?_); rintro r1 w2 ⟨rfl, hb2⟩)
      clear hw1
      go_wp2_with fail
      ((refine (hnew _).mono ?_); rintro r3 w4 ⟨rfl, rfl⟩)
      go_wp2
      go_ret
      exact ⟨by rw [Hc.out]; rfl, hb1.trans (hb2.mono hb1.size)⟩
end STrCheck

section SEx
open Go.RowKit

theorem row_new (w : World) (cs : Array Value) (T : TypeId) (sz n : Nat) (h : cs.size = n * sz) (hm : n ≤ maxLen) : Row (w.alloc (.cells cs T)) sz (.slice (some ⟨w.heap.size, 0, none⟩) n n) n cs.toList := by
  refine ⟨by simp [h], hm, some ⟨w.heap.size, 0, none⟩, n, rfl, Nat.le_refl _, hm, (fun h => by cases h), fun _ => ⟨w.heap.size, 0, rfl, by simp, fun j hj => ?_⟩⟩
  rw [Nat.zero_add, cell_of_row _ _ _ _ _ _ (heap_alloc_new w _)]
  simp

def S2 : Schema := [[(1, 0), (3, 0)]]
theorem S2_right : rightB S2 = true := rfl
theorem sch_S2 (w : World) : Sch ((w.alloc (.cells #[.int .i64 1, .int .i64 0, .int .i64 3, .int .i64 0] 24)).alloc (.cells #[.slice (some ⟨w.heap.size, 0, none⟩) 2 2] 25)) (.slice (some ⟨w.heap.size + 1, 0, none⟩) 1 1) S2 := by
  have h1 := row_new w #[.int .i64 1, .int .i64 0, .int .i64 3, .int .i64 0] 24 2 2 rfl (by simp [maxLen])
  have h2 := row_new (w.alloc (.cells #[.int .i64 1, .int .i64 0, .int .i64 3, .int .i64 0] 24)) #[.slice (some ⟨w.heap.size, 0, none⟩) 2 2] 25 1 1 rfl (by simp [maxLen])
  have e : (w.alloc (.cells #[.int .i64 1, .int .i64 0, .int .i64 3, .int .i64 0] 24)).heap.size = w.heap.size + 1 := by simp
  rw [e] at h2
  refine ⟨_, h2, fun i l hl => ?_⟩
  match i, hl with
  | 0, hl =>
    obtain rfl := Option.some.inj hl
    exact ⟨_, rfl, h1.below (below_alloc _ _) (Nat.le_refl _)⟩
  | i + 1, hl => simp [S2] at hl

/-- The example's struct. -/
def T2 : St 1 := (⟨0#64, ⟨#[]⟩, [], [⟨7#64, ⟨#[]⟩, [], []⟩, ⟨0#64, ⟨#[]⟩, [5#64, 6#64], []⟩]⟩ : Node (Node (St 0)))
theorem T2_check : checkC S2 1 0 T2 = 0 := by
  rw [checkC, if_pos ⟨S2_right, by decide, by decide⟩]
  rfl
theorem rd_T2 (w : World) : RdS 1 ((w.alloc (.cells #[U 5#64, U 6#64] 28)).alloc (.cells #[U 7#64, .string ⟨#[]⟩, .slice none 0 0, .slice none 0 0, U 0#64, .string ⟨#[]⟩, .slice (some ⟨w.heap.size, 0, none⟩) 2 2, .slice none 0 0] 32))
    [U 0#64, .string ⟨#[]⟩, .slice none 0 0, .slice (some ⟨w.heap.size + 1, 0, none⟩) 2 2] T2 := by
  have h1 := row_new w #[U 5#64, U 6#64] 28 1 2 rfl (by simp [maxLen])
  have h2 := row_new (w.alloc (.cells #[U 5#64, U 6#64] 28)) #[U 7#64, .string ⟨#[]⟩, .slice none 0 0, .slice none 0 0, U 0#64, .string ⟨#[]⟩, .slice (some ⟨w.heap.size, 0, none⟩) 2 2, .slice none 0 0] 32 4 2 rfl (by simp [maxLen])
  have e : (w.alloc (.cells #[U 5#64, U 6#64] 28)).heap.size = w.heap.size + 1 := by simp
  rw [e] at h2
  have hz : ∀ W : World, Row W 1 (.slice none 0 0) 0 [] := fun W => Row.nil W 1
  refine RdN.mk' (t := (T2 : Node (Node (St 0)))) ⟨by show (⟨#[]⟩ : ByteArray).size ≤ 1000; decide, by show 0 ≤ 1000; omega, by show 2 ≤ 1000; omega⟩ (hz _) ⟨_, h2, fun i k hk => ?_⟩
  match i, hk with
  | 0, hk =>
    obtain rfl := Option.some.inj hk
    exact RdN.mk' (t := ⟨7#64, ⟨#[]⟩, [], []⟩) ⟨by show (⟨#[]⟩ : ByteArray).size ≤ 1000; decide, by simp, by simp⟩ (hz _) (Kids.nil _ _)
  | 1, hk =>
    obtain rfl := Option.some.inj hk
    exact RdN.mk' (t := ⟨0#64, ⟨#[]⟩, [5#64, 6#64], []⟩) ⟨by show (⟨#[]⟩ : ByteArray).size ≤ 1000; decide, by simp, by simp⟩ (h1.below (below_alloc _ _) (Nat.le_refl _)) (Kids.nil _ _)
  | i + 2, hk => simp [T2] at hk
end SEx

end Go.Proofs.YtblbhlgihlgncaaDoor

