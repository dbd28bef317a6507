/- The contract of the document's Count. -/
import Derived.Test.YtblbhlgihlgncaaDoorRows
import Derived.Test.YtblbhlgihlgncaaDoorGa
import Derived.Deep.QuietTactic
import Derived.BigQuiet
import Derived.Test.YtblbhlgihlgncaaDoorGf
import Derived.StillTailTactics
import Derived.Laws.EntriesVeiled
set_option linter.unusedVariables false
set_option linter.unusedSimpArgs false
namespace Go.Proofs.YtblbhlgihlgncaaDoor
section SRefCount
open Go.RowKit

theorem rcount_any (n : Int) (w : World) (hn : -9223372036854775808 ≤ n ∧ n ≤ 9223372036854775807) :
    Calls Tryd.prog 74 #[.int .i64 n] w fun e w' => e = .returned (.int .i64 (countV n)) ∧ w = w' := by
  by_cases h0 : n ≤ 0
  · have Hr : Hid (countV n = 0) := by unfold countV; exact if_pos h0
    go_enter Tryd.func74, Tryd.ntmps74
    go_wp2
    go_ret
    exact ⟨ret_i64 (by rw [Hr.out]), rfl⟩
  · have Hr : Hid (countV n = (n + 7) / 8) := by unfold countV; exact if_neg h0
    go_enter Tryd.func74, Tryd.ntmps74
    go_wp2
    go_ret
    exact ⟨ret_i64 (by rw [Hr.out]; omega), rfl⟩
end SRefCount

section SBitsCount
open Go.RowKit

theorem count_any (n : Int) (w : World) (hn : -9223372036854775808 ≤ n ∧ n ≤ 9223372036854775807) :
    Calls Tryd.prog 33 #[.int .i64 n] w fun e w' => e = .returned (.int .i64 (countV n)) ∧ w = w' := by
  by_cases h0 : 0 < n
  · have Hr : Hid (countV n = (n + 7) / 8) := by unfold countV; exact if_neg (by omega)
    by_cases h8 : n % 8 = 0
    · have h8' : (n % 8 == 0) = true := by simp [h8]
      have H8 := hid h8
      clear h8
      go_enter Tryd.func33, Tryd.ntmps33
      go_wp2
      go_ret
      exact ⟨ret_i64 (by rw [Hr.out]; have := H8.out; omega), rfl⟩
    · have h8' : (n % 8 == 0) = false := by simp [h8]
      have H8 := hid h8
      clear h8
      go_enter Tryd.func33, Tryd.ntmps33
      go_wp2
      go_ret
      exact ⟨ret_i64 (by rw [Hr.out]; have := H8.out; omega), rfl⟩
  · have Hr : Hid (countV n = 0) := by unfold countV; exact if_pos (by omega)
    by_cases h1 : n < 0
    · go_enter Tryd.func33, Tryd.ntmps33
      go_wp2
      go_ret
      exact ⟨ret_i64 (by rw [Hr.out]), rfl⟩
    · obtain rfl : n = 0 := by omega
      go_enter Tryd.func33, Tryd.ntmps33
      go_wp2
      go_ret
      exact ⟨ret_i64 (by rw [Hr.out]), rfl⟩
end SBitsCount

section SRWords
open Go.RowKit

theorem countV_eq (m : Nat) : countV m = ((m + 7) / 8 : Nat) := by unfold countV; split <;> omega
theorem rcount_q (m : Nat) (hm : m ≤ 1000) (w : World) : Calls Tryd.prog 74 #[.int .i64 m] w fun e w' => e = .returned (.int .i64 ((m + 7) / 8 : Nat)) ∧ w' = w :=
  (rcount_any m w ⟨by omega, by omega⟩).mono fun e w' ⟨h1, h2⟩ => ⟨by rw [h1, countV_eq], h2.symm⟩
theorem count_q (m : Nat) (hm : m ≤ 1000) (w : World) : Calls Tryd.prog 33 #[.int .i64 m] w fun e w' => e = .returned (.int .i64 ((m + 7) / 8 : Nat)) ∧ w' = w :=
  (count_any m w ⟨by omega, by omega⟩).mono fun e w' ⟨h1, h2⟩ => ⟨by rw [h1, countV_eq], h2.symm⟩

def wordsF {K : Type} (f : K → Nat) (k : Node K) : Nat := (k.bytes.size + 7) / 8 + k.nums.length + sumL f k.kids
theorem wordsT_succ (d : Nat) (v : St (d + 1)) : wordsT (d + 1) v = (Node.kids v).length + sumL (wordsF (wordsT d)) (Node.kids v) := rfl
theorem sumL_take_le {α : Type} (f : α → Nat) (l : List α) (i : Nat) : sumL f (l.take i) ≤ sumL f l := by
  have key : ∀ (l : List α) (m : Nat), m ≤ l.foldl (fun m x => m + f x) m := by
    intro l
    induction l with
    | nil => intro m; exact Nat.le_refl _
    | cons x l ih => intro m; exact Nat.le_trans (Nat.le_add_right _ _) (ih _)
  have h := key (l.drop i) (sumL f (l.take i))
  have e : sumL f l = (l.drop i).foldl (fun m x => m + f x) (sumL f (l.take i)) := by
    unfold sumL; rw [← List.foldl_append, List.take_append_drop]
  rw [e]; exact h
theorem sumL_get_le {α : Type} (f : α → Nat) (l : List α) (i : Nat) (x : α) (h : l[i]? = some x) : sumL f (l.take i) + f x ≤ sumL f l := by
  rw [← sumL_succ f l i x h]; exact sumL_take_le f l _

def LIM : Nat := 1000000000000
theorem lim_le : LIM ≤ 4611686018427387904 := by unfold LIM; omega

set_option maxHeartbeats 4000000 in
theorem words_any (d : Nat) : ∀ (v : St d) (hL : wordsT d v ≤ LIM) (cs : List Value) (w : World), RdS d w cs v →
    Calls Tryd.prog 72 #[.agg cs.toArray] w fun r w' => r = .returned (.int .i64 (wordsT d v)) ∧ Below w.heap.size w w' := by
  induction d with
  | zero => exact fun v _ _ _ _ => nomatch v
  | succ d ihd =>
    intro v hL cs w h
    have ih := hid ihd
    clear ihd
    obtain ⟨a2, p2, a, cap, rfl, hbs, hn, hk, hnm, hkm⟩ := RdN.open h
    clear h hn hbs hnm
    obtain ⟨N, hN⟩ : ∃ N, N = (Node.kids v).length := ⟨_, rfl⟩
    rw [← hN] at hk hkm ⊢
    have HN := hid hN
    have hlim := lim_le
    have Hw := hid (show wordsT (d + 1) v = N + sumL (wordsF (wordsT d)) (Node.kids v) by rw [wordsT_succ, hN])
    rw [Hw.out] at hL
    clear hN
    obtain ⟨w1, hw1, hb1, hlt1, hbox⟩ := boxed w #[U (Node.num v), .string (Node.bytes v), .slice a2 (Node.nums v).length p2, .slice a N cap] 32
    have x3 : w1.cell? ⟨w.heap.size, 3, none⟩ = some (.slice a N cap) := hbox 3
    have hk1 := hk.below (kept_N (kept_S d)) hb1 (Nat.le_refl _)
    have HL := hid hL
    have Hlim := hid hlim
    clear hbox hk hL hlim
    rw [Hw.out]
    go_enter Tryd.func72, Tryd.ntmps72
    go_wp2_with fail
    clear hw1
    go_loopw [3, 4] (fun n i wr => ∃ k T : Nat, k ≤ N ∧ i = .int .i64 k ∧ n = .int .i64 T ∧ T = N + sumL (wordsF (wordsT d)) ((Node.kids v).take k) ∧ Below w1.heap.size w1 wr) (fun _ i _ => N - (intOf i).toNat)
    case atStart => exact ⟨0, N, Nat.zero_le _, rfl, rfl, by simp [sumL], Below.refl _ _⟩
    case round =>
      obtain ⟨k, T, hkN, rfl, rfl, hT, hbl⟩ := hrel
      have y3 := (hbl.cell (p := ⟨w.heap.size, 3, none⟩) hlt1).trans x3
      by_cases hlt : k < N
      · obtain ⟨fk, hfk⟩ := get_lt (l := Node.kids v) (i := k) (by rw [← HN.out]; exact hlt)
        obtain ⟨b, off, a4, p4, a5, p5, rfl, hbb, q0, q1, q2, q3, hfb, hfn, hfkk, _, hfnn, hfm⟩ := Kids.at_ (hk1.below (kept_N (kept_S d)) hbl (Nat.le_refl _)) hfk
        have hsum := sumL_get_le (wordsF (wordsT d)) (Node.kids v) k fk hfk
        have Hsucc := hid (sumL_succ (wordsF (wordsT d)) (Node.kids v) k fk hfk)
        have hfw : wordsF (wordsT d) fk = (fk.bytes.size + 7) / 8 + fk.nums.length + sumL (wordsT d) fk.kids := rfl
        rw [hfw] at hsum
        have Hfw := hid hfw
        obtain ⟨M, hM⟩ : ∃ M, M = fk.kids.length := ⟨_, rfl⟩
        obtain ⟨R, hR⟩ : ∃ R, R = fk.nums.length := ⟨_, rfl⟩
        rw [← hM] at hfkk hfm q3
        rw [← hR] at hfnn q2 hsum
        have HM := hid hM
        have HR := hid hR
        have hcq := rcount_q fk.bytes.size hfb
        have hc8 : (fk.bytes.size + 7) / 8 ≤ 1000 := by omega
        have h0 := HL.out
        have h00 := Hlim.out
        have Hz := hid (show ∀ j, T + (fk.bytes.size + 7) / 8 + R + sumL (wordsT d) (fk.kids.take j) ≤ LIM from fun j => by have := sumL_take_le (wordsT d) fk.kids j; omega)
        have HzN := hid (show T + (fk.bytes.size + 7) / 8 + R ≤ LIM by omega)
        have HT := hid hT
        generalize hcg : (fk.bytes.size + 7) / 8 = c at *
        have Hcg := hid hcg
        clear hM hR hfk hfn hfw hsum hcg h0 h00 hT
        have hA : T + c + R ≤ 4611686018427387904 := by have := HzN.out; have := Hlim.out; omega
        obtain ⟨wk, hwk, hbk, hltk, hboxk⟩ := boxed wr #[U fk.num, .string fk.bytes, .slice a4 R p4, .slice a5 M p5] 32
        have k1 : wk.cell? ⟨wr.heap.size, 1, none⟩ = some (.string fk.bytes) := hboxk 1
        have k2 : wk.cell? ⟨wr.heap.size, 2, none⟩ = some (.slice a4 R p4) := hboxk 2
        have k3 : wk.cell? ⟨wr.heap.size, 3, none⟩ = some (.slice a5 M p5) := hboxk 3
        have hbl1 := hbl.trans (hbk.mono hbl.size)
        have hfk1 := hfkk.below (kept_S d) hbk (Nat.le_refl _)
        have hw1' : IntKind.i64.wrap ((T : Int) + (c : Int)) = (T : Int) + c := IntWalk.i64_in _ (by omega)
        have hw2' : IntKind.i64.wrap ((T : Int) + (c : Int) + (R : Int)) = (T : Int) + c + R := IntWalk.i64_in _ (by omega)
        clear hboxk hfkk
        go_wp2_with fail
        clear hwk
        go_quiet ((go_at_call 74; exact Calls.quiet_of_same (hcq _)))
        have hbl2 : Below w1.heap.size w1 (wk.drewN nq) := hbl1.trans (below_drewN _ _ _)
        have hfk2 := hfk1.below (B := wk.heap.size) (kept_S d) (below_drewN _ _ nq) (Nat.le_refl _)
        have hlt2 : wr.heap.size < (wk.drewN nq).heap.size := hltk
        have k3' : (wk.drewN nq).cell? ⟨wr.heap.size, 3, none⟩ = some (.slice a5 M p5) := k3
        clear hbl1 hfk1 k1 k2 hcq hw1' hw2' q0 q1 q2 q3 y3
        go_wp2_with fail
        generalize wk.drewN nq = w5 at *
        obtain ⟨wo, rfl⟩ : ∃ wo : World, wo = wr := ⟨_, rfl⟩
        go_loopw [3, 6] (fun n i wr => ∃ j T2 : Nat, j ≤ M ∧ i = .int .i64 j ∧ n = .int .i64 T2 ∧ T2 = T + c + R + sumL (wordsT d) (fk.kids.take j) ∧ Below w5.heap.size w5 wr) (fun _ i _ => M - (intOf i).toNat)
        case atStart => exact ⟨0, T + c + R, Nat.zero_le _, rfl, by congr 1, by simp [sumL], Below.refl _ _⟩
        case round =>
          obtain ⟨j, T2, hjM, rfl, rfl, hT2, hbj⟩ := hrel
          have m3' := (hbj.cell (p := ⟨wo.heap.size, 3, none⟩) hlt2).trans k3'
          have hT2b : T2 ≤ 4611686018427387904 := by have := Hz.out j; have := Hlim.out; omega
          by_cases hjl : j < M
          · obtain ⟨x, hx⟩ := get_lt (l := fk.kids) (i := j) (by rw [← HM.out]; exact hjl)
            obtain ⟨b2, off2, xn, xb, e2, m2, s2, e3, m3, s3, rfl, hbb2, q0, q1, q2, q3, hrx⟩ := Kids.atS (hfk2.below (kept_S d) hbj (Nat.le_refl _)) hx
            have hle := sumL_get_le (wordsT d) fk.kids j x hx
            have Hsx := hid (sumL_succ (wordsT d) fk.kids j x hx)
            have hzj := Hz.out (j + 1)
            rw [Hsx.out] at hzj
            have hlm := Hlim.out
            have hwx : wordsT d x ≤ LIM := by omega
            have hT3 : T2 + wordsT d x ≤ 4611686018427387904 := by omega
            have hcall := ih.out x hwx _ wr hrx
            have HT2 := hid hT2
            clear hT2 hx hle hzj hlm hwx hrx hfk2
            generalize wordsT d x = wx at *
            go_wp2_with fail
            ((refine hcall.mono ?_); rintro e1 w6 ⟨rfl, hb6⟩)
            go_wp2_with fail
            go_roundw
            case rel => exact ⟨j + 1, T2 + wx, by omega, by go_num, by congr 1, by rw [Hsx.out, HT2.out]; omega, hbj.trans (hb6.mono hbj.size)⟩
            case measure => simp [intOf] <;> omega
          · obtain rfl : j = M := by omega
            have HT2 := hid hT2
            have Hend := hid (show T2 = N + sumL (wordsF (wordsT d)) ((Node.kids v).take (k + 1)) by
              have e1 : fk.kids.take j = fk.kids := List.take_of_length_le (by rw [← HM.out]; exact Nat.le_refl _)
              have e2 := Hsucc.out
              have e3 := Hfw.out
              rw [e1] at hT2
              rw [e2, e3, ← HR.out, hT2, HT.out]; omega)
            clear hT2 hfk2
            go_wp2_with fail
            go_roundw
            case rel => exact ⟨k + 1, T2, by omega, by go_num, rfl, Hend.out, hbl2.trans (hbj.mono hbl2.size)⟩
            case measure => simp [intOf] <;> omega
      · obtain rfl : k = N := by omega
        have Hend := hid (show T = k + sumL (wordsF (wordsT d)) (Node.kids v) by rw [hT, List.take_of_length_le (by rw [← HN.out]; exact Nat.le_refl _)])
        clear hk1 hT
        go_wp2_with fail
        go_ret
        exact ⟨by rw [← Hend.out]; rfl, hb1.trans (hbl.mono hb1.size)⟩
end SRWords

section SRSize
open Go.RowKit

theorem firstE_zero {α : Type} (f : Nat → α → Int) : ∀ (l : List α) (i : Nat), firstE f i l = 0 → ∀ (j : Nat) (x : α), l[j]? = some x → f (i + j) x = 0
  | [], _, _, j, x, h => by simp at h
  | y :: l, i, h0, j, x, h => by
    simp only [firstE] at h0
    by_cases hy : f i y = 0
    · rw [if_pos hy] at h0
      cases j with
      | zero => simp at h; subst h; exact hy
      | succ j =>
        have := firstE_zero f l (i + 1) h0 j x (by simpa using h)
        rw [show i + (j + 1) = i + 1 + j by omega]; exact this
    · rw [if_neg hy] at h0; exact absurd h0 hy

theorem sumL_le {α : Type} (f : α → Nat) (b : Nat) (l : List α) (h : ∀ x ∈ l, f x ≤ b) : sumL f l ≤ l.length * b := by
  have key : ∀ (l : List α) (m : Nat), (∀ x ∈ l, f x ≤ b) → l.foldl (fun m x => m + f x) m ≤ m + l.length * b := by
    intro l
    induction l with
    | nil => intro m _; simp
    | cons x l ih =>
      intro m hx
      have h1 := ih (m + f x) (fun y hy => hx y (by simp [hy]))
      have h2 := hx x (by simp)
      simp only [List.foldl_cons, List.length_cons, Nat.add_mul, Nat.one_mul]
      omega
  have := key l 0 h
  simpa [sumL] using this

def wB : Nat → Nat
  | 0 => 0
  | n + 1 => 6 + 6 * (17 + 12 * wB n)

theorem typeL_len {s : Schema} (hr : rightB s = true) (t : Int) : (typeL s t).length ≤ 6 := by
  rw [rightB, Bool.and_eq_true, List.all_eq_true] at hr
  unfold typeL
  split
  · next h =>
    have hlt : t.toNat < s.length := by omega
    obtain ⟨l, hl⟩ := get_lt hlt
    rw [List.getD_eq_getElem?_getD, hl]
    have := hr.2 l (List.mem_of_getElem? hl)
    rw [lOk, Bool.and_eq_true, decide_eq_true_eq] at this
    simpa using this.1.2
  · simp

theorem hasV_le {kind : Int} {x : BitVec 64} {nb nn nk : Nat} (h : hasV kind x nb nn nk = true) : nb ≤ 40 ∧ nn ≤ 12 ∧ nk ≤ 12 := by
  unfold hasV at h
  repeat' split at h
  all_goals (simp at h; try omega)
theorem hasB_le {K : Type} {kind : Int} {k : Node K} (h : hasB kind k = true) : k.bytes.size ≤ 40 ∧ k.nums.length ≤ 12 ∧ k.kids.length ≤ 12 := hasV_le h

theorem words_le {s : Schema} (hr : rightB s = true) : ∀ (d left : Nat) (t : Int) (v : St d), codeT s d left t v = 0 → wordsT d v ≤ wB left
  | 0, _, _, v, _ => nomatch v
  | d + 1, left, t, v, h => by
    rw [codeT] at h
    by_cases h0 : left = 0
    · rw [if_pos h0] at h; exact absurd h (by decide)
    · rw [if_neg h0] at h
      by_cases h1 : ¬ Node.num v = 0#64 ∨ ¬ (Node.bytes v).size = 0 ∨ ¬ (Node.nums v).length = 0 ∨ ¬ (Node.kids v).length = (typeL s t).length
      · rw [if_pos h1] at h; exact absurd h (by decide)
      · rw [if_neg h1] at h
        have hz := firstE_zero _ _ _ h
        have hlen : (Node.kids v).length ≤ 6 := by
          have : (Node.kids v).length = (typeL s t).length := by omega
          rw [this]; exact typeL_len hr t
        have hf : ∀ k ∈ Node.kids v, wordsF (wordsT d) k ≤ 17 + 12 * wB (left - 1) := by
          intro k hk
          obtain ⟨i, hi, e⟩ := List.mem_iff_getElem.1 hk
          have hki : (Node.kids v)[i]? = some k := by rw [List.getElem?_eq_getElem hi, e]
          have h2 := hz i k hki
          by_cases hh : hasB (fieldP s t ((0 + i : Nat) : Int)).1 k = true
          · rw [if_pos hh] at h2
            have hz2 := firstE_zero _ _ _ h2
            obtain ⟨b1, b2, b3⟩ := hasB_le hh
            have hs := sumL_le (wordsT d) (wB (left - 1)) k.kids (fun x hx => by
              obtain ⟨j, hj, e⟩ := List.mem_iff_getElem.1 hx
              exact words_le hr d (left - 1) _ x (hz2 j x (by rw [List.getElem?_eq_getElem hj, e])))
            have hm : k.kids.length * wB (left - 1) ≤ 12 * wB (left - 1) := Nat.mul_le_mul_right _ b3
            unfold wordsF
            omega
          · rw [if_neg hh] at h2; exact absurd h2 (by decide)
        have hs := sumL_le (wordsF (wordsT d)) (17 + 12 * wB (left - 1)) (Node.kids v) hf
        have hm : (Node.kids v).length * (17 + 12 * wB (left - 1)) ≤ 6 * (17 + 12 * wB (left - 1)) := Nat.mul_le_mul_right _ hlen
        rw [wordsT_succ]
        obtain ⟨m, rfl⟩ : ∃ m, left = m + 1 := ⟨left - 1, by omega⟩
        simp only [wB, Nat.add_sub_cancel] at *
        omega

theorem words_lim {s : Schema} {d : Nat} {t : Int} {v : St d} (h : checkC s d t v = 0) : wordsT d v ≤ LIM := by
  unfold checkC at h
  split at h
  · next hr => exact Nat.le_trans (words_le hr.1 d 5 t v h) (by decide)
  · exact absurd h (by decide)

def sizeT (s : Schema) (d : Nat) (t : Int) (v : St d) : Nat := if checkC s d t v = 0 then 1 + wordsT d v else 0

set_option maxHeartbeats 2000000 in
theorem rsize_any (s : Schema) (sv : Value) (d : Nat) (t : Int) (v : St d) (cs : List Value) (w : World) (hs : Sch w sv s) (h : RdS d w cs v) :
    Calls Tryd.prog 50 #[sv, .int .i64 t, .agg cs.toArray] w fun r w' => r = .returned (.int .i64 (sizeT s d t v)) ∧ Below w.heap.size w w' := by
  cases d with
  | zero => exact nomatch v
  | succ d =>
    obtain ⟨a2, p2, a, cap, hcs, hbs, hn, hk, hnm, hkm⟩ := RdN.open h
    subst hcs
    obtain ⟨w1, hw1, hb1, hlt1, hbox⟩ := boxed w #[U (Node.num v), .string (Node.bytes v), .slice a2 (Node.nums v).length p2, .slice a (Node.kids v).length cap] 32
    have x0 : w1.cell? ⟨w.heap.size, 0, none⟩ = some (U (Node.num v)) := hbox 0
    have x1 : w1.cell? ⟨w.heap.size, 1, none⟩ = some (.string (Node.bytes v)) := hbox 1
    have x2 : w1.cell? ⟨w.heap.size, 2, none⟩ = some (.slice a2 (Node.nums v).length p2) := hbox 2
    have x3 : w1.cell? ⟨w.heap.size, 3, none⟩ = some (.slice a (Node.kids v).length cap) := hbox 3
    have h1 := h.below hb1 (Nat.le_refl _)
    have hck := rtcheck_any s sv (d + 1) t v _ w1 (hs.below hb1 (Nat.le_refl _)) h1
    have Hw := hid (fun (hc : checkC s (d + 1) t v = 0) W (hW : Below w1.heap.size w1 W) => words_any (d + 1) v (words_lim hc) _ W (h1.below hW (Nat.le_refl _)))
    have Hs := hid (fun (hc : checkC s (d + 1) t v = 0) => show sizeT s (d + 1) t v = 1 + wordsT (d + 1) v by rw [sizeT, if_pos hc])
    have Hs0 := hid (fun (hc : ¬ checkC s (d + 1) t v = 0) => show sizeT s (d + 1) t v = 0 by rw [sizeT, if_neg hc])
    have Hlim := hid (fun (hc : checkC s (d + 1) t v = 0) => words_lim hc)
    clear hs h h1 hk hn hbox hbs
    by_cases hc : checkC s (d + 1) t v = 0
    · have hw := Hw.out hc
      have Hst := hid (Hs.out hc)
      have hl1 := Hlim.out hc
      have hl2 := lim_le
      have hl3 : wordsT (d + 1) v ≤ 4611686018427387904 := by omega
      rw [hc] at hck
      clear hc hl1 hl2 Hlim Hs Hs0 Hw
      generalize wordsT (d + 1) v = wn at *
      go_enter Tryd.func50, Tryd.ntmps50
      go_wp2_with fail
      ((refine hck.mono ?_); rintro r1 w2 ⟨rfl, hb2⟩)
      replace x0 := (hb2.cell hlt1).trans x0
      replace x1 := (hb2.cell hlt1).trans x1
      replace x2 := (hb2.cell hlt1).trans x2
      replace x3 := (hb2.cell hlt1).trans x3
      clear hw1
      go_wp2_with fail
      ((refine (hw _ hb2).mono ?_); rintro r2 w3 ⟨rfl, hb3⟩)
      go_wp2
      go_ret
      exact ⟨by rw [Hst.out]; congr 1, hb1.trans ((hb2.trans (hb3.mono hb2.size)).mono hb1.size)⟩
    · have Hst := hid (Hs0.out hc)
      have hcb : (checkC s (d + 1) t v != 0) = true := by simpa using hc
      generalize checkC s (d + 1) t v = c at *
      clear hc Hlim Hs Hs0 Hw
      go_enter Tryd.func50, Tryd.ntmps50
      go_wp2_with fail
      ((refine hck.mono ?_); rintro r1 w2 ⟨rfl, hb2⟩)
      clear hw1
      go_wp2
      go_ret
      exact ⟨by rw [Hst.out]; rfl, hb1.trans (hb2.mono hb1.size)⟩
end SRSize

section SAdd
open Go.RowKit

/-- The two variables that the closure captures: how many words there are; itself. -/
structure AddS (w0 w : World) (Bn Bf T : Nat) : Prop where
  n : w.cell? ⟨Bn, 0, none⟩ = some (.int .i64 T)
  fz : w.frozen? ⟨Bn, 0, none⟩ = false
  f : w.cell? ⟨Bf, 0, none⟩ = some (.func (.func 32) #[] #[.pointer (some ⟨Bn, 0, none⟩), .pointer (some ⟨Bf, 0, none⟩)])
  hn : w0.heap.size ≤ Bn
  ln : Bn < w.heap.size
  lf : Bf < w.heap.size
  ne : Bn ≠ Bf
  bl : Below w0.heap.size w0 w

theorem AddS.below {w0 w w' : World} {Bn Bf T : Nat} (h : AddS w0 w Bn Bf T) (hb : Below w.heap.size w w') : AddS w0 w' Bn Bf T :=
  ⟨(hb.cell h.ln).trans h.n, (hb.frozen h.ln).trans h.fz, (hb.cell h.lf).trans h.f, h.hn, Nat.lt_of_lt_of_le h.ln hb.size, Nat.lt_of_lt_of_le h.lf hb.size, h.ne, h.bl.trans (hb.mono h.bl.size)⟩

theorem AddS.store {w0 w : World} {Bn Bf T : Nat} (h : AddS w0 w Bn Bf T) (T2 : Nat) : AddS w0 (w.setCell ⟨Bn, 0, none⟩ (.int .i64 T2)) Bn Bf T2 := by
  obtain ⟨h1, h2, h3, h4, h5, h6, h7, h8⟩ := h
  refine ⟨by simp [go_sem, h1], by simp [go_sem, h2], by simp [go_sem, h3], h4, by simpa using h5, by simpa using h6, h7, h8.setCell h4 _⟩

def AddP (w0 w : World) (Bn Bf T : Nat) (e : Ending) (w' : World) : Prop := e = .returned (.tuple #[]) ∧ AddS w0 w' Bn Bf T ∧ w.grownBy w' (some Bn)

set_option maxRecDepth 100000 in
set_option maxHeartbeats 4000000 in
theorem add_any (d : Nat) : ∀ (v : St d) (cs : List Value) (w0 w : World) (Bn Bf T : Nat), T + wordsT d v ≤ LIM → RdS d w0 cs v → AddS w0 w Bn Bf T →
    Calls Tryd.prog 32 #[.agg cs.toArray, .pointer (some ⟨Bn, 0, none⟩), .pointer (some ⟨Bf, 0, none⟩)] w (AddP w0 w Bn Bf (T + wordsT d v)) := by
  induction d with
  | zero => exact fun v _ _ _ _ _ _ _ _ _ => nomatch v
  | succ d ihd =>
    intro v cs w0 w Bn Bf T hL h hS
    have ih := hid ihd
    clear ihd
    obtain ⟨a2, p2, a, cap, rfl, hbs, hn, hk, hnm, hkm⟩ := RdN.open h
    clear h hn hbs hnm
    obtain ⟨N, hN⟩ : ∃ N, N = (Node.kids v).length := ⟨_, rfl⟩
    rw [← hN] at hk hkm ⊢
    have HN := hid hN
    have hlim := lim_le
    have Hw := hid (show wordsT (d + 1) v = N + sumL (wordsF (wordsT d)) (Node.kids v) by rw [wordsT_succ, hN])
    rw [Hw.out] at hL ⊢
    clear hN
    obtain ⟨w1, hw1, hb1, hlt1, hbox⟩ := boxed w #[U (Node.num v), .string (Node.bytes v), .slice a2 (Node.nums v).length p2, .slice a N cap] 32
    have x3 : w1.cell? ⟨w.heap.size, 3, none⟩ = some (.slice a N cap) := hbox 3
    have hS1 := hS.below hb1
    have c1 := hS1.n
    have c2 := hS1.fz
    have hTN : T + N ≤ 4611686018427387904 := by omega
    have hneD : Bn ≠ w.heap.size := by have := hS.ln; omega
    have hS2 := hS1.store (T + N)
    have hg2 : w.grownBy (w1.setCell ⟨Bn, 0, none⟩ (.int .i64 (T + N : Nat))) (some Bn) := grown_set (grown_below (World.grownBy.refl _ _) hb1) (.inr rfl) _
    have hcast : Value.int .i64 ((T : Int) + (N : Int)) = .int .i64 ((T + N : Nat) : Int) := by congr 1
    rw [← hcast] at hS2 hg2
    have Hcast := hid hcast
    have HS2 := hid hS2
    have Hg2 := hid hg2
    have HL := hid hL
    have Hlim := hid hlim
    clear hbox hL hlim hS hS1 hb1 hcast hS2 hg2
    go_enter Tryd.func32, Tryd.ntmps32
    go_wp2_with fail
    clear hw1 x3 c1 c2 hneD
    go_loopw [16] (fun i wr => ∃ k T1 : Nat, k ≤ N ∧ i = .int .i64 k ∧ T1 = T + N + sumL (wordsF (wordsT d)) ((Node.kids v).take k) ∧ AddS w0 wr Bn Bf T1 ∧ w.grownBy wr (some Bn)) (fun i _ => N - (intOf i).toNat)
    case atStart => exact ⟨0, T + N, Nat.zero_le _, rfl, by simp [sumL], HS2.out, Hg2.out⟩
    case round =>
      clear HS2 Hg2
      obtain ⟨k, T1, hkN, rfl, hT1, hS, hg⟩ := hrel
      by_cases hlt : k < N
      · obtain ⟨fk, hfk⟩ := get_lt (l := Node.kids v) (i := k) (by rw [← HN.out]; exact hlt)
        obtain ⟨b, off, a4, p4, a5, p5, rfl, hbb, q0, q1, q2, q3, hfb, hfn, hfkk, _, hfnn, hfm⟩ := Kids.at_ (hk.below (kept_N (kept_S d)) hS.bl (Nat.le_refl _)) hfk
        have hfk0 : Kids (RdS d) w0 (.slice a5 fk.kids.length p5) fk.kids := by
          obtain ⟨b', off', a4', p4', a5', p5', e, hbb', _, _, _, q3', _, _, hfkk', _⟩ := Kids.at_ hk hfk
          have e2 := (hS.bl.cell (p := ⟨b', off' + k * 4 + 3, none⟩) hbb').trans q3'
          simp only [Option.some.injEq, Addr.mk.injEq] at e
          obtain ⟨e3, e4, _⟩ := e
          subst e3 e4
          rw [q3] at e2
          simp only [Option.some.injEq, Value.slice.injEq] at e2
          obtain ⟨rfl, _, rfl⟩ := e2
          exact hfkk'
        have hsum := sumL_get_le (wordsF (wordsT d)) (Node.kids v) k fk hfk
        have Hsucc := hid (sumL_succ (wordsF (wordsT d)) (Node.kids v) k fk hfk)
        have hfw : wordsF (wordsT d) fk = (fk.bytes.size + 7) / 8 + fk.nums.length + sumL (wordsT d) fk.kids := rfl
        rw [hfw] at hsum
        have Hfw := hid hfw
        obtain ⟨M, hM⟩ : ∃ M, M = fk.kids.length := ⟨_, rfl⟩
        obtain ⟨R, hR⟩ : ∃ R, R = fk.nums.length := ⟨_, rfl⟩
        rw [← hM] at hfk0 hfm q3
        rw [← hR] at hfnn q2 hsum
        have HM := hid hM
        have HR := hid hR
        have hcq := count_q fk.bytes.size hfb
        have hc8 : (fk.bytes.size + 7) / 8 ≤ 1000 := by omega
        have h0 := HL.out
        have h00 := Hlim.out
        have Hz := hid (show ∀ j, T1 + (fk.bytes.size + 7) / 8 + R + sumL (wordsT d) (fk.kids.take j) ≤ LIM from fun j => by have := sumL_take_le (wordsT d) fk.kids j; omega)
        have HzN := hid (show T1 + (fk.bytes.size + 7) / 8 + R ≤ LIM by omega)
        have HT := hid hT1
        generalize hcg : (fk.bytes.size + 7) / 8 = c at *
        have Hcg := hid hcg
        clear hM hR hfk hfn hfw hsum hcg h0 h00 hT1 hfkk
        have hA : T1 + c + R ≤ 4611686018427387904 := by have := HzN.out; have := Hlim.out; omega
        obtain ⟨wk, hwk, hbk, hltk, hboxk⟩ := boxed wr #[U fk.num, .string fk.bytes, .slice a4 R p4, .slice a5 M p5] 32
        have k1 : wk.cell? ⟨wr.heap.size, 1, none⟩ = some (.string fk.bytes) := hboxk 1
        have k2 : wk.cell? ⟨wr.heap.size, 2, none⟩ = some (.slice a4 R p4) := hboxk 2
        have k3 : wk.cell? ⟨wr.heap.size, 3, none⟩ = some (.slice a5 M p5) := hboxk 3
        have hSk := hS.below hbk
        have c1 := hSk.n
        have c2 := hSk.fz
        have hneD : Bn ≠ wr.heap.size := by have := hS.ln; omega
        have hgk := grown_below hg hbk
        have hw1' : IntKind.i64.wrap ((c : Int) + (R : Int)) = (c : Int) + R := IntWalk.i64_in _ (by omega)
        have hw2' : IntKind.i64.wrap ((T1 : Int) + ((c : Int) + (R : Int))) = (T1 : Int) + (c + R) := IntWalk.i64_in _ (by omega)
        clear hboxk
        go_wp2_with fail
        clear hwk
        go_still_tail 10, (by kernel_rfl)
        still_call (hcq _)
        repeat still_step
        try refine wpStill_nil ?_
        obtain ⟨vv, hvv⟩ : ∃ vv : Value, vv = .int .i64 ((T1 + c + R : Nat) : Int) := ⟨_, rfl⟩
        have hvi : vv = .int .i64 ((T1 : Int) + (c : Int) + (R : Int)) := by rw [hvv]; congr 1
        have hb5 : Below (wk.setCell ⟨Bn, 0, none⟩ vv).heap.size (wk.setCell ⟨Bn, 0, none⟩ vv) (wk.setCell ⟨Bn, 0, none⟩ vv).drew := below_drewN _ _ 1
        have hgs : w.grownBy (wk.setCell ⟨Bn, 0, none⟩ vv).drew (some Bn) := grown_below (grown_set hgk (.inr rfl) _) hb5
        have hSs : AddS w0 (wk.setCell ⟨Bn, 0, none⟩ vv).drew Bn Bf (T1 + c + R) := by rw [hvv] at hb5 ⊢; exact (hSk.store _).below hb5
        have hk3s : (wk.setCell ⟨Bn, 0, none⟩ vv).drew.cell? ⟨wr.heap.size, 3, none⟩ = some (.slice a5 M p5) := by
          show (wk.setCell ⟨Bn, 0, none⟩ vv).cell? ⟨wr.heap.size, 3, none⟩ = _
          rw [World.cell?_setCell_other _ _ _ _ (by simp)]; exact k3
        have hlt3 : wr.heap.size < (wk.setCell ⟨Bn, 0, none⟩ vv).drew.heap.size := by
          show wr.heap.size < (wk.setCell ⟨Bn, 0, none⟩ vv).heap.size
          simpa using hltk
        have hcast : Value.int .i64 ((T1 : Int) + ((c : Int) + (R : Int))) = .int .i64 ((T1 : Int) + (c : Int) + (R : Int)) := by congr 1; omega
        rw [hvi] at hgs hSs hk3s hlt3
        have Hgs := hid hgs
        have HSs := hid hSs
        clear hvv hvi hb5 hgs hSs k1 k2 hcq hw1' hw2' q0 q1 q2 q3 hSk hgk hS hg hbk
        go_wp2_with fail
        have hgs := Hgs.out
        have hSs := HSs.out
        clear Hgs HSs k3 hltk c1 c2 hneD hcast
        generalize ((wk.setCell ⟨Bn, 0, none⟩ (.int .i64 ((T1 : Int) + (c : Int) + (R : Int)))).drew) = w5 at *
        obtain ⟨wo, rfl⟩ : ∃ wo : World, wo = wr := ⟨_, rfl⟩
        go_loopw [33] (fun i wr => ∃ j T2 : Nat, j ≤ M ∧ i = .int .i64 j ∧ T2 = T1 + c + R + sumL (wordsT d) (fk.kids.take j) ∧ AddS w0 wr Bn Bf T2 ∧ w.grownBy wr (some Bn)) (fun i _ => M - (intOf i).toNat)
        case atStart => exact ⟨0, T1 + c + R, Nat.zero_le _, rfl, by simp [sumL], hSs, hgs⟩
        case round =>
          clear hSs hgs hk3s
          obtain ⟨j, T2, hjM, rfl, hT2, hS3, hg3⟩ := hrel
          by_cases hjl : j < M
          · obtain ⟨x, hx⟩ := get_lt (l := fk.kids) (i := j) (by rw [← HM.out]; exact hjl)
            obtain ⟨b2, off2, xn, xb, e2, m2, s2, e3, m3, s3, rfl, hbb2, q0, q1, q2, q3, hrx⟩ := Kids.atS (hfk0.below (kept_S d) hS3.bl (Nat.le_refl _)) hx
            have hrx0 : RdS d w0 [U xn, .string xb, .slice e2 m2 s2, .slice e3 m3 s3] x := by
              obtain ⟨b', off', xn', xb', e2', m2', s2', e3', m3', s3', e, hbb', g0, g1, g2, g3, hr⟩ := Kids.atS hfk0 hx
              simp only [Option.some.injEq, Addr.mk.injEq] at e
              obtain ⟨e4, e5, _⟩ := e
              subst e4 e5
              have d0 := (hS3.bl.cell (p := ⟨b2, off2 + j * 4, none⟩) hbb').trans g0
              have d1 := (hS3.bl.cell (p := ⟨b2, off2 + j * 4 + 1, none⟩) hbb').trans g1
              have d2 := (hS3.bl.cell (p := ⟨b2, off2 + j * 4 + 2, none⟩) hbb').trans g2
              have d3 := (hS3.bl.cell (p := ⟨b2, off2 + j * 4 + 3, none⟩) hbb').trans g3
              rw [q0] at d0; rw [q1] at d1; rw [q2] at d2; rw [q3] at d3
              rw [Option.some.inj d0, Option.some.inj d1, Option.some.inj d2, Option.some.inj d3]
              exact hr
            have hle := sumL_get_le (wordsT d) fk.kids j x hx
            have Hsx := hid (sumL_succ (wordsT d) fk.kids j x hx)
            have hzj := Hz.out (j + 1)
            rw [Hsx.out] at hzj
            have hwx : T2 + wordsT d x ≤ LIM := by omega
            obtain ⟨wx, hwxe, hbx, hltx, hboxx⟩ := boxed wr #[U xn, .string xb, .slice e2 m2 s2, .slice e3 m3 s3] 32
            have z0 : wx.cell? ⟨wr.heap.size, 0, none⟩ = some (U xn) := hboxx 0
            have z1 : wx.cell? ⟨wr.heap.size, 1, none⟩ = some (.string xb) := hboxx 1
            have z2 : wx.cell? ⟨wr.heap.size, 2, none⟩ = some (.slice e2 m2 s2) := hboxx 2
            have z3 : wx.cell? ⟨wr.heap.size, 3, none⟩ = some (.slice e3 m3 s3) := hboxx 3
            have hSx := hS3.below hbx
            have cf := hSx.f
            have hcall := ih.out x _ w0 wx Bn Bf T2 hwx hrx0 hSx
            have hgx := grown_below hg3 hbx
            have HT2 := hid hT2
            clear hT2 hx hle hzj hwx hrx hrx0 hfk0 hboxx hS3 hSx hg3
            generalize wordsT d x = wxn at *
            go_wp2_with fail
            ((refine hcall.mono ?_); rintro e1 w6 ⟨rfl, hS6, hg6⟩)
            have hg7 := grown_more hgx hg6 (fun g e => .inr e)
            clear hwxe
            go_wp2_with fail
            go_roundw
            case rel => exact ⟨j + 1, T2 + wxn, by omega, by go_num, by rw [Hsx.out, HT2.out]; omega, hS6, hg7⟩
            case measure => simp [intOf] <;> omega
          · obtain rfl : j = M := by omega
            have Hend := hid (show T2 = T + N + sumL (wordsF (wordsT d)) ((Node.kids v).take (k + 1)) by
              have e1 : fk.kids.take j = fk.kids := List.take_of_length_le (by rw [← HM.out]; exact Nat.le_refl _)
              have e2 := Hsucc.out
              have e3 := Hfw.out
              rw [e1] at hT2
              rw [e2, e3, ← HR.out, hT2, HT.out]; omega)
            clear hT2 hfk0
            go_wp2_with fail
            go_roundw
            case rel => exact ⟨k + 1, T2, by omega, by go_num, Hend.out, hS3, hg3⟩
            case measure => simp [intOf] <;> omega
      · obtain rfl : k = N := by omega
        have Hend := hid (show AddP w0 w Bn Bf (T + (k + sumL (wordsF (wordsT d)) (Node.kids v))) (.returned (.tuple #[])) wr from
          ⟨rfl, by rw [show T + (k + sumL (wordsF (wordsT d)) (Node.kids v)) = T1 by rw [hT1, List.take_of_length_le (by rw [← HN.out]; exact Nat.le_refl _)]; omega]; exact hS, hg⟩)
        clear hk hT1 hS hg
        go_wp2_with fail
        go_returns
        exact Hend.out
end SAdd

section STrSize
open Go.RowKit

set_option maxRecDepth 100000 in
set_option maxHeartbeats 2000000 in
theorem tsize_any (s : Schema) (sv : Value) (d : Nat) (t : Int) (v : St d) (cs : List Value) (w : World) (hs : Sch w sv s) (h : RdS d w cs v) :
    Calls Tryd.prog 15 #[sv, .int .i64 t, .agg cs.toArray] w fun r w' => r = .returned (.int .i64 (sizeT s d t v)) ∧ Below w.heap.size w w' := by
  cases d with
  | zero => exact nomatch v
  | succ d =>
    obtain ⟨a2, p2, a, cap, hcs, hbs, hn, hk, hnm, hkm⟩ := RdN.open h
    subst hcs
    obtain ⟨w1, hw1, hb1, hlt1, hbox⟩ := boxed w #[U (Node.num v), .string (Node.bytes v), .slice a2 (Node.nums v).length p2, .slice a (Node.kids v).length cap] 32
    have x0 : w1.cell? ⟨w.heap.size, 0, none⟩ = some (U (Node.num v)) := hbox 0
    have x1 : w1.cell? ⟨w.heap.size, 1, none⟩ = some (.string (Node.bytes v)) := hbox 1
    have x2 : w1.cell? ⟨w.heap.size, 2, none⟩ = some (.slice a2 (Node.nums v).length p2) := hbox 2
    have x3 : w1.cell? ⟨w.heap.size, 3, none⟩ = some (.slice a (Node.kids v).length cap) := hbox 3
    have h1 := h.below hb1 (Nat.le_refl _)
    have hck := tcheck_any s sv (d + 1) t v _ w1 (hs.below hb1 (Nat.le_refl _)) h1
    have Hadd := hid (fun (hc : checkC s (d + 1) t v = 0) (hl : 1 + wordsT (d + 1) v ≤ LIM) W Bn Bf (hS : AddS w1 W Bn Bf 1) => add_any (d + 1) v _ w1 W Bn Bf 1 hl h1 hS)
    have Hs := hid (fun (hc : checkC s (d + 1) t v = 0) => show sizeT s (d + 1) t v = 1 + wordsT (d + 1) v by rw [sizeT, if_pos hc])
    have Hs0 := hid (fun (hc : ¬ checkC s (d + 1) t v = 0) => show sizeT s (d + 1) t v = 0 by rw [sizeT, if_neg hc])
    have Hlim := hid (fun (hc : checkC s (d + 1) t v = 0) => show 1 + wordsT (d + 1) v ≤ LIM by
      unfold checkC at hc
      split at hc
      · next hr => exact Nat.le_trans (Nat.add_le_add_left (words_le hr.1 (d + 1) 5 t v hc) 1) (by decide)
      · exact absurd hc (by decide))
    clear hs h h1 hk hn hbox hbs
    by_cases hc : checkC s (d + 1) t v = 0
    · have hadd := Hadd.out hc (Hlim.out hc)
      have Hst := hid (Hs.out hc)
      rw [hc, show ErrV 0 = .nilIface from rfl] at hck
      clear hc Hlim Hs Hs0 Hadd
      generalize wordsT (d + 1) v = wn at *
      go_enter Tryd.func15, Tryd.ntmps15
      go_wp2_with fail
      ((refine hck.mono ?_); rintro r1 w2 ⟨rfl, hb2⟩)
      replace x0 := (hb2.cell hlt1).trans x0
      replace x1 := (hb2.cell hlt1).trans x1
      replace x2 := (hb2.cell hlt1).trans x2
      replace x3 := (hb2.cell hlt1).trans x3
      have hlt2 : w.heap.size < w2.heap.size := Nat.lt_of_lt_of_le hlt1 hb2.size
      clear hw1
      have hS : AddS w1 ((w2.alloc (.cells #[.int .i64 1] 3)).alloc (.cells #[.func (.func 32) #[] #[.pointer (some ⟨w2.heap.size, 0, none⟩), .pointer (some ⟨w2.heap.size + 1, 0, none⟩)]] 83)) w2.heap.size (w2.heap.size + 1) 1 := by
        refine ⟨by simp [go_sem], by simp [go_sem], by simp [go_sem], hb2.size, by simp <;> omega, by simp <;> omega, by omega, ?_⟩
        have hsz := hb2.size
        go_grown
      have hcall := hadd _ _ _ hS
      go_wp2_with fail
      ((refine hcall.mono ?_); rintro r2 w4 ⟨rfl, hS4, hg4⟩)
      have hfin : Below w.heap.size w w4 := hb1.trans (hS4.bl.mono hb1.size)
      have hn4 := hS4.n
      clear hS hcall hS4 hg4
      go_wp2
      go_ret
      exact ⟨by rw [Hst.out]; rfl, hfin⟩
    · have Hst := hid (Hs0.out hc)
      rw [errV_ne hc] at hck
      generalize checkC s (d + 1) t v = c at *
      clear hc Hlim Hs Hs0 Hadd
      go_enter Tryd.func15, Tryd.ntmps15
      go_wp2_with fail
      ((refine hck.mono ?_); rintro r1 w2 ⟨rfl, hb2⟩)
      clear hw1
      go_wp2
      go_ret
      exact ⟨by rw [Hst.out]; rfl, hb1.trans (hb2.mono hb1.size)⟩
end STrSize

end Go.Proofs.YtblbhlgihlgncaaDoor

