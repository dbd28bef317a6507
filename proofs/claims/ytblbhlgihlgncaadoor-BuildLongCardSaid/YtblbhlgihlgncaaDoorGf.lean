/- The document's Right. -/
import Derived.Test.YtblbhlgihlgncaaDoorGc
import Derived.Test.YtblbhlgihlgncaaDoorGe
set_option linter.unusedVariables false
set_option linter.unusedSimpArgs false
namespace Go.Proofs.YtblbhlgihlgncaaDoor
section SRRight
open Go.RowKit

set_option maxHeartbeats 4000000 in
theorem rright_any (s : Schema) (v : Value) (w : World) (hs : Sch w v s) :
    Calls Tryd.prog 53 #[v] w fun r w' => r = .returned (.bool (rightB s)) ∧ Below w.heap.size w w' := by
  obtain ⟨a, cap, rfl, hnc, hcm, hmost⟩ := hs.shape
  unfold maxLen at hmost
  obtain ⟨n, hn⟩ : ∃ n, n = s.length := ⟨_, rfl⟩
  rw [← hn] at hmost hnc hs ⊢
  have Hn := hid hn
  clear hn
  by_cases h1 : 1 ≤ n ∧ n ≤ 8
  · obtain ⟨h1, h8⟩ := h1
    go_enter Tryd.func53, Tryd.ntmps53
    go_wp2_with fail
    go_loopw [3] (fun i wr => ∃ k : Nat, k ≤ n ∧ i = .int .i64 k ∧ (s.take k).all (lOk n) = true ∧ Below w.heap.size w wr) (fun i _ => n - (intOf i).toNat)
    case atStart => exact ⟨0, by omega, rfl, rfl, Below.refl _ _⟩
    case round =>
      obtain ⟨k, hk, rfl, hal, hbl⟩ := hrel
      have Hal := hid hal
      clear hal
      by_cases hlt : k < n
      · obtain ⟨l, hl⟩ := get_lt (l := s) (i := k) (by rw [← Hn.out]; exact hlt)
        obtain ⟨b, off, a2, cap2, rfl, hbb, hc, hf, hlm, hlc, hcm2⟩ := (hs.below hbl (Nat.le_refl _)).at_ hl
        unfold maxLen at hlm
        obtain ⟨m, hm⟩ : ∃ m, m = l.length := ⟨_, rfl⟩
        rw [← hm] at hlm hlc hc hf
        have Hm := hid hm
        have Hl := hid hl
        clear hm hl
        have hbadr : lOk n l = false → rightB s = false := fun hb => by rw [rightB, ← Hn.out, all_false_of s _ k _ Hl.out hb, Bool.and_false]
        have Hbadl := hid hbadr
        clear hbadr
        by_cases hml : 1 ≤ m ∧ m ≤ 6
        · obtain ⟨hm1, hm6⟩ := hml
          go_wp2_with fail
          obtain ⟨wo, rfl⟩ : ∃ wo : World, wo = wr := ⟨_, rfl⟩
          have hwo := hbl.size
          go_loopw [4] (fun i wr => ∃ k : Nat, k ≤ m ∧ i = .int .i64 k ∧ (l.take k).all (fOk n) = true ∧ Below wo.heap.size wo wr) (fun i _ => m - (intOf i).toNat)
          case atStart => exact ⟨0, by omega, rfl, rfl, Below.refl _ _⟩
          case round =>
            obtain ⟨i, hi, rfl, hall, hbl2⟩ := hrel
            have hsz2 := hbl2.size
            have Hall := hid hall
            clear hall
            have hc' := (hbl2.cell (p := ⟨b, off + k, none⟩) hbb).trans hc
            by_cases hil : i < m
            · obtain ⟨p, hp⟩ := get_lt (l := l) (i := i) (by rw [← Hm.out]; exact hil)
              obtain ⟨b2, off2, rfl, hbb2, h1c, h2c⟩ := (hf.below hbl2 (Nat.le_refl _)).at_ hp
              obtain ⟨kd, ty⟩ := p
              simp only at h1c h2c
              have Hp := hid hp
              clear hp hf hc
              have hstep : ∀ b, fOk n (kd, ty) = b → ((l.take (i + 1)).all (fOk n)) = b := fun b hb => by rw [all_take_succ l _ i _ Hp.out, Hall.out, hb]; simp
              have Hstep := hid hstep
              clear hstep
              have badl : fOk n (kd, ty) = false → rightB s = false := fun hb => Hbadl.out (by rw [lOk, all_false_of l _ i _ Hp.out hb, Bool.and_false])
              have Hbadr := hid badl
              clear badl
              by_cases hk1 : kd < 1
              · have Hbad := hid (show fOk n (kd, ty) = false from decide_eq_false (by simp only; omega))
                go_wp2_with fail
                go_ret
                exact ⟨by rw [Hbadr.out Hbad.out]; rfl, via (w := w) hbl (by go_grown)⟩
              · by_cases hk5 : 5 < kd
                · have Hbad := hid (show fOk n (kd, ty) = false from decide_eq_false (by simp only; omega))
                  go_wp2_with fail
                  go_ret
                  exact ⟨by rw [Hbadr.out Hbad.out]; rfl, via (w := w) hbl (by go_grown)⟩
                · by_cases ht0 : ty < 0
                  · have Hbad := hid (show fOk n (kd, ty) = false from decide_eq_false (by simp only; omega))
                    go_wp2_with fail
                    go_ret
                    exact ⟨by rw [Hbadr.out Hbad.out]; rfl, via (w := w) hbl (by go_grown)⟩
                  · by_cases ht1 : (n : Int) ≤ ty
                    · have Hbad := hid (show fOk n (kd, ty) = false from decide_eq_false (by simp only; omega))
                      go_wp2_with fail
                      go_ret
                      exact ⟨by rw [Hbadr.out Hbad.out]; rfl, via (w := w) hbl (by go_grown)⟩
                    · by_cases hk4 : kd < 4
                      · by_cases hty : ty = 0
                        · subst hty
                          have Hgood := hid (show fOk n (kd, 0) = true from decide_eq_true ⟨by omega, by omega, Int.le_refl _, show (0 : Int) < (n : Int) by omega, fun _ => rfl⟩)
                          go_wp2_with fail
                          go_roundw
                          case rel => exact ⟨i + 1, by omega, by go_num, by rw [Hstep.out _ Hgood.out], by go_grown⟩
                          case measure => simp [intOf] <;> omega
                        · have Hbad := hid (show fOk n (kd, ty) = false from decide_eq_false (by simp only; omega))
                          have htyb : (ty != 0) = true := by simpa using hty
                          clear hty
                          go_wp2_with fail
                          go_ret
                          exact ⟨by rw [Hbadr.out Hbad.out]; rfl, via (w := w) hbl (by go_grown)⟩
                      · have Hgood := hid (show fOk n (kd, ty) = true from decide_eq_true (by simp only; omega))
                        go_wp2_with fail
                        go_roundw
                        case rel => exact ⟨i + 1, by omega, by go_num, by rw [Hstep.out _ Hgood.out], by go_grown⟩
                        case measure => simp [intOf] <;> omega
            · obtain rfl : i = m := by omega
              have Hgl := hid (show lOk n l = true by
                have h1 := Hall.out
                rw [Hm.out, List.take_length] at h1
                rw [lOk, h1, Bool.and_true]
                exact decide_eq_true (by rw [← Hm.out]; exact ⟨hm1, hm6⟩))
              go_wp2_with fail
              go_roundw
              case rel => exact ⟨k + 1, by omega, by go_num, by rw [all_take_succ s _ k _ Hl.out, Hgl.out, Hal.out]; rfl, via (w := w) hbl hbl2⟩
              case measure => simp [intOf] <;> omega
        · have Hres := hid (Hbadl.out (by
              rw [lOk, show decide (1 ≤ l.length ∧ l.length ≤ 6) = false from decide_eq_false (by rw [← Hm.out]; exact hml)]; rfl))
          clear hs hf
          rcases Nat.lt_or_ge m 1 with hm1 | hm1
          · clear hml
            go_wp2_with fail
            go_ret
            exact ⟨by rw [Hres.out]; rfl, hbl⟩
          · have hm6 : 6 < m := by omega
            clear hml
            go_wp2_with fail
            go_ret
            exact ⟨by rw [Hres.out]; rfl, hbl⟩
      · obtain rfl : k = n := by omega
        have Hres := hid (show rightB s = true by
          have h := Hal.out
          rw [all_of_take s _ k (by rw [← Hn.out]; exact Nat.le_refl _)] at h
          rw [rightB, ← Hn.out, show decide (1 ≤ k ∧ k ≤ 8) = true from decide_eq_true ⟨h1, h8⟩, Bool.true_and]
          exact h)
        clear hs
        go_wp2_with fail
        go_ret
        exact ⟨by rw [Hres.out]; rfl, hbl⟩
  · have Hres := hid (show rightB s = false by rw [rightB, ← Hn.out, show decide (1 ≤ n ∧ n ≤ 8) = false from decide_eq_false h1]; rfl)
    rw [Hres.out]
    clear hs
    rcases Nat.lt_or_ge n 1 with hm1 | hm1
    · clear h1
      go_enter Tryd.func53, Tryd.ntmps53
      go_wp2_with fail
      go_ret
      exact ⟨rfl, Below.refl _ _⟩
    · have hm6 : 8 < n := by omega
      clear h1
      go_enter Tryd.func53, Tryd.ntmps53
      go_wp2_with fail
      go_ret
      exact ⟨rfl, Below.refl _ _⟩
end SRRight

section SROnly
open Go.RowKit

def onlyV (kind : Int) (x : BitVec 64) (nb nn nk : Nat) : Bool :=
  (decide (kind = 1) || x == 0#64) && ((decide (kind = 2) || decide (nb = 0)) && ((decide (kind = 3) || decide (nn = 0)) && (decide (4 ≤ kind) || decide (nk = 0))))

theorem ret_bool {a b : Bool} (h : a = b) : Ending.returned (.bool a) = .returned (.bool b) := by rw [h]

set_option maxHeartbeats 4000000 in
theorem only_any (kind : Int) (hkd : 1 ≤ kind ∧ kind ≤ 5) (x : BitVec 64) (s : ByteArray) (a2 a3 : Option Addr) (nn nk p2 p3 : Nat) (w : World) (hbd : s.size ≤ 1000) (hnd : nn ≤ 1000) (hkk : nk ≤ 1000) :
    Calls Tryd.prog 81 #[.int .i64 kind, .agg #[U x, .string s, .slice a2 nn p2, .slice a3 nk p3]] w fun r w' => r = .returned (.bool (onlyV kind x s.size nn nk)) ∧ Below w.heap.size w w' := by
  have h5 : kind = 1 ∨ kind = 2 ∨ kind = 3 ∨ kind = 4 ∨ kind = 5 := by omega
  clear hkd
  have hb : (∃ e : s.size = 0, s.toList = []) ∨ (∃ e : ¬ s.size = 0, s.toList.isEmpty = false) := by
    by_cases h : s.size = 0
    · exact .inl ⟨h, bytes_nil h⟩
    · exact .inr ⟨h, by have := bytes_ne h; simpa using this⟩
  have hx : (∃ e : x = 0#64, (x == 0#64) = true) ∨ (∃ e : ¬ x = 0#64, (x == 0#64) = false) := by
    by_cases h : x = 0#64
    · exact .inl ⟨h, by simpa using h⟩
    · exact .inr ⟨h, by simpa using h⟩
  have hn : (∃ e : nn = 0, ((nn : Int) == 0) = true) ∨ (∃ e : ¬ nn = 0, ((nn : Int) == 0) = false) := by
    by_cases h : nn = 0
    · exact .inl ⟨h, by rw [h]; rfl⟩
    · exact .inr ⟨h, by simp [h]⟩
  have hk : (∃ e : nk = 0, ((nk : Int) == 0) = true) ∨ (∃ e : ¬ nk = 0, ((nk : Int) == 0) = false) := by
    by_cases h : nk = 0
    · exact .inl ⟨h, by rw [h]; rfl⟩
    · exact .inr ⟨h, by simp [h]⟩
  rcases hx with ⟨hx, gx⟩ | ⟨hx, gx⟩ <;> rcases hb with ⟨hb, gb⟩ | ⟨hb, gb⟩ <;> rcases hn with ⟨hn, gn⟩ | ⟨hn, gn⟩ <;> rcases hk with ⟨hk, gk⟩ | ⟨hk, gk⟩
  all_goals
    have Hx := hid hx
    have Hb := hid hb
    have Hn := hid hn
    have Hk := hid hk
    clear hx hb hn hk
    rcases h5 with rfl | rfl | rfl | rfl | rfl
    all_goals
      go_enter Tryd.func81, Tryd.ntmps81
      go_wp2_with fail
      go_ret
      exact ⟨ret_bool (by simp [onlyV, Hx.out, Hb.out, Hn.out, Hk.out]), by go_grown⟩

theorem only_has (kind : Int) (hkd : 1 ≤ kind ∧ kind ≤ 5) (x : BitVec 64) (nb nn nk : Nat) :
    hasV kind x nb nn nk = (onlyV kind x nb nn nk && (decide (nb ≤ 40) && (decide (nn ≤ 12) && (decide (nk ≤ 12) && !(decide (kind = 4) && decide (1 < nk)))))) := by
  have h5 : kind = 1 ∨ kind = 2 ∨ kind = 3 ∨ kind = 4 ∨ kind = 5 := by omega
  rcases h5 with rfl | rfl | rfl | rfl | rfl
  all_goals
    by_cases hx : x = 0#64
    all_goals
      rw [Bool.eq_iff_iff]
      simp [hasV, onlyV, hx]
      try omega
end SROnly

section SRStrct
open Go.RowKit

theorem heldB {wi W W' : World} {P : Prop} (h : Below wi.heap.size wi W ∧ P) (hb : Below W.heap.size W W') : Below wi.heap.size wi W' := via h.1 hb

theorem right_at {s : Schema} (h : rightB s = true) {t : Nat} {l : Fields} (hl : s[t]? = some l) {i : Nat} {p : Int × Int} (hp : l[i]? = some p) : 1 ≤ p.1 ∧ p.1 ≤ 5 ∧ 0 ≤ p.2 ∧ p.2 < s.length ∧ (p.1 < 4 → p.2 = 0) := by
  rw [rightB, Bool.and_eq_true, List.all_eq_true] at h
  have h1 := h.2 l (List.mem_of_getElem? hl)
  rw [lOk, Bool.and_eq_true, List.all_eq_true] at h1
  exact of_decide_eq_true (h1.2 p (List.mem_of_getElem? hp))

theorem only4 (x : BitVec 64) (nb nn nk : Nat) : onlyV 4 x nb nn nk = decide (x = 0#64 ∧ nb = 0 ∧ nn = 0) := by
  rw [Bool.eq_iff_iff]; simp [onlyV]

set_option maxRecDepth 100000 in
set_option maxHeartbeats 8000000 in
theorem strct_any (s : Schema) (hr : rightB s = true) (sv : Value) (d : Nat) : ∀ (left : Nat) (hl : left ≤ 5) (t : Nat) (ht : t < s.length) (v : St d) (cs : List Value) (w : World), Sch w sv s → RdS d w cs v →
    Calls Tryd.prog 71 #[sv, .int .i64 t, .agg cs.toArray, .int .i64 left] w fun r w' => r = .returned (.int .i64 (codeT s d left t v)) ∧ Below w.heap.size w w' := by
  induction d with
  | zero => exact fun _ _ _ _ v _ _ _ _ => nomatch v
  | succ d ihd =>
    intro left hl t ht v cs w hs h
    have ih := hid ihd
    clear ihd
    obtain ⟨a2, p2, a, cap, rfl, hbs, hn, hk, hnm, hkm⟩ := RdN.open h
    clear h hn
    obtain ⟨N, hN⟩ : ∃ N, N = (Node.kids v).length := ⟨_, rfl⟩
    obtain ⟨Q, hQ⟩ : ∃ Q, Q = (Node.nums v).length := ⟨_, rfl⟩
    rw [← hN] at hk hkm ⊢
    rw [← hQ] at hnm ⊢
    have HN := hid hN
    have HQ := hid hQ
    clear hN hQ
    by_cases hl0 : left = 0
    · subst hl0
      rw [show codeT s (d + 1) 0 t v = 16 from rfl]
      go_enter Tryd.func71, Tryd.ntmps71
      go_wp2_with fail
      go_ret
      exact ⟨rfl, by go_grown⟩
    · have hl1 : 1 ≤ left := by omega
      have hl2 : ((left : Int) == 0) = false := by simp; omega
      obtain ⟨w1, hw1, hb1, hlt1, hbox⟩ := boxed w #[U (Node.num v), .string (Node.bytes v), .slice a2 Q p2, .slice a N cap] 32
      have x0 : w1.cell? ⟨w.heap.size, 0, none⟩ = some (U (Node.num v)) := hbox 0
      have x1 : w1.cell? ⟨w.heap.size, 1, none⟩ = some (.string (Node.bytes v)) := hbox 1
      have x2 : w1.cell? ⟨w.heap.size, 2, none⟩ = some (.slice a2 Q p2) := hbox 2
      have x3 : w1.cell? ⟨w.heap.size, 3, none⟩ = some (.slice a N cap) := hbox 3
      have hk1 := hk.below (kept_N (kept_S d)) hb1 (Nat.le_refl _)
      have hs1 := hs.below hb1 (Nat.le_refl _)
      have honly := only_any 4 (by omega) (Node.num v) (Node.bytes v) a2 a Q N p2 cap w1 hbs hnm hkm
      rw [only4] at honly
      obtain ⟨sa, scap, hsv, _, _, hsm⟩ := hs.shape
      unfold maxLen at hsm
      obtain ⟨n, hn2⟩ : ∃ n, n = s.length := ⟨_, rfl⟩
      rw [← hn2] at hsm hsv ht
      have Hn := hid hn2
      subst hsv
      obtain ⟨l, hl3⟩ := get_lt (l := s) (i := t) (by rw [← hn2]; exact ht)
      have Htl := hid (typeL_at hl3)
      have Hl := hid hl3
      obtain ⟨m, hm⟩ : ∃ m, m = l.length := ⟨_, rfl⟩
      have Hm := hid hm
      clear hbox hk hs hn2 hm
      have Hhead := hid (show codeT s (d + 1) left t v = if ¬ Node.num v = 0#64 ∨ ¬ (Node.bytes v).size = 0 ∨ ¬ Q = 0 ∨ ¬ N = m then 24 else firstE (fun (i : Nat) k => if hasB (fieldP s t i).1 k then firstE (fun _ x => codeT s d (left - 1) (fieldP s t i).2 x) 0 k.kids else 24) 0 (Node.kids v) by
        rw [codeT, if_neg hl0, Htl.out, ← HN.out, ← HQ.out, ← Hm.out])
      obtain ⟨w2, hw2⟩ : ∃ w2, w2 = w1 := ⟨_, rfl⟩
      by_cases hh : Node.num v = 0#64 ∧ (Node.bytes v).size = 0 ∧ Q = 0
      · rw [show decide (Node.num v = 0#64 ∧ (Node.bytes v).size = 0 ∧ Q = 0) = true from decide_eq_true hh] at honly
        obtain ⟨hx, hb, hq⟩ := hh
        subst hq
        by_cases hNm : N = m
        · have hNe : ((N : Int) != (m : Int)) = false := by simp [hNm]
          obtain ⟨f, hfd⟩ : ∃ f : Nat → Node (St d) → Int, f = fun (i : Nat) k => if hasB (fieldP s t i).1 k then firstE (fun _ x => codeT s d (left - 1) (fieldP s t i).2 x) 0 k.kids else 24 := ⟨_, rfl⟩
          have Hc := hid (show codeT s (d + 1) left t v = firstE f 0 (Node.kids v) by rw [Hhead.out, if_neg (by simp [hx, hb, hNm]), hfd])
          have Hfy := hid (show ∀ (i : Nat) k, hasB (fieldP s t i).1 k = true → f i k = firstE (fun _ x => codeT s d (left - 1) (fieldP s t i).2 x) 0 k.kids from fun i k hh => by rw [hfd]; simp only [hh, if_true])
          have Hfn := hid (show ∀ (i : Nat) k, hasB (fieldP s t i).1 k = false → f i k = 24 from fun i k hh => by rw [hfd]; simp [hh])
          have Hmn := hid hNm
          have hmN : m ≤ N := by omega
          have hmN2 : N ≤ m := by omega
          have Hs := hid (fun W (hW : Below w1.heap.size w1 W) => hs1.below hW (Nat.le_refl _))
          clear hfd hx hb hNm hl0 hw2 hl3 Hhead
          go_enter Tryd.func71, Tryd.ntmps71
          go_wp2_with fail
          ((refine honly.mono ?_); rintro r1 w3 ⟨rfl, hb3⟩)
          clear hw1
          obtain ⟨bs, offs, al, capl, hsa, hbs3, hcl, _, hlm, _, _⟩ := (hs1.below hb3 (Nat.le_refl _)).at_ Hl.out
          subst hsa
          rw [← Hm.out] at hcl hlm
          unfold maxLen at hlm
          have y3 := (hb3.cell (p := ⟨w.heap.size, 3, none⟩) hlt1).trans x3
          go_wp2_with fail
          go_quiet (fail)
          go_wp2_with fail
          have hbl3 : Below w1.heap.size w1 (w3.drewN _) := hb3.trans (below_drewN _ _ nq)
          clear honly hs1 hb3 y3 hcl hbs3 hNe
          go_loopw [10] (fun i wr => ∃ k : Nat, k ≤ N ∧ i = .int .i64 k ∧ firstE f 0 ((Node.kids v).take k) = 0 ∧ Below w1.heap.size w1 wr) (fun i _ => N - (intOf i).toNat)
          case atStart => exact ⟨0, Nat.zero_le _, rfl, rfl, hbl3⟩
          case round =>
            clear hbl3
            obtain ⟨k, hkN, rfl, hz, hbl⟩ := hrel
            have Hz := hid hz
            clear hz
            have y3 := (hbl.cell (p := ⟨w.heap.size, 3, none⟩) hlt1).trans x3
            by_cases hlt : k < N
            · obtain ⟨fk, hfk⟩ := get_lt (l := Node.kids v) (i := k) (by rw [← HN.out]; exact hlt)
              obtain ⟨b, off, a4, p4, a5, p5, rfl, hbb, q0, q1, q2, q3, hfb, hfn, hfkk, _, hfnn, hfm⟩ := Kids.at_ (hk1.below (kept_N (kept_S d)) hbl (Nat.le_refl _)) hfk
              obtain ⟨bs, offs, al, capl, hsa, hbs3, hcl, hfl, _, _, _⟩ := (Hs.out _ hbl).at_ Hl.out
              simp only [Option.some.injEq, Addr.mk.injEq] at hsa
              obtain ⟨e1, e2, _⟩ := hsa
              subst e1 e2
              obtain ⟨⟨kd, ty⟩, hp⟩ := get_lt (l := l) (i := k) (by rw [← Hm.out]; omega)
              rw [← Hm.out] at hcl hfl
              obtain ⟨bl, offl, hal, hbbl, r0, r1⟩ := hfl.at_ hp
              subst hal
              simp only at r0 r1
              obtain ⟨hkd1, hkd5, hty0, htyn, _⟩ := right_at hr Hl.out hp
              simp only at hkd1 hkd5 hty0 htyn
              rw [← Hn.out] at htyn
              obtain ⟨tn, rfl⟩ : ∃ tn : Nat, ty = (tn : Int) := ⟨ty.toNat, by omega⟩
              have Hfp := hid (show fieldP s t k = (kd, (tn : Int)) from fieldP_at (by rw [Htl.out]; exact hp))
              obtain ⟨M, hM⟩ : ∃ M, M = fk.kids.length := ⟨_, rfl⟩
              obtain ⟨R, hR⟩ : ∃ R, R = fk.nums.length := ⟨_, rfl⟩
              rw [← hM] at hfkk hfm q3
              rw [← hR] at hfnn q2
              have HM := hid hM
              have HR := hid hR
              have Hfk := hid hfk
              clear hM hR hfk hfn hp hfl
              obtain ⟨wf, hwf, hbf, hltf, hboxf⟩ := boxed wr #[.int .i64 kd, .int .i64 (tn : Int)] 24
              have g0 : wf.cell? ⟨wr.heap.size, 0, none⟩ = some (.int .i64 kd) := hboxf 0
              have g1 : wf.cell? ⟨wr.heap.size, 1, none⟩ = some (.int .i64 (tn : Int)) := hboxf 1
              have hbxf : Below w1.heap.size w1 wf := hbl.trans (hbf.mono hbl.size)
              have yf := (hbf.cell (p := ⟨w.heap.size, 3, none⟩) (Nat.lt_of_lt_of_le hlt1 hbl.size)).trans y3
              have qf0 := (hbf.cell hbb).trans q0
              have qf1 := (hbf.cell hbb).trans q1
              have qf2 := (hbf.cell hbb).trans q2
              have qf3 := (hbf.cell hbb).trans q3
              obtain ⟨wk, hwk, hbk, hltk, hboxk⟩ := boxed wf #[U fk.num, .string fk.bytes, .slice a4 R p4, .slice a5 M p5] 32
              have k0 : wk.cell? ⟨wf.heap.size, 0, none⟩ = some (U fk.num) := hboxk 0
              have k1 : wk.cell? ⟨wf.heap.size, 1, none⟩ = some (.string fk.bytes) := hboxk 1
              have k2 : wk.cell? ⟨wf.heap.size, 2, none⟩ = some (.slice a4 R p4) := hboxk 2
              have k3 : wk.cell? ⟨wf.heap.size, 3, none⟩ = some (.slice a5 M p5) := hboxk 3
              have gk0 := (hbk.cell (p := ⟨wr.heap.size, 0, none⟩) hltf).trans g0
              have gk1 := (hbk.cell (p := ⟨wr.heap.size, 1, none⟩) hltf).trans g1
              have hblk : Below w1.heap.size w1 wk := hbxf.trans (hbk.mono hbxf.size)
              have hwrk : Below wr.heap.size wr wk := via hbf hbk
              have hfkW := hfkk.below (kept_S d) hwrk (Nat.le_refl _)
              have honly2 := only_any kd ⟨hkd1, hkd5⟩ fk.num fk.bytes a4 a5 R M p4 p5 wk hfb hfnn hfm
              have Hb := hid (show (onlyV kd fk.num fk.bytes.size R M && (decide (fk.bytes.size ≤ 40) && (decide (R ≤ 12) && (decide (M ≤ 12) && !(decide (kd = 4) && decide (1 < M)))))) = hasB kd fk by rw [hasB, ← HM.out, ← HR.out, only_has kd ⟨hkd1, hkd5⟩])
              generalize hong : onlyV kd fk.num fk.bytes.size R M = onl at *
              clear hong hboxk hboxf hfkk hbb
              have hltr : wr.heap.size < wk.heap.size := Nat.lt_trans hltf hltk
              go_wp2_with fail
              ((refine honly2.mono ?_); rintro r2 w4 ⟨rfl, hb4⟩)
              clear hwk hwf
              have hbl4 : Below w1.heap.size w1 w4 := hblk.trans (hb4.mono hblk.size)
              have j0 := (hb4.cell (p := ⟨wf.heap.size, 0, none⟩) hltk).trans k0
              have j1 := (hb4.cell (p := ⟨wf.heap.size, 1, none⟩) hltk).trans k1
              have j2 := (hb4.cell (p := ⟨wf.heap.size, 2, none⟩) hltk).trans k2
              have j3 := (hb4.cell (p := ⟨wf.heap.size, 3, none⟩) hltk).trans k3
              have f0 := (hb4.cell (p := ⟨wr.heap.size, 0, none⟩) hltr).trans gk0
              have f1 := (hb4.cell (p := ⟨wr.heap.size, 1, none⟩) hltr).trans gk1
              have hfk4 := hfkW.below (kept_S d) hb4 (Nat.le_refl _)
              have hl4f : wf.heap.size < w4.heap.size := Nat.lt_of_lt_of_le hltk hb4.size
              have hl4r : wr.heap.size < w4.heap.size := Nat.lt_of_lt_of_le hltr hb4.size
              have Hbad := hid (show hasB kd fk = false → codeT s (d + 1) left t v = 24 from fun hh => by
                have hn := Hfn.out k fk (by rw [Hfp.out]; exact hh)
                rw [Hc.out, firstE_hit f (Node.kids v) k fk Hfk.out Hz.out (by rw [hn]; decide), hn])
              clear k0 k1 k2 k3 g0 g1 gk0 gk1 qf0 qf1 qf2 qf3 q0 q1 q2 q3 r0 r1 yf y3 hcl hfkW honly2 hb4 hwrk hbk hbf hblk hbxf
              cases onl
              · have Hcode := hid (Hbad.out (by rw [← Hb.out]; rfl))
                go_wp2_with fail
                go_ret
                exact ⟨by rw [Hcode.out]; rfl, hb1.trans ((hbl4.trans (below_drewN _ _ 0)).mono hb1.size)⟩
              · by_cases t1 : 40 < fk.bytes.size
                · have Hcode := hid (Hbad.out (by rw [← Hb.out, show decide (fk.bytes.size ≤ 40) = false from decide_eq_false (by omega)]; rfl))
                  go_wp2_with fail
                  go_ret
                  exact ⟨by rw [Hcode.out]; rfl, hb1.trans ((hbl4.trans (below_drewN _ _ 0)).mono hb1.size)⟩
                · by_cases t2 : 12 < R
                  · have Hcode := hid (Hbad.out (by rw [← Hb.out, show decide (R ≤ 12) = false from decide_eq_false (by omega)]; simp))
                    go_wp2_with fail
                    go_ret
                    exact ⟨by rw [Hcode.out]; rfl, hb1.trans ((hbl4.trans (below_drewN _ _ 0)).mono hb1.size)⟩
                  · by_cases t3 : 12 < M
                    · have Hcode := hid (Hbad.out (by rw [← Hb.out, show decide (M ≤ 12) = false from decide_eq_false (by omega)]; simp))
                      go_wp2_with fail
                      go_ret
                      exact ⟨by rw [Hcode.out]; rfl, hb1.trans ((hbl4.trans (below_drewN _ _ 0)).mono hb1.size)⟩
                    · by_cases t4 : kd = 4 ∧ 1 < M
                      · obtain ⟨rfl, t5⟩ := t4
                        have Hcode := hid (Hbad.out (by rw [← Hb.out, show decide (1 < M) = true from decide_eq_true t5]; simp))
                        go_wp2_with fail
                        go_ret
                        exact ⟨by rw [Hcode.out]; rfl, hb1.trans ((hbl4.trans (below_drewN _ _ 0)).mono hb1.size)⟩
                      · have Hgood := hid (show hasB kd fk = true by
                          rw [← Hb.out, show decide (fk.bytes.size ≤ 40) = true from decide_eq_true (by omega), show decide (R ≤ 12) = true from decide_eq_true (by omega), show decide (M ≤ 12) = true from decide_eq_true (by omega)]
                          simp only [Bool.true_and]
                          rw [Bool.not_eq_true', Bool.and_eq_false_iff]
                          by_cases h4 : kd = 4
                          · exact .inr (decide_eq_false (fun h => t4 ⟨h4, h⟩))
                          · exact .inl (decide_eq_false h4))
                        have Hst := hid (show f k fk = firstE (fun _ x => codeT s d (left - 1) (tn : Int) x) 0 fk.kids by
                          have := Hfy.out k fk (by rw [Hfp.out]; exact Hgood.out)
                          rw [this, Hfp.out])
                        obtain ⟨wo, rfl⟩ : ∃ wo : World, wo = wr := ⟨_, rfl⟩
                        have hkd4 : (kd == 4) = false ∨ (kd == 4) = true ∧ M ≤ 1 := by
                          by_cases h4 : kd = 4
                          · exact .inr ⟨by simpa using h4, by have := fun h => t4 ⟨h4, h⟩; omega⟩
                          · exact .inl (by simpa using h4)
                        clear t4
                        rcases hkd4 with h4 | ⟨h4, hM1⟩
                        all_goals
                          go_wp2_with fail
                          go_loopw [14] (fun i wr => ∃ j : Nat, j ≤ M ∧ i = .int .i64 j ∧ firstE (fun _ x => codeT s d (left - 1) (tn : Int) x) 0 (fk.kids.take j) = 0 ∧ Below w4.heap.size w4 wr) (fun i _ => M - (intOf i).toNat)
                          case atStart => exact ⟨0, Nat.zero_le _, rfl, rfl, Below.refl _ _⟩
                          case round =>
                            obtain ⟨j, hjM, rfl, hzj, hbj⟩ := hrel
                            have Hzj := hid hzj
                            clear hzj
                            have m3' := (hbj.cell (p := ⟨wf.heap.size, 3, none⟩) hl4f).trans j3
                            have m1' := (hbj.cell (p := ⟨wo.heap.size, 1, none⟩) hl4r).trans f1
                            by_cases hjl : j < M
                            · obtain ⟨x, hx⟩ := get_lt (l := fk.kids) (i := j) (by rw [← HM.out]; exact hjl)
                              obtain ⟨b2, off2, xn, xb, e2, m2, s2, e3, m3, s3, rfl, hbb2, q0, q1, q2, q3, hrx⟩ := Kids.atS (hfk4.below (kept_S d) hbj (Nat.le_refl _)) hx
                              have hsz4 : wf.heap.size < wr.heap.size := Nat.lt_of_lt_of_le hl4f hbj.size
                              have hszr : wo.heap.size < wr.heap.size := Nat.lt_of_lt_of_le hl4r hbj.size
                              have hmk := fun W (hW : Below wr.heap.size wr W) => show Below wr.heap.size wr W ∧ W.cell? ⟨wo.heap.size, 1, none⟩ = some (.int .i64 (tn : Int)) ∧ W.cell? ⟨wf.heap.size, 3, none⟩ = some (.slice (some ⟨b2, off2, none⟩) M p5) ∧ W.cell? ⟨b2, off2 + j * 4, none⟩ = some (U xn) ∧ W.cell? ⟨b2, off2 + j * 4 + 1, none⟩ = some (.string xb) ∧ W.cell? ⟨b2, off2 + j * 4 + 2, none⟩ = some (.slice e2 m2 s2) ∧ W.cell? ⟨b2, off2 + j * 4 + 3, none⟩ = some (.slice e3 m3 s3) from
                                ⟨hW, (hW.cell hszr).trans m1', (hW.cell hsz4).trans m3', (hW.cell hbb2).trans q0, (hW.cell hbb2).trans q1, (hW.cell hbb2).trans q2, (hW.cell hbb2).trans q3⟩
                              have h1r : Below w1.heap.size w1 wr := hbl4.trans (hbj.mono hbl4.size)
                              have hlook := fun W (hW : Below wr.heap.size wr W) => ih.out (left - 1) (by omega) tn (by rw [← Hn.out]; omega) x _ W (Hs.out W (h1r.trans (hW.mono h1r.size))) (hrx.below hW (Nat.le_refl _))
                              have hlw : IntKind.i64.wrap ((left : Int) - 1) = ((left - 1 : Nat) : Int) := (IntWalk.i64_in _ (by omega)).trans (by omega)
                              have Hst2 := hid (firstE_succ (fun _ x => codeT s d (left - 1) (tn : Int) x) fk.kids j x hx Hzj.out)
                              have Hhit := hid (fun h => firstE_hit (fun _ x => codeT s d (left - 1) (tn : Int) x) fk.kids j x hx Hzj.out h)
                              have Hmk := hid hmk
                              clear hrx hx hfk4 hk1 j0 j1 j2 j3 f0 f1 m1' q0 q1 q2 q3 hmk
                              generalize hcg : codeT s d (left - 1) (tn : Int) x = c at *
                              have Hcg := hid hcg
                              clear hcg
                              generalize hlg : left - 1 = left1 at *
                              clear hlg
                              by_cases hc0 : c = 0
                              · subst hc0
                                go_wp2_with fail
                                go_region_held3 (fun W => Below wr.heap.size wr W ∧ W.cell? ⟨wo.heap.size, 1, none⟩ = some (.int .i64 (tn : Int)) ∧ W.cell? ⟨wf.heap.size, 3, none⟩ = some (.slice (some ⟨b2, off2, none⟩) M p5) ∧ W.cell? ⟨b2, off2 + j * 4, none⟩ = some (U xn) ∧ W.cell? ⟨b2, off2 + j * 4 + 1, none⟩ = some (.string xb) ∧ W.cell? ⟨b2, off2 + j * 4 + 2, none⟩ = some (.slice e2 m2 s2) ∧ W.cell? ⟨b2, off2 + j * 4 + 3, none⟩ = some (.slice e3 m3 s3))
                                  (first | exact Hmk.out _ (below_drewN _ _ 1) | exact Hmk.out _ (heldB (by assumption) hb5))
                                  ((go_at_call 71; (with_reducible refine (hlook _ (And.left (by assumption))).mono ?_); rintro r wC ⟨rfl, hb5⟩))
                                have hfin2 : Below wr.heap.size wr wC := (below_drewN _ wr 1).trans hb5
                                have hfin3 := hbj.trans (hfin2.mono hbj.size)
                                clear hlook
                                go_wp2_with fail
                                go_roundw
                                case rel => exact ⟨j + 1, by omega, by go_num, by rw [Hst2.out]; first | done | exact Hcg.out, hfin3⟩
                                case measure => simp [intOf] <;> omega
                              · have hcb : (c != 0) = true := by simpa using hc0
                                have Hcode := hid (show codeT s (d + 1) left t v = c by
                                  have h2 := Hhit.out (by first | exact hc0 | (rw [Hcg.out]; exact hc0))
                                  have h3 : f k fk = c := by rw [Hst.out, h2]; first | done | exact Hcg.out
                                  rw [Hc.out, firstE_hit f (Node.kids v) k fk Hfk.out Hz.out (by rw [h3]; exact hc0), h3])
                                clear hc0
                                go_wp2_with fail
                                go_region_held3 (fun W => Below wr.heap.size wr W ∧ W.cell? ⟨wo.heap.size, 1, none⟩ = some (.int .i64 (tn : Int)) ∧ W.cell? ⟨wf.heap.size, 3, none⟩ = some (.slice (some ⟨b2, off2, none⟩) M p5) ∧ W.cell? ⟨b2, off2 + j * 4, none⟩ = some (U xn) ∧ W.cell? ⟨b2, off2 + j * 4 + 1, none⟩ = some (.string xb) ∧ W.cell? ⟨b2, off2 + j * 4 + 2, none⟩ = some (.slice e2 m2 s2) ∧ W.cell? ⟨b2, off2 + j * 4 + 3, none⟩ = some (.slice e3 m3 s3))
                                  (first | exact Hmk.out _ (below_drewN _ _ 1) | exact Hmk.out _ (heldB (by assumption) hb5))
                                  ((go_at_call 71; (with_reducible refine (hlook _ (And.left (by assumption))).mono ?_); rintro r wC ⟨rfl, hb5⟩))
                                have hfin2 : Below wr.heap.size wr wC := (below_drewN _ wr 1).trans hb5
                                have hfin3 := hbj.trans (hfin2.mono hbj.size)
                                clear hlook
                                go_wp2_with fail
                                go_ret
                                exact ⟨by rw [Hcode.out]; rfl, hb1.trans ((hbl4.trans (hfin3.mono hbl4.size)).mono hb1.size)⟩
                            · obtain rfl : j = M := by omega
                              have Hst2 := hid (show firstE f 0 ((Node.kids v).take (k + 1)) = 0 by
                                rw [firstE_succ f _ k fk Hfk.out Hz.out, Hst.out, ← firstE_all _ fk.kids j (by rw [← HM.out]; exact Nat.le_refl _)]
                                exact Hzj.out)
                              clear hfk4 hk1
                              go_wp2_with fail
                              go_roundw
                              case rel => exact ⟨k + 1, by omega, by go_num, Hst2.out, hbl4.trans (hbj.mono hbl4.size)⟩
                              case measure => simp [intOf] <;> omega
            · obtain rfl : k = N := by omega
              have Hcode := hid (show codeT s (d + 1) left t v = 0 by
                rw [Hc.out, ← firstE_all f _ k (by rw [← HN.out]; exact Nat.le_refl _)]; exact Hz.out)
              clear hk1
              go_wp2_with fail
              go_ret
              exact ⟨by rw [Hcode.out]; rfl, hb1.trans (hbl.mono hb1.size)⟩
        · have hNe : ((N : Int) != (m : Int)) = true := by rw [bne_iff_ne]; omega
          have Hcode := hid (show codeT s (d + 1) left t v = 24 by rw [Hhead.out, if_pos (.inr (.inr (.inr hNm)))])
          clear hx hb hNm hl0 hw2 hl3 Hhead
          go_enter Tryd.func71, Tryd.ntmps71
          go_wp2_with fail
          ((refine honly.mono ?_); rintro r1 w3 ⟨rfl, hb3⟩)
          clear hw1
          obtain ⟨bs, offs, al, capl, hsa, hbs3, hcl, _, hlm, _, _⟩ := (hs1.below hb3 (Nat.le_refl _)).at_ Hl.out
          subst hsa
          rw [← Hm.out] at hcl hlm
          unfold maxLen at hlm
          have y3 := (hb3.cell (p := ⟨w.heap.size, 3, none⟩) hlt1).trans x3
          go_wp2_with fail
          go_quiet (fail)
          go_wp2_with fail
          go_ret
          exact ⟨by rw [Hcode.out]; rfl, hb1.trans ((hb3.trans (below_drewN _ _ _)).mono hb1.size)⟩
      · rw [show decide (Node.num v = 0#64 ∧ (Node.bytes v).size = 0 ∧ Q = 0) = false from decide_eq_false hh] at honly
        have Hc := hid (show codeT s (d + 1) left t v = 24 by
          rw [Hhead.out, if_pos]
          by_cases h1 : Node.num v = 0#64
          · by_cases h2 : (Node.bytes v).size = 0
            · exact .inr (.inr (.inl fun h3 => hh ⟨h1, h2, h3⟩))
            · exact .inr (.inl h2)
          · exact .inl h1)
        clear hh hl0 hw2 hl3
        go_enter Tryd.func71, Tryd.ntmps71
        go_wp2_with fail
        ((refine honly.mono ?_); rintro r1 w3 ⟨rfl, hb3⟩)
        clear hw1
        go_wp2_with fail
        go_quiet (fail)
        go_wp2_with fail
        go_ret
        exact ⟨by rw [Hc.out]; rfl, hb1.trans ((hb3.trans (below_drewN _ _ _)).mono hb1.size)⟩
end SRStrct

section SRTCheck
open Go.RowKit

set_option maxHeartbeats 2000000 in
theorem rtcheck_any (s : Schema) (sv : Value) (d : Nat) (t : Int) (v : St d) (cs : List Value) (w : World) (hs : Sch w sv s) (h : RdS d w cs v) :
    Calls Tryd.prog 49 #[sv, .int .i64 t, .agg cs.toArray] w fun r w' => r = .returned (.int .i64 (checkC s d t v)) ∧ Below w.heap.size w w' := by
  cases d with
  | zero => exact nomatch v
  | succ d =>
    obtain ⟨a2, p2, a, cap, hcs, hbs, hn, hk, hnm, hkm⟩ := RdN.open h
    obtain ⟨sa, scap, hsv, _, _, hsm⟩ := hs.shape
    unfold maxLen at hsm
    subst hcs
    obtain ⟨w1, hw1, hb1, hlt1, hbox⟩ := boxed w #[U (Node.num v), .string (Node.bytes v), .slice a2 (Node.nums v).length p2, .slice a (Node.kids v).length cap] 32
    have x0 : w1.cell? ⟨w.heap.size, 0, none⟩ = some (U (Node.num v)) := hbox 0
    have x1 : w1.cell? ⟨w.heap.size, 1, none⟩ = some (.string (Node.bytes v)) := hbox 1
    have x2 : w1.cell? ⟨w.heap.size, 2, none⟩ = some (.slice a2 (Node.nums v).length p2) := hbox 2
    have x3 : w1.cell? ⟨w.heap.size, 3, none⟩ = some (.slice a (Node.kids v).length cap) := hbox 3
    have hs1 := hs.below hb1 (Nat.le_refl _)
    have h1 := h.below hb1 (Nat.le_refl _)
    have hck := rright_any s sv w1 hs1
    have Hlook := hid (fun (hr : rightB s = true) W (hW : Below w1.heap.size w1 W) (tn : Nat) (ht : tn < s.length) => strct_any s hr sv (d + 1) 5 (by omega) tn ht v _ W (hs1.below hW (Nat.le_refl _)) (h1.below hW (Nat.le_refl _)))
    obtain ⟨n, hn2⟩ : ∃ n, n = s.length := ⟨_, rfl⟩
    have Hn := hid hn2
    rw [← hn2] at hsm hsv
    subst hsv
    clear hs h hs1 h1 hk hn hn2 hbox hbs
    by_cases hr : rightB s = true
    · by_cases ht : 0 ≤ t ∧ t < n
      · obtain ⟨tn, rfl⟩ : ∃ tn : Nat, t = (tn : Int) := ⟨t.toNat, by omega⟩
        have Hc := hid (show checkC s (d + 1) tn v = codeT s (d + 1) 5 tn v by rw [checkC, if_pos ⟨hr, ht.1, by rw [← Hn.out]; exact ht.2⟩])
        rw [hr] at hck
        obtain ⟨ht0, ht1⟩ := ht
        have hlook := hid (fun W hW => Hlook.out hr W hW tn (by rw [← Hn.out]; omega))
        clear hr
        generalize codeT s (d + 1) 5 tn v = c at *
        go_enter Tryd.func49, Tryd.ntmps49
        go_wp2_with fail
        ((refine hck.mono ?_); rintro r1 w2 ⟨rfl, hb2⟩)
        replace x0 := (hb2.cell hlt1).trans x0
        replace x1 := (hb2.cell hlt1).trans x1
        replace x2 := (hb2.cell hlt1).trans x2
        replace x3 := (hb2.cell hlt1).trans x3
        clear hw1
        go_wp2_with fail
        ((refine (hlook.out _ hb2).mono ?_); rintro r2 w3 ⟨rfl, hb3⟩)
        go_wp2
        go_ret
        exact ⟨by rw [Hc.out]; rfl, hb1.trans ((hb2.trans (hb3.mono hb2.size)).mono hb1.size)⟩
      · have Hc := hid (show checkC s (d + 1) t v = 1 by rw [checkC, if_neg (by rw [← Hn.out]; exact fun h => ht h.2)])
        rw [hr] at hck
        clear hr
        rcases Int.lt_or_le t 0 with ht0 | ht0
        all_goals
          (try have ht1 : (n : Int) ≤ t := by omega)
          clear ht
          go_enter Tryd.func49, Tryd.ntmps49
          go_wp2_with fail
          ((refine hck.mono ?_); rintro r1 w2 ⟨rfl, hb2⟩)
          clear hw1
          go_wp2
          go_ret
          exact ⟨by rw [Hc.out]; rfl, hb1.trans (hb2.mono hb1.size)⟩
    · have Hc := hid (show checkC s (d + 1) t v = 1 by rw [checkC, if_neg (fun h => hr h.1)])
      rw [show rightB s = false from by simpa using hr] at hck
      clear hr
      go_enter Tryd.func49, Tryd.ntmps49
      go_wp2_with fail
      ((refine hck.mono ?_); rintro r1 w2 ⟨rfl, hb2⟩)
      clear hw1
      go_wp2
      go_ret
      exact ⟨by rw [Hc.out]; rfl, hb1.trans (hb2.mono hb1.size)⟩
end SRTCheck

end Go.Proofs.YtblbhlgihlgncaaDoor

