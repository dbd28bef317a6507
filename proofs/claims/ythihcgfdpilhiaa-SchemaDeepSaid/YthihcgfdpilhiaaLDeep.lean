/- SchemaDeep: the walk. -/
import Derived.Test.YthihcgfdpilhiaaSDeep
import Derived.Test.YthihcgfdpilhiaaSchGet
import Derived.Test.YthihcgfdpilhiaaAw5
import Derived.Test.YthihcgfdpilhiaaMade
set_option linter.unusedVariables false
namespace Go.Proofs.Ythihcgfdpilhiaa
open Go.RowKit

def mostF (f : Int → Nat) (n : Nat) (p : Int × Int) : Nat := if 4 ≤ p.1 then max n (f p.2) else n

theorem fold_min (f : Int → Nat) (r : Nat) : ∀ (l : Fields) (n : Nat), l.foldl (mostF (fun u => min (f u) r)) (min n r) = min (l.foldl (mostF f) n) r
  | [], n => rfl
  | p :: l, n => by
    rw [List.foldl_cons, List.foldl_cons]
    have e : mostF (fun u => min (f u) r) (min n r) p = min (mostF f n p) r := by
      unfold mostF
      split
      · show max (min n r) (min (f p.2) r) = min (max n (f p.2)) r
        omega
      · rfl
    rw [e, fold_min f r l]
theorem deepR_succ (s : Schema) (r : Nat) (t : Int) : deepR s (r + 1) t = (typeL s t).foldl (mostF (deepR s r)) 0 + 1 := rfl
theorem deepR_min (s : Schema) : ∀ r t, deepR s r t = min (deepR s (r + 1) t) r
  | 0, t => by rw [Nat.min_zero]; rfl
  | r + 1, t => by
    rw [deepR_succ, deepR_succ]
    have e : (deepR s r) = fun u => min (deepR s (r + 1) u) r := funext fun u => deepR_min s r u
    have := fold_min (deepR s (r + 1)) r (typeL s t) 0
    rw [Nat.zero_min] at this
    rw [e, this]
    omega
theorem deep_law (s : Schema) (t : Int) : deepL s 6 t = min ((typeL s t).foldl (mostF (deepL s 6)) 0 + 1) 6 := by
  have e6 : deepL s 6 = deepR s 6 := funext fun u => deepL_eq s 5 u
  rw [e6, deepR_succ]
  have e : (deepR s 5) = fun u => min (deepR s 6 u) 5 := funext fun u => deepR_min s 5 u
  have := fold_min (deepR s 6) 5 (typeL s t) 0
  rw [Nat.zero_min] at this
  rw [e, this]
  omega
theorem most_take_succ {f : Int → Nat} {l : Fields} {k : Nat} {p : Int × Int} (h : l[k]? = some p) : (l.take (k + 1)).foldl (mostF f) 0 = mostF f ((l.take k).foldl (mostF f) 0) p := by
  rw [List.take_add_one, h]; simp
theorem most_le (s : Schema) (l : Fields) : l.foldl (mostF (deepL s 6)) 0 ≤ 6 :=
  foldl_le (b := 6) (fun n p h => by
    unfold mostF
    split
    · exact Nat.max_le.2 ⟨h, deepL_le s 5 _⟩
    · exact h) l 0 (Nat.zero_le _)

theorem made5 (l : List Int) (v : Value) (w : World) (hr : Row w 1 v l.length (l.map (Value.int .i64))) (hb : ∀ z ∈ l, -9223372036854775808 ≤ z ∧ z ≤ 9223372036854775807) :
    Calls Try.prog 5 #[v] w fun r w' => ∃ u, r = .returned u ∧ Below w.heap.size w w' ∧ Sch w' u (madeS l) := by
  refine (made_any l v w hr hb).mono fun r w' ⟨u, h1, h2, h3⟩ => ⟨u, h1, h2, ?_⟩
  obtain ⟨vs, g1, g2⟩ := h3
  exact ⟨vs, Row.of_owns g1, fun i f hf => by obtain ⟨x, hx, hxr⟩ := g2 i f hf; exact ⟨x, hx, Row.of_owns hxr⟩⟩

set_option maxRecDepth 100000 in
set_option maxHeartbeats 4000000 in
theorem deep_walk (l : List Int) (v : Value) (w : World) (hu : Row w 1 v l.length (l.map (Value.int .i64))) (hbl : ∀ z ∈ l, -9223372036854775808 ≤ z ∧ z ≤ 9223372036854775807) :
    Calls Try.prog 3 #[v] w fun r w' => r = .returned (.bool true) ∧ Below w.heap.size w w' := by
  have hok := madeS_ok l
  have hr := hok.1
  have hs4 := hok.2.2.1
  have mA := fun W h => made5 l v W h hbl
  generalize madeS l = s at *
  have HU := hid hu
  clear hu hbl hok
  go_enter Try.func3, Try.ntmps3
  go_wp2_with (go_at_call 4; refine (awake05 _).mono ?_; rintro r1 w1 ⟨rfl, h1⟩)
  ((refine (mA _ (HU.out.below h1 (Nat.le_refl _))).mono ?_); rintro r2 w2 ⟨sv, rfl, h2, hsa⟩)
  have hb2 := via h1 h2
  clear h1 h2 mA
  obtain ⟨a, cap, rfl, hnc, hcm, hmost⟩ := hsa.shape
  obtain ⟨n, hn⟩ : ∃ n, n = s.length := ⟨_, rfl⟩
  rw [← hn] at hsa hnc hs4 hmost ⊢
  have Hn := hid hn
  clear hn hmost
  have Hdeep := hid (fun W (hW : Below w2.heap.size w2 W) (t : Int) => sdeep_any s (.slice a n cap) t W (hsa.below hW (Nat.le_refl _)))
  have Hkind := hid (fun W (hW : Below w2.heap.size w2 W) (t i : Int) => kind_any s (.slice a n cap) t i W (hsa.below hW (Nat.le_refl _)))
  have Htype := hid (fun W (hW : Below w2.heap.size w2 W) (t i : Int) => type_any s (.slice a n cap) t i W (hsa.below hW (Nat.le_refl _)))
  have Hnf := hid (fun W (hW : Below w2.heap.size w2 W) (t : Int) => nfields_any s (.slice a n cap) t W (hsa.below hW (Nat.le_refl _)))
  have Hin := hid (fun (u : Nat) (h : u < n) => show deepV s u = deepL s 6 u by rw [deepV, if_pos ⟨hr, by omega, by rw [← Hn.out]; omega⟩])
  have Hf := hid (fun k l (hl : s[k]? = some l) p (hp : p ∈ l) => right_field hr hl hp)
  have Hlen := hid (right_small hr).2.2
  clear hr
  go_wp2_with fail
  go_loopw [5] (fun i wr => ∃ k : Nat, k ≤ n ∧ i = .int .i64 k ∧ Below w2.heap.size w2 wr) (fun i _ => n - (intOf i).toNat)
  case atStart => exact ⟨0, Nat.zero_le _, rfl, Below.refl _ _⟩
  case round =>
    obtain ⟨k, hk, rfl, hbr⟩ := hrel
    by_cases hlt : k < n
    · obtain ⟨l, hl⟩ := get_lt (l := s) (i := k) (by rw [← Hn.out]; exact hlt)
      have hd := Hdeep.out wr hbr k
      rw [Hin.out k hlt] at hd
      have hty := typeL_at hl
      have hl6 := (Hlen.out l (List.mem_of_getElem? hl)).2.1
      have hnf := fun W hW => Hnf.out W hW k
      have Hlaw := hid (show deepL s 6 k = min (l.foldl (mostF (deepL s 6)) 0 + 1) 6 by have := deep_law s k; rw [hty] at this; exact this)
      have hdb := deepL_le s 5 k
      rw [hty] at hnf
      obtain ⟨m, hm⟩ : ∃ m, m = l.length := ⟨_, rfl⟩
      rw [← hm] at hnf hl6
      have Hm := hid hm
      have Hl := hid hl
      have Hty := hid hty
      generalize deepL s 6 (k : Int) = dk at *
      clear hm hl hty
      go_wp2_with (go_at_call 6; refine hd.mono ?_; rintro r1 w3 ⟨rfl, hb3⟩)
      have hbr3 := via hbr hb3
      clear hb3 hbr hd
      go_loopw [7, 8] (fun ms i wr => ∃ j : Nat, j ≤ m ∧ i = .int .i64 j ∧ ms = .int .i64 ((l.take j).foldl (mostF (deepL s 6)) 0 : Nat) ∧ Below w2.heap.size w2 wr) (fun _ i _ => m - (intOf i).toNat)
      case atStart => exact ⟨0, Nat.zero_le _, rfl, rfl, hbr3⟩
      case round =>
        clear hbr3
        obtain ⟨j, hj, rfl, rfl, hbi⟩ := hrel
        have hnfj := hnf wr hbi
        by_cases hjl : j < m
        · obtain ⟨p, hp⟩ := get_lt (l := l) (i := j) (by rw [← Hm.out]; exact hjl)
          have hmle := most_le s (l.take j)
          have Hst := hid (most_take_succ (f := deepL s 6) hp)
          have hfp : fieldP s k j = p := fieldP_at (by rw [Hty.out]; exact hp)
          have hkd := Hkind.out wr hbi k j
          have hty := fun W hW => Htype.out W hW k j
          rw [hfp] at hkd
          have Hpf := hid (Hf.out k l Hl.out p (List.mem_of_getElem? hp))
          obtain ⟨kd, ty⟩ := p
          have hty' : ∀ W, Below w2.heap.size w2 W → Calls Try.prog 9 #[.slice a n cap, .int .i64 k, .int .i64 j] W fun r w' => r = .returned (.int .i64 ty) ∧ Below W.heap.size W w' := fun W hW => by
            have := hty W hW; rw [hfp] at this; exact this
          have hkd' : Calls Try.prog 8 #[.slice a n cap, .int .i64 k, .int .i64 j] wr fun r w' => r = .returned (.int .i64 kd) ∧ Below wr.heap.size wr w' := hkd
          clear hp hfp hkd hty
          generalize (l.take j).foldl (mostF (deepL s 6)) 0 = x at *
          obtain ⟨p1, p2, p3, p4⟩ := Hpf.out
          simp only at p1 p2 p3 p4
          by_cases h4 : 4 ≤ kd
          · obtain ⟨u, rfl⟩ : ∃ u : Nat, ty = u := ⟨ty.toNat, by omega⟩
            have hun : u < n := by have := Hn.out; omega
            have hdu := fun W hW => Hdeep.out W hW u
            rw [Hin.out u hun] at hdu
            have hdl := deepL_le s 5 u
            have hS := hid (show mostF (deepL s 6) x (kd, (u : Int)) = max x (deepL s 6 u) by unfold mostF; rw [if_pos h4])
            generalize deepL s 6 (u : Int) = du at *
            have h4d : decide (4 ≤ kd) = true := decide_eq_true h4
            by_cases hmx : x < du
            · have hM := hid (show mostF (deepL s 6) x (kd, (u : Int)) = du by rw [hS.out]; omega)
              have f1 : (x : Int) < (du : Int) := by omega
              have f2 : decide ((x : Int) < (du : Int)) = true := decide_eq_true f1
              go_wp2_with (first
                | (go_at_call 7; refine hnfj.mono ?_; rintro r3 w4 ⟨rfl, rfl⟩)
                | (go_at_call 8; refine hkd'.mono ?_; rintro r3 w5 ⟨rfl, hb5⟩; have hb5' := via hbi hb5)
                | (go_at_call 9; refine (hty' _ hb5').mono ?_; rintro r3 w6 ⟨rfl, hb6⟩; have hb6' := via hb5' hb6)
                | (go_at_call 6; refine (hdu _ hb6').mono ?_; rintro r3 w7 ⟨rfl, hb7⟩; have hb7' := via hb6' hb7))
              go_roundw
              case rel => exact ⟨j + 1, by omega, by go_num, by rw [Hst.out, hM.out], hb7'⟩
              case measure => simp [intOf] <;> omega
            · have hM := hid (show mostF (deepL s 6) x (kd, (u : Int)) = x by rw [hS.out]; omega)
              have f1 : ¬ ((x : Int) < (du : Int)) := by omega
              have f2 : decide ((x : Int) < (du : Int)) = false := decide_eq_false f1
              go_wp2_with (first
                | (go_at_call 7; refine hnfj.mono ?_; rintro r3 w4 ⟨rfl, rfl⟩)
                | (go_at_call 8; refine hkd'.mono ?_; rintro r3 w5 ⟨rfl, hb5⟩; have hb5' := via hbi hb5)
                | (go_at_call 9; refine (hty' _ hb5').mono ?_; rintro r3 w6 ⟨rfl, hb6⟩; have hb6' := via hb5' hb6)
                | (go_at_call 6; refine (hdu _ hb6').mono ?_; rintro r3 w7 ⟨rfl, hb7⟩; have hb7' := via hb6' hb7))
              go_roundw
              case rel => exact ⟨j + 1, by omega, by go_num, by rw [Hst.out, hM.out], hb7'⟩
              case measure => simp [intOf] <;> omega
          · have hM := hid (show mostF (deepL s 6) x (kd, ty) = x by unfold mostF; rw [if_neg h4])
            have h4d : decide (4 ≤ kd) = false := decide_eq_false h4
            go_wp2_with (first
              | (go_at_call 7; refine hnfj.mono ?_; rintro r3 w4 ⟨rfl, rfl⟩)
              | (go_at_call 8; refine hkd'.mono ?_; rintro r3 w5 ⟨rfl, hb5⟩; have hb5' := via hbi hb5))
            go_roundw
            case rel => exact ⟨j + 1, by omega, by go_num, by rw [Hst.out, hM.out], hb5'⟩
            case measure => simp [intOf] <;> omega
        · obtain rfl : j = m := by omega
          have hle := most_le s l
          rw [show l.take j = l from List.take_of_length_le (by rw [← Hm.out]; exact Nat.le_refl _)]
          have hlaw := Hlaw.out
          generalize l.foldl (mostF (deepL s 6)) 0 = x at *
          by_cases h6 : x + 1 ≤ 6
          · obtain rfl : dk = x + 1 := by omega
            have f1 : ¬ ((6 : Int) < (x : Int) + 1) := by omega
            have f3 : ((x : Int) + 1) ≤ 6 := by omega
            clear hlaw
            go_wp2_with (go_at_call 7; refine hnfj.mono ?_; rintro r3 w4 ⟨rfl, rfl⟩)
            go_roundw
            case rel => exact ⟨k + 1, by omega, by go_num, hbi⟩
            case measure => simp [intOf] <;> omega
          · obtain rfl : x = 6 := by omega
            obtain rfl : dk = 6 := by omega
            clear hlaw
            go_wp2_with (go_at_call 7; refine hnfj.mono ?_; rintro r3 w4 ⟨rfl, rfl⟩)
            go_roundw
            case rel => exact ⟨k + 1, by omega, by go_num, hbi⟩
            case measure => simp [intOf] <;> omega
    · obtain rfl : k = n := by omega
      have hda := fun W hW => Hdeep.out W hW k
      have hdb := fun W hW => Hdeep.out W hW (-1)
      rw [show deepV s k = 0 by rw [deepV, if_neg (fun h => by have := Hn.out; omega)]] at hda
      rw [show deepV s (-1) = 0 by rw [deepV, if_neg (fun h => by omega)]] at hdb
      have e0 : ((0 : Nat) : Int) = 0 := rfl
      rw [e0] at hda hdb
      go_wp2_with (fail)
      ((refine (hda _ hbr).mono ?_); rintro r3 w3 ⟨rfl, h3⟩)
      have hbr3 := via hbr h3
      go_wp2_with (fail)
      ((refine (hdb _ hbr3).mono ?_); rintro r3 w4 ⟨rfl, h4⟩)
      go_wp2_with fail
      go_ret
      exact ⟨rfl, via hb2 (via hbr3 h4)⟩

theorem row_len {w : World} {v : Value} {n : Nat} {l : List Int} (h : Row w 1 v n (l.map (Value.int .i64))) : Row w 1 v l.length (l.map (Value.int .i64)) := by
  have := h.len
  have e : l.length = n := by simpa using this
  rw [e]; exact h
theorem law_SchemaDeep (u : Value) (n : Nat) (l : List Int) (w : World) (hu : Row w 1 u n (l.map (Value.int .i64))) (hb : ∀ z ∈ l, -9223372036854775808 ≤ z ∧ z ≤ 9223372036854775807) :
    Calls Try.prog 3 #[u] w fun r w' => r = .returned (.bool true) ∧ Below w.heap.size w w' := deep_walk l u w (row_len hu) hb
end Go.Proofs.Ythihcgfdpilhiaa

