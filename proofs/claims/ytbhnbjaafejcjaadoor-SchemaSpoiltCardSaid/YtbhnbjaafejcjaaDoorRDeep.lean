/- The document's Deep, of schemas. -/
import Derived.Test.YtbhnbjaafejcjaaDoorRRight
import Derived.Test.YtbhnbjaafejcjaaDoorSDeep
import Derived.Test.YtbhnbjaafejcjaaDoorSRead
import Derived.Deep.QuietTactic
import Derived.BigQuiet
set_option linter.unusedVariables false
namespace Go.Proofs.YtbhnbjaafejcjaaDoor
open Go.RowKit

theorem infoInt5 : (Tryd.prog.info? 3).map (fun i => (i.zero, i.size, i.bytes)) = some (some (.int .i64 0), 1, 8) := by kernel_rfl

def rowV (n : Nat) (f : Nat → Int) : List Value := (List.range n).map fun j => .int .i64 (f j)
theorem rowV_get (n : Nat) (f : Nat → Int) (j : Nat) (h : j < n) : (rowV n f)[j]? = some (.int .i64 (f j)) := by
  rw [rowV, List.getElem?_map, List.getElem?_range h]; rfl
theorem rowV_made (n : Nat) : (madeCells (Value.int IntKind.i64 0).cells (n * 1)).toList = rowV n (fun _ => 0) := by
  rw [rowV, madeCells, Nat.mul_one, Array.toList_map, Array.toList_range]
  refine List.map_congr_left fun x _ => ?_
  show (#[Value.int IntKind.i64 0] : Array Value)[x % 1]! = _
  rw [Nat.mod_one]; rfl
def fillF (f : Nat → Nat) (k : Nat) (x : Int) (j : Nat) : Int := if j < k then (f j : Int) else if j = k then x else 0
theorem rowV_set (n : Nat) (f : Nat → Nat) (k : Nat) (x y : Int) : (rowV n (fillF f k x)).set k (.int .i64 y) = rowV n (fillF f k y) := by
  apply List.ext_getElem?
  intro i
  rw [List.getElem?_set]
  by_cases hi : i < n
  · rw [rowV_get _ _ _ hi, rowV_get _ _ _ hi]
    by_cases hk : k = i
    · subst hk; simp [fillF, rowV, hi]
    · rw [if_neg hk]
      unfold fillF
      by_cases h1 : i < k
      · simp [h1]
      · simp [h1, show ¬ i = k from fun e => hk e.symm]
  · have e1 : (rowV n (fillF f k x))[i]? = none := List.getElem?_eq_none (by simp [rowV]; omega)
    have e2 : (rowV n (fillF f k y))[i]? = none := List.getElem?_eq_none (by simp [rowV]; omega)
    rw [e1, e2]
    by_cases hk : k = i
    · subst hk; simp [rowV, hi]
    · simp [hk]
theorem rowV_next (n : Nat) (f : Nat → Nat) (k : Nat) : rowV n (fillF f k (f k : Int)) = rowV n (fillF f (k + 1) 0) := by
  unfold rowV
  refine List.map_congr_left fun j _ => ?_
  congr 1
  unfold fillF
  by_cases h1 : j < k
  · simp [h1, show j < k + 1 by omega]
  · by_cases h2 : j = k
    · subst h2; simp
    · simp [h1, h2, show ¬ j < k + 1 by omega]
theorem rowV_zero (n : Nat) (f : Nat → Nat) : rowV n (fun _ => 0) = rowV n (fillF f 0 0) := by
  unfold rowV
  refine List.map_congr_left fun j _ => ?_
  congr 1
  unfold fillF
  simp
theorem rowV_full (n : Nat) (f : Nat → Nat) : rowV n (fillF f n 0) = rowV n (fun j => (f j : Int)) := by
  unfold rowV
  refine List.map_congr_left fun j hj => ?_
  congr 1
  unfold fillF
  simp [List.mem_range.1 hj]

theorem roundF_succ {s : Schema} {r : Nat} {l : Fields} {i : Nat} {p : Int × Int} (h : l[i]? = some p) :
    (l.take (i + 1)).foldl (fun n p => if 4 ≤ p.1 then max n (deepR s r p.2) else n) 0 = if 4 ≤ p.1 then max ((l.take i).foldl (fun n p => if 4 ≤ p.1 then max n (deepR s r p.2) else n) 0) (deepR s r p.2) else (l.take i).foldl (fun n p => if 4 ≤ p.1 then max n (deepR s r p.2) else n) 0 := by
  rw [List.take_add_one, h]; simp

set_option maxRecDepth 100000 in
set_option maxHeartbeats 4000000 in
theorem rdeep_yes (s : Schema) (v : Value) (t : Nat) (w : World) (hs : Sch w v s) (hr : rightB s = true) (ht : t < s.length) :
    Calls Tryd.prog 55 #[v, .int .i64 t] w fun r w' => r = .returned (.int .i64 (deepR s 6 t)) ∧ Below w.heap.size w w' := by
  obtain ⟨iI, hiI, hzI, hsI, hbI⟩ := info_parts infoInt5
  have hright := rright_any s v w hs
  rw [hr] at hright
  obtain ⟨a, cap, rfl, hnc, hcm, hmost⟩ := hs.shape
  have hsm := right_small hr
  have hs8 := hsm.2.1
  have Hlen := hid hsm.2.2
  have Hf := hid (fun k l (hl : s[k]? = some l) p (hp : p ∈ l) => right_field hr hl hp)
  have Hdr := hid (fun r k => deepR_le s r k)
  clear hr hsm
  obtain ⟨n, hn⟩ : ∃ n, n = s.length := ⟨_, rfl⟩
  rw [← hn] at hs hnc hs8 ht hright ⊢
  have Hn := hid hn
  clear hn hmost
  have hd0 : decide ((t : Int) < 0) = false := decide_eq_false (by omega)
  have hd1 : decide (n ≤ t) = false := decide_eq_false (by omega)
  go_enter Tryd.func55, Tryd.ntmps55
  go_wp2_with (first
    | (go_at_call 47; refine hright.mono ?_; rintro r1 w1 ⟨rfl, hb1⟩; have hb1s := hb1.size)
    | (refine wpList_make_full _ rfl (.tmp 27) (.tmp 27) 22 rfl w.heap.size 3 iI _ 1 Tryd.underlying22 hiI hzI hsI .i64 .i64 (n : Int) (n : Int) n rfl rfl rfl rfl (by rw [hbI]; omega) (by unfold maxLen; omega) hb1s ?_; intro w2 ho2 hg2))
  rw [rowV_made] at ho2
  have hb2 := hb1.grown hg2 hb1s (fun g hg => by cases hg)
  have ho2' : w2.ownsRow w.heap.size 3 1 (.slice (some ⟨w1.heap.size, 0, none⟩) n n) n (rowV n (fun j => (deepR s 0 j : Int))) := ho2
  generalize w1.heap.size = g0 at *
  clear hright hb1 hg2 ho2
  go_loopw [6, 7] (fun dv i wr => ∃ r g : Nat, r ≤ 6 ∧ i = .int .i64 r ∧ dv = .slice (some ⟨g, 0, none⟩) n n ∧ Below w.heap.size w wr ∧ wr.ownsRow w.heap.size 3 1 (.slice (some ⟨g, 0, none⟩) n n) n (rowV n (fun j => (deepR s r j : Int)))) (fun _ i _ => 6 - (intOf i).toNat)
  case atStart => exact ⟨0, g0, Nat.zero_le _, rfl, rfl, hb2, ho2'⟩
  case round =>
    clear hb2 ho2'
    obtain ⟨r, g, hr6, rfl, rfl, hbl, hod⟩ := hrel
    by_cases hlt : r < 6
    · have hbs := hbl.size
      go_wp2_with ((refine wpList_make_full _ rfl (.tmp 34) (.tmp 34) 22 rfl w.heap.size 3 iI _ 1 Tryd.underlying22 hiI hzI hsI .i64 .i64 (n : Int) (n : Int) n rfl rfl rfl rfl (by rw [hbI]; omega) (by unfold maxLen; omega) hbs ?_); intro w3 ho3 hg3)
      rw [rowV_made, rowV_zero n (fun j => deepR s (r + 1) j)] at ho3
      have hb3 := hbl.grown hg3 hbs (fun g hg => by cases hg)
      have hod3 := own_keep hod (fun q hq => hg3.block q (own_blk hod hq).1.lt (by simp))
      obtain ⟨h, hh⟩ : ∃ h, h = wr.heap.size := ⟨_, rfl⟩
      have hne : g ≠ h := by have := (own_blk hod (g := g) rfl).1.lt; omega
      have hhw : w.heap.size ≤ h := by omega
      rw [← hh] at ho3 ⊢
      clear hh hbl hod hg3 hbs
      obtain ⟨wo, rfl⟩ : ∃ wo : World, wo = wr := ⟨_, rfl⟩
      go_loopw [9] (fun i wr => ∃ k : Nat, k ≤ n ∧ i = .int .i64 k ∧ Below w.heap.size w wr ∧ wr.ownsRow w.heap.size 3 1 (.slice (some ⟨g, 0, none⟩) n n) n (rowV n (fun j => (deepR s r j : Int))) ∧ wr.ownsRow w.heap.size 3 1 (.slice (some ⟨h, 0, none⟩) n n) n (rowV n (fillF (fun j => deepR s (r + 1) j) k 0))) (fun i _ => n - (intOf i).toNat)
      case atStart => exact ⟨0, Nat.zero_le _, rfl, hb3, hod3, ho3⟩
      case round =>
        clear hb3 hod3 ho3
        obtain ⟨k, hk, rfl, hbl, hod, hon⟩ := hrel
        by_cases hkn : k < n
        · obtain ⟨l, hl⟩ := get_lt (l := s) (i := k) (by rw [← Hn.out]; exact hkn)
          obtain ⟨b, off, a2, cap2, rfl, hbb, hc, hf, hlm, hlc, hcm2⟩ := (hs.below hbl (Nat.le_refl _)).at_ hl
          have hbw : b < w.heap.size := by
            obtain ⟨b', off', _, _, e, hb', _⟩ := hs.at_ hl
            simp only [Option.some.injEq, Addr.mk.injEq] at e
            omega
          have hl6 := (Hlen.out l (List.mem_of_getElem? hl)).2.1
          have Hty := hid (typeL_at hl)
          have Hpf := hid (Hf.out k l hl)
          obtain ⟨m, hm⟩ : ∃ m, m = l.length := ⟨_, rfl⟩
          rw [← hm] at hc hf hlm hlc hl6
          have Hm := hid hm
          clear hm hl
          have c0 : wr.cell? ⟨h, k, none⟩ = some (.int .i64 0) := by rw [hon.cellAt k (by omega), rowV_get _ _ _ hkn]; simp [fillF]
          have f0 := hon.frozenAt k
          have hon4 := own_set hon k (.int .i64 1)
          rw [rowV_set] at hon4
          have hod4 : (wr.setCell ⟨h, k, none⟩ (.int .i64 1)).ownsRow w.heap.size 3 1 (.slice (some ⟨g, 0, none⟩) n n) n (rowV n (fun j => (deepR s r j : Int))) := own_keep hod (fun q hq => by
            obtain rfl : g = q := by simpa [Value.ownBlock] using hq
            exact Below.heap_setCell _ _ _ _ hne)
          have hbl4 := hbl.setCell (p := ⟨h, k, none⟩) hhw (.int .i64 1)
          go_wp2_with fail
          generalize wr.setCell ⟨h, k, none⟩ (.int .i64 1) = w4 at *
          obtain ⟨F, hF⟩ : ∃ F : Nat → Nat, F = fun i => (l.take i).foldl (fun n p => if 4 ≤ p.1 then max n (deepR s r p.2) else n) 0 := ⟨_, rfl⟩
          have HF := hid (fun i (p : Int × Int) (hp : l[i]? = some p) => show F (i + 1) = if 4 ≤ p.1 then max (F i) (deepR s r p.2) else F i by rw [hF]; exact roundF_succ hp)
          have HFl := hid (show (F m + 1 : Nat) = deepR s (r + 1) k by rw [hF, deepR, Hty.out, Hm.out]; simp only [List.take_length])
          have HFb := hid (fun i => show F i ≤ r by
            rw [hF]
            exact foldl_le (b := r) (fun n p h => by
              show (if 4 ≤ p.1 then max n (deepR s r p.2) else n) ≤ r
              split
              · exact Nat.max_le.2 ⟨h, deepR_le s r _⟩
              · exact h) _ 0 (Nat.zero_le _))
          have HF0 := hid (show F 0 = 0 by rw [hF]; rfl)
          clear hF hc hf hon hod c0 f0 hbl
          go_loopw [10] (fun i wr => ∃ j : Nat, j ≤ m ∧ i = .int .i64 j ∧ Below w.heap.size w wr ∧ wr.ownsRow w.heap.size 3 1 (.slice (some ⟨g, 0, none⟩) n n) n (rowV n (fun j => (deepR s r j : Int))) ∧ wr.ownsRow w.heap.size 3 1 (.slice (some ⟨h, 0, none⟩) n n) n (rowV n (fillF (fun j => deepR s (r + 1) j) k ((F j : Int) + 1)))) (fun i _ => m - (intOf i).toNat)
          case atStart => exact ⟨0, Nat.zero_le _, rfl, hbl4, hod4, by rw [HF0.out]; exact hon4⟩
          case round =>
            clear hbl4 hod4 hon4
            obtain ⟨i, hi, rfl, hbl, hod, hon⟩ := hrel
            have hc := (hs.below hbl (Nat.le_refl _))
            obtain ⟨l', hl'⟩ := get_lt (l := s) (i := k) (by rw [← Hn.out]; exact hkn)
            have hll : l' = l := by have := typeL_at hl'; rw [Hty.out] at this; exact this.symm
            subst hll
            obtain ⟨b5, off5, a5, cap5, e5, hbb5, c5, hf5, hlm5, hlc5, hcm5⟩ := hc.at_ hl'
            simp only [Option.some.injEq, Addr.mk.injEq] at e5
            obtain ⟨rfl, rfl, _⟩ := e5
            rw [← Hm.out] at c5 hf5 hlm5 hlc5
            clear hl' hc
            by_cases him : i < m
            · obtain ⟨p, hp⟩ := get_lt (l := l') (i := i) (by rw [← Hm.out]; exact him)
              obtain ⟨b2, off2, rfl, hbb2, q1, q2⟩ := hf5.at_ hp
              obtain ⟨p1, p2, p3, p4⟩ := Hpf.out p (List.mem_of_getElem? hp)
              have HFs := hid (HF.out i p hp)
              obtain ⟨kd, ty⟩ := p
              simp only at q1 q2 p1 p2 p3 p4
              obtain ⟨ty, rfl⟩ : ∃ q : Nat, ty = q := ⟨ty.toNat, by omega⟩
              have htyn : ty < n := by have := Hn.out; omega
              have hxb := HFb.out i
              have hdb := Hdr.out r ty
              have cd0 : wr.cell? ⟨g, ty, none⟩ = some (.int .i64 (deepR s r ty)) := by rw [hod.cellAt ty (by omega), rowV_get _ _ _ htyn]
              have cx0 : wr.cell? ⟨h, k, none⟩ = some (.int .i64 ((F i : Int) + 1)) := by rw [hon.cellAt k (by omega), rowV_get _ _ _ hkn]; simp [fillF]
              have fx0 := hon.frozenAt k
              have hgl := (own_blk hod (g := g) rfl).1.lt
              have hhl := (own_blk hon (g := h) rfl).1.lt
              obtain ⟨wb, hwb, hbb6, hltb, hboxb⟩ : ∃ wb, wr.alloc (.cells #[.int .i64 kd, .int .i64 (ty : Int)] 30) = wb ∧ Below wr.heap.size wr wb ∧ wr.heap.size < wb.heap.size ∧ (wb.cell? ⟨wr.heap.size, 0, none⟩ = some (.int .i64 kd) ∧ wb.cell? ⟨wr.heap.size, 1, none⟩ = some (.int .i64 (ty : Int))) :=
                ⟨_, rfl, below_alloc _ _, by simp, by simp [go_sem], by simp [go_sem]⟩
              obtain ⟨k0, k1⟩ := hboxb
              have cd := (hbb6.cell (p := ⟨g, ty, none⟩) hgl).trans cd0
              have cx := (hbb6.cell (p := ⟨h, k, none⟩) hhl).trans cx0
              have fx : wb.frozen? ⟨h, k, none⟩ = false := by
                have e := hbb6.block h hhl
                simp only [World.frozen?] at fx0 ⊢
                rw [e]; exact fx0
              have hodb := own_beneath hod hbb6
              have honb := own_beneath hon hbb6
              have hblb := hbl.trans (hbb6.mono hbl.size)
              have hnb : wr.heap.size ≠ h := by omega
              clear hp hf5 hod hon cd0 cx0 fx0
              generalize F i = x at *
              generalize deepR s r (ty : Int) = dv at *
              by_cases h4 : 4 ≤ kd
              · have h4d : decide (4 ≤ kd) = true := decide_eq_true h4
                have hw1 : IntKind.i64.wrap ((dv : Int) + 1) = (dv : Int) + 1 := IntWalk.i64_in _ (by omega)
                by_cases hxd : x < dv
                · have HS := hid (show F (i + 1) = dv by rw [HFs.out, if_pos h4]; omega)
                  have g1 : decide ((x : Int) + 1 < (dv : Int) + 1) = true := decide_eq_true (by omega)
                  have g2 : decide ((x : Int) < (dv : Int)) = true := decide_eq_true (by omega)
                  have g3 : decide (x < dv) = true := decide_eq_true hxd
                  go_wp2_with fail
                  go_quiet (fail)
                  go_wp2_with fail
                  have ho5 := own_set (show (wb.drewN nq).ownsRow w.heap.size 3 1 (.slice (some ⟨h, 0, none⟩) n n) n (rowV n (fillF (fun j => deepR s (r + 1) j) k ((x : Int) + 1))) from honb) k (.int .i64 ((dv : Int) + 1))
                  rw [rowV_set] at ho5
                  have hod5 : ((wb.drewN nq).setCell ⟨h, k, none⟩ (.int .i64 ((dv : Int) + 1))).ownsRow w.heap.size 3 1 (.slice (some ⟨g, 0, none⟩) n n) n (rowV n (fun j => (deepR s r j : Int))) := own_keep (show (wb.drewN nq).ownsRow w.heap.size 3 1 (.slice (some ⟨g, 0, none⟩) n n) n (rowV n (fun j => (deepR s r j : Int))) from hodb) (fun q hq => by
                    obtain rfl : g = q := by simpa [Value.ownBlock] using hq
                    exact Below.heap_setCell _ _ _ _ hne)
                  have hbl5 := (hblb.trans (below_drewN _ wb nq)).setCell (p := ⟨h, k, none⟩) hhw (.int .i64 ((dv : Int) + 1))
                  go_roundw
                  case rel => exact ⟨i + 1, by omega, by go_num, hbl5, hod5, by rw [HS.out]; exact ho5⟩
                  case measure => simp [intOf] <;> omega
                · have HS := hid (show F (i + 1) = x by rw [HFs.out, if_pos h4]; omega)
                  have g1 : decide ((x : Int) + 1 < (dv : Int) + 1) = false := decide_eq_false (by omega)
                  have g2 : decide ((x : Int) < (dv : Int)) = false := decide_eq_false (by omega)
                  have g3 : decide (x < dv) = false := decide_eq_false hxd
                  go_wp2_with fail
                  go_quiet (fail)
                  go_wp2_with fail
                  go_roundw
                  case rel => exact ⟨i + 1, by omega, by go_num, hblb.trans (below_drewN _ _ _), hodb, by rw [HS.out]; exact honb⟩
                  case measure => simp [intOf] <;> omega
              · have HS := hid (show F (i + 1) = x by rw [HFs.out, if_neg h4])
                have h4d : decide (4 ≤ kd) = false := decide_eq_false h4
                go_wp2_with fail
                go_quiet (fail)
                go_wp2_with fail
                go_roundw
                case rel => exact ⟨i + 1, by omega, by go_num, hblb.trans (below_drewN _ _ _), hodb, by rw [HS.out]; exact honb⟩
                case measure => simp [intOf] <;> omega
            · obtain rfl : i = m := by omega
              have hon5 : wr.ownsRow w.heap.size 3 1 (.slice (some ⟨h, 0, none⟩) n n) n (rowV n (fillF (fun j => deepR s (r + 1) j) (k + 1) 0)) := by
                have e : ((F i : Int) + 1) = ((deepR s (r + 1) k : Nat) : Int) := by rw [← HFl.out]; rfl
                rw [e, rowV_next n (fun j => deepR s (r + 1) j) k] at hon
                exact hon
              clear hf5 hon
              go_wp2_with fail
              go_roundw
              case rel => exact ⟨k + 1, by omega, by go_num, hbl, hod, hon5⟩
              case measure => simp [intOf] <;> omega
        · obtain rfl : k = n := by omega
          rw [rowV_full] at hon
          go_wp2_with fail
          go_roundw
          case rel => exact ⟨r + 1, h, by omega, by go_num, rfl, hbl, hon⟩
          case measure => simp [intOf] <;> omega
    · obtain rfl : r = 6 := by omega
      have ct : wr.cell? ⟨g, t, none⟩ = some (.int .i64 (deepR s 6 t)) := by rw [hod.cellAt t (by omega), rowV_get _ _ _ ht]
      clear hod
      go_wp2_with fail
      go_ret
      exact ⟨rfl, hbl⟩
end Go.Proofs.YtbhnbjaafejcjaaDoor

