/- schema.Pack. -/
import Derived.Test.YtbhnbjaafejcjaaDoorRight
import Derived.Test.YtbhnbjaafejcjaaDoorSchV
import Derived.Test.YtbhnbjaafejcjaaDoorMade
import Derived.Test.YtbhnbjaafejcjaaDoorPackV
import Derived.IntWalk
import Derived.Handy
import Derived.Deep.LoopGhost
set_option linter.unusedVariables false
namespace Go.Proofs.YtbhnbjaafejcjaaDoor
open Go.RowKit

theorem info64 : (Tryd.prog.info? 41).map (fun i => (i.zero, i.size, i.bytes)) = some (some (.int .u64 0), 1, 8) := by kernel_rfl

theorem digs_append (l m : Fields) : digs (l ++ m) = digs l + 64 ^ l.length * digs m := by
  induction l with
  | nil => simp [digs]
  | cons p l ih => rw [List.cons_append, digs, ih, digs, List.length_cons, Nat.pow_succ]; simp only [Nat.mul_add]; rw [← Nat.mul_assoc, Nat.mul_comm 64 (64 ^ l.length)]; omega
theorem digs_take_succ {l : Fields} {k : Nat} {p : Int × Int} (h : l[k]? = some p) : digs (l.take (k + 1)) = digs (l.take k) + 64 ^ k * digit p := by
  have hk : k < l.length := (List.getElem?_eq_some_iff.1 h).1
  rw [List.take_add_one, h, digs_append, List.length_take, Nat.min_eq_left (Nat.le_of_lt hk)]
  simp [digs]

/-- One field more. -/
theorem pack_step (len D k dg : Nat) (hlen : len < 8) (hD : D < 64 ^ k) (hk : k < 6) (hd : dg < 64) :
    BitVec.ofNat 64 (len + 8 * D) ||| (BitVec.ofNat 64 dg <<< (3 + 6 * k)) = BitVec.ofNat 64 (len + 8 * (D + 64 ^ k * dg)) := by
  have h8 : (2 : Nat) ^ (3 + 6 * k) = 8 * 64 ^ k := by rw [Nat.pow_add, Nat.pow_mul]
  have hlt : len + 8 * D < 2 ^ (3 + 6 * k) := by rw [h8]; omega
  have h6 : 64 ^ k ≤ 64 ^ 5 := Nat.pow_le_pow_right (by decide) (by omega)
  have hm : 64 ^ k * dg ≤ 64 ^ 5 * 63 := Nat.mul_le_mul h6 (by omega)
  apply BitVec.eq_of_toNat_eq
  rw [BitVec.toNat_or, BitVec.toNat_shiftLeft, BitVec.toNat_ofNat, BitVec.toNat_ofNat, BitVec.toNat_ofNat, Nat.shiftLeft_eq, h8]
  have e1 : (len + 8 * D) % 2 ^ 64 = len + 8 * D := Nat.mod_eq_of_lt (by omega)
  have e2 : dg % 2 ^ 64 = dg := Nat.mod_eq_of_lt (by omega)
  have e3 : dg * (8 * 64 ^ k) = 8 * (64 ^ k * dg) := by rw [Nat.mul_comm dg, Nat.mul_assoc]
  rw [e1, e2, e3, Nat.mod_eq_of_lt (show 8 * (64 ^ k * dg) < 2 ^ 64 by omega), Nat.mod_eq_of_lt (show len + 8 * (D + 64 ^ k * dg) < 2 ^ 64 by omega)]
  have := Nat.two_pow_add_eq_or_of_lt hlt dg
  rw [h8] at this
  rw [Nat.or_comm, show 8 * (64 ^ k * dg) = 8 * 64 ^ k * dg by rw [Nat.mul_assoc], ← this]
  rw [Nat.mul_add, Nat.mul_assoc]; omega

def PackP (s : Schema) (w : World) (e : Ending) (w' : World) : Prop := ∃ v, e = .returned v ∧ Below w.heap.size w w' ∧ Row w' 1 v (packS s).length ((packS s).map U)

set_option maxHeartbeats 4000000 in
theorem pack5_no (s : Schema) (v : Value) (w : World) (hs : Sch w v s) (hr : rightB s = false) : Calls Tryd.prog 15 #[v] w (PackP s w) := by
  have hright := right_any s v w hs
  rw [hr] at hright
  have Hend := hid (show packS s = [] by rw [packS, hr]; rfl)
  clear hr hs
  go_enter Tryd.func15, Tryd.ntmps15
  go_wp2_with ((refine hright.mono ?_); rintro r1 w1 ⟨rfl, hb1⟩)
  go_ret
  exact ⟨_, rfl, hb1, by rw [Hend.out]; exact Row.nil _ _⟩

theorem or_small (a b : Nat) (ha : a < 8) (hb : b < 8) : bits .or .i64 ((a : Int) * 8) (b : Int) = ((a * 8 + b : Nat) : Int) := by
  have key : ∀ (a b : Fin 8), bits .or .i64 (((a : Nat) : Int) * 8) ((b : Nat) : Int) = (((a : Nat) * 8 + (b : Nat) : Nat) : Int) := by decide
  exact key ⟨a, ha⟩ ⟨b, hb⟩

set_option maxRecDepth 100000 in
set_option maxHeartbeats 4000000 in
theorem pack5_yes (s : Schema) (v : Value) (w : World) (hs : Sch w v s) (hr : rightB s = true) : Calls Tryd.prog 15 #[v] w (PackP s w) := by
  obtain ⟨i0, hi0, hz0, hz1, hz2⟩ := info_parts info64
  have hright := right_any s v w hs
  rw [hr] at hright
  obtain ⟨a, cap, rfl, hnc, hcm, hmost⟩ := hs.shape
  have hsm := right_small hr
  have Hend := hid (show packS s = s.map (fun l => BitVec.ofNat 64 (packN l)) by rw [packS, hr]; rfl)
  have hs8 := hsm.2.1
  have Hsm := hid hsm.2.2
  clear hr hsm
  obtain ⟨n, hn⟩ : ∃ n, n = s.length := ⟨_, rfl⟩
  rw [← hn] at hs hright hs8 hnc
  have Hn := hid hn
  rw [← hn]
  clear hn hmost
  go_enter Tryd.func15, Tryd.ntmps15
  go_wp2_with ((refine hright.mono ?_); rintro r1 w1 ⟨rfl, hb1⟩)
  clear hright
  go_loopw [3, 14] (fun out i wr => ∃ k : Nat, k ≤ n ∧ i = .int .i64 k ∧ Below w.heap.size w wr ∧ wr.ownsRow w.heap.size 41 1 out k (((s.take k).map (fun l => BitVec.ofNat 64 (packN l))).map U)) (fun _ i _ => n - (intOf i).toNat)
  case atStart => exact ⟨0, Nat.zero_le _, rfl, hb1, own_nil _ _ _ _⟩
  case round =>
    clear hb1
    obtain ⟨k, hk, rfl, hbl, hown⟩ := hrel
    by_cases hlt : k < n
    · obtain ⟨l, hl⟩ := get_lt (l := s) (i := k) (by rw [← Hn.out]; exact hlt)
      obtain ⟨b, off, a2, cap2, rfl, hbb, hc, hf, hlm, hlc, hcm2⟩ := (hs.below hbl (Nat.le_refl _)).at_ hl
      have hl6 := (Hsm.out l (List.mem_of_getElem? hl)).2.1
      have Hsml := hid (Hsm.out l (List.mem_of_getElem? hl)).2.2
      obtain ⟨m, hm⟩ : ∃ m, m = l.length := ⟨_, rfl⟩
      rw [← hm] at hc hf hlm hlc hl6
      have Hm := hid hm
      have Hl := hid hl
      clear hm hl
      go_wp2_with fail
      obtain ⟨wo, rfl⟩ : ∃ wo : World, wo = wr := ⟨_, rfl⟩
      have hwo := hbl.size
      clear hc
      go_loopw [6, 23] (fun x j wr => ∃ i : Nat, i ≤ m ∧ j = .int .i64 i ∧ x = U (BitVec.ofNat 64 (m + 8 * digs (l.take i))) ∧ Below wo.heap.size wo wr) (fun _ j _ => m - (intOf j).toNat)
      case atStart => exact ⟨0, Nat.zero_le _, rfl, rfl, Below.refl _ _⟩
      case round =>
        obtain ⟨i, hi, rfl, rfl, hbi⟩ := hrel
        by_cases hil : i < m
        · obtain ⟨p, hp⟩ := get_lt (l := l) (i := i) (by rw [← Hm.out]; exact hil)
          obtain ⟨b2, off2, rfl, hbb2, c1, c2⟩ := (hf.below hbi (Nat.le_refl _)).at_ hp
          have hps := Hsml.out p (List.mem_of_getElem? hp)
          have hDlt : digs (l.take i) < 64 ^ i := by
            have := digs_lt (l.take i) (fun q hq => Hsml.out q (List.mem_of_mem_take hq))
            rwa [List.length_take, Nat.min_eq_left (by rw [← Hm.out]; exact hi)] at this
          obtain ⟨x0, y0, z0, t0⟩ := hps
          obtain ⟨kd, ty⟩ := p
          obtain ⟨kd, rfl⟩ : ∃ q : Nat, kd = q := ⟨kd.toNat, by simp only at x0; omega⟩
          obtain ⟨ty, rfl⟩ : ∃ q : Nat, ty = q := ⟨ty.toNat, by simp only at z0; omega⟩
          have hor := or_small ty kd (by simp only at t0; omega) (by simp only at y0; omega)
          have Hstep := hid (show BitVec.ofNat 64 (m + 8 * digs (l.take i)) ||| (BitVec.ofNat 64 (ty * 8 + kd) <<< (3 + 6 * i)) = BitVec.ofNat 64 (m + 8 * digs (l.take (i + 1))) by
            rw [digs_take_succ hp]
            refine pack_step m _ i _ (by omega) hDlt (by omega) ?_
            simp only at y0 t0
            show ((ty : Int)).toNat * 8 + ((kd : Int)).toNat < 64
            omega)
          clear hDlt hp hf
          generalize digs (l.take i) = D at *
          simp only at c1 c2
          have hofI : BitVec.ofInt 64 ((ty : Int) * 8 + (kd : Int)) = BitVec.ofNat 64 (ty * 8 + kd) := by rw [← BitVec.ofInt_natCast]; simp
          have HofI := hid hofI
          clear hofI
          go_wp2_with fail
          go_roundw
          case rel => exact ⟨i + 1, by omega, by go_num, by rw [HofI.out, Hstep.out], hbi.trans ((below_alloc _ _).mono hbi.size)⟩
          case measure => simp [intOf] <;> omega
        · obtain rfl : i = m := by omega
          have hfull : i + 8 * digs (l.take i) = packN l := by rw [packN, ← Hm.out, show l.take i = l from List.take_of_length_le (by rw [← Hm.out]; exact Nat.le_refl _)]
          rw [hfull]
          obtain ⟨a5, c5, rfl⟩ := own_shape hown
          have ho6 := own_beneath hown hbi
          have hbl6 := hbl.trans (hbi.mono hbl.size)
          have Hnext := hid (show ((s.take (k + 1)).map (fun l => BitVec.ofNat 64 (packN l))).map U = ((s.take k).map (fun l => BitVec.ofNat 64 (packN l))).map U ++ [U (BitVec.ofNat 64 (packN l))] by
            rw [List.take_add_one, Hl.out]; simp)
          generalize BitVec.ofNat 64 (packN l) = x at *
          generalize ((s.take k).map (fun l => BitVec.ofNat 64 (packN l))).map U = xs at *
          have ho7 := own_beneath ho6 (below_alloc wr (.cells #[U x] 41))
          have hbl7 := hbl6.trans ((below_alloc wr (.cells #[U x] 41)).mono hbl6.size)
          clear hown hbi ho6 hbl6 hfull hf
          go_wp2_with (at_builtin; go_must (refine wpList_append_own _ rfl (.tmp 42) (.tmp 44) 36 rfl w.heap.size 41 i0 _ 1 8 Tryd.underlying36 hi0 hz0 hz1 hz2 rfl (by omega) _ k _ rfl ho7 ⟨wr.heap.size, 0, none⟩ 1 1 [U x] rfl rfl (news_at _ _ rfl #[U x] 41) (by simp) (by unfold maxLen; omega) (by omega) hbl7.size ?_); intro v6 w6 ho8 hg8 _)
          have hb8 := below_own hbl7 ho7 (Nat.le_refl _) hg8 hbl7.size
          clear ho7 hg8
          go_roundw
          case rel => exact ⟨k + 1, by omega, by go_num, hb8, by rw [Hnext.out]; exact ho8⟩
          case measure => simp [intOf] <;> omega
    · obtain rfl : k = n := by omega
      go_wp2_with fail
      go_ret
      refine ⟨_, rfl, hbl, ?_⟩
      rw [Hend.out]
      have h := Row.of_owns hown
      rw [show s.take k = s from List.take_of_length_le (by rw [← Hn.out]; exact Nat.le_refl _)] at h
      have e : (s.map (fun l => BitVec.ofNat 64 (packN l))).length = k := by rw [List.length_map]; exact Hn.out.symm
      rw [e]; exact h
end Go.Proofs.YtbhnbjaafejcjaaDoor

