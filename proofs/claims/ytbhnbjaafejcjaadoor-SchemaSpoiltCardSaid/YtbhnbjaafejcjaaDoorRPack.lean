/- The document's Pack, of schemas. -/
import Derived.Test.YtbhnbjaafejcjaaDoorSPack
import Derived.Test.YtbhnbjaafejcjaaDoorRRight
import Derived.Deep.QuietTactic
import Derived.BigQuiet
set_option linter.unusedVariables false
namespace Go.Proofs.YtbhnbjaafejcjaaDoor
open Go.RowKit

def RPackP (s : Schema) (w : World) (e : Ending) (w' : World) : Prop := ∃ v, e = .returned v ∧ Below w.heap.size w w' ∧ w'.ownsRow w.heap.size 41 1 v (packS s).length ((packS s).map U)

set_option maxHeartbeats 4000000 in
theorem rpack5_no (s : Schema) (v : Value) (w : World) (hs : Sch w v s) (hr : rightB s = false) : Calls Tryd.prog 17 #[v] w (RPackP s w) := by
  have hright := rright_any s v w hs
  rw [hr] at hright
  have Hend := hid (show packS s = [] by rw [packS, hr]; rfl)
  clear hr hs
  go_enter Tryd.func17, Tryd.ntmps17
  go_wp2_with ((refine hright.mono ?_); rintro r1 w1 ⟨rfl, hb1⟩)
  go_ret
  exact ⟨_, rfl, hb1, by rw [Hend.out]; exact own_nil _ _ _ _⟩

theorem rpack_step (D ty kd : Nat) : BitVec.ofNat 64 D * 64#64 + BitVec.ofNat 64 ty * 8#64 + BitVec.ofNat 64 kd = BitVec.ofNat 64 (ty * 8 + kd + 64 * D) := by
  rw [show (64#64 : BitVec 64) = BitVec.ofNat 64 64 from rfl, show (8#64 : BitVec 64) = BitVec.ofNat 64 8 from rfl, ← BitVec.ofNat_mul, ← BitVec.ofNat_mul, ← BitVec.ofNat_add, ← BitVec.ofNat_add]
  congr 1; omega
theorem rpack_last (D m : Nat) : BitVec.ofNat 64 D * 8#64 + BitVec.ofNat 64 m = BitVec.ofNat 64 (m + 8 * D) := by
  rw [show (8#64 : BitVec 64) = BitVec.ofNat 64 8 from rfl, ← BitVec.ofNat_mul, ← BitVec.ofNat_add]
  congr 1; omega
theorem digs_drop {l : Fields} {r : Nat} {p : Int × Int} (h : l[r]? = some p) : digs (l.drop r) = digit p + 64 * digs (l.drop (r + 1)) := by
  have hr : r < l.length := (List.getElem?_eq_some_iff.1 h).1
  rw [List.drop_eq_getElem_cons hr, digs]
  congr 2
  exact Option.some.inj ((List.getElem?_eq_getElem hr).symm.trans h)

set_option maxRecDepth 100000 in
set_option maxHeartbeats 4000000 in
theorem rpack5_yes (s : Schema) (v : Value) (w : World) (hs : Sch w v s) (hr : rightB s = true) : Calls Tryd.prog 17 #[v] w (RPackP s w) := by
  obtain ⟨i0, hi0, hz0, hz1, hz2⟩ := info_parts info64
  have hright := rright_any s v w hs
  rw [hr] at hright
  obtain ⟨a, cap, rfl, hnc, hcm, hmost⟩ := hs.shape
  have hsm := right_small hr
  have Hend := hid (show packS s = s.map (fun l => BitVec.ofNat 64 (packN l)) by rw [packS, hr]; rfl)
  have hs8 := hsm.2.1
  have Hsm := hid hsm.2.2
  clear hr hsm
  obtain ⟨n, hn⟩ : ∃ n, n = s.length := ⟨_, rfl⟩
  rw [← hn] at hs hright hs8 hnc
  have Hn := hid hn
  rw [← hn]
  clear hn hmost
  go_enter Tryd.func17, Tryd.ntmps17
  go_wp2_with ((refine hright.mono ?_); rintro r1 w1 ⟨rfl, hb1⟩)
  clear hright
  go_loopw [4, 5] (fun out i wr => ∃ k : Nat, k ≤ n ∧ i = .int .i64 k ∧ Below w.heap.size w wr ∧ wr.ownsRow w.heap.size 41 1 out k (((s.take k).map (fun l => BitVec.ofNat 64 (packN l))).map U)) (fun _ i _ => n - (intOf i).toNat)
  case atStart => exact ⟨0, Nat.zero_le _, rfl, hb1, own_nil _ _ _ _⟩
  case round =>
    clear hb1
    obtain ⟨k, hk, rfl, hbl, hown⟩ := hrel
    by_cases hlt : k < n
    · obtain ⟨l, hl⟩ := get_lt (l := s) (i := k) (by rw [← Hn.out]; exact hlt)
      obtain ⟨b, off, a2, cap2, rfl, hbb, hc, hf, hlm, hlc, hcm2⟩ := (hs.below hbl (Nat.le_refl _)).at_ hl
      have hl6 := (Hsm.out l (List.mem_of_getElem? hl)).2.1
      have hl1 := (Hsm.out l (List.mem_of_getElem? hl)).1
      have Hsml := hid (Hsm.out l (List.mem_of_getElem? hl)).2.2
      obtain ⟨m, hm⟩ : ∃ m, m = l.length := ⟨_, rfl⟩
      rw [← hm] at hc hf hlm hlc hl6 hl1
      have Hm := hid hm
      have Hl := hid hl
      clear hm hl
      obtain ⟨wo, rfl⟩ : ∃ wo : World, wo = wr := ⟨_, rfl⟩
      have hwo := hbl.size
      have hm1 : IntKind.i64.wrap ((m : Int) - 1) = (m : Int) - 1 := IntWalk.i64_in _ (by omega)
      go_wp2_with fail
      go_loopw [6, 7] (fun x j wr => ∃ r : Nat, r ≤ m ∧ j = .int .i64 ((r : Int) - 1) ∧ x = U (BitVec.ofNat 64 (digs (l.drop r))) ∧ Below wo.heap.size wo wr) (fun _ j _ => (intOf j + 1).toNat)
      case atStart => exact ⟨m, Nat.le_refl _, rfl, by rw [List.drop_of_length_le (by rw [← Hm.out]; exact Nat.le_refl _)]; rfl, Below.refl _ _⟩
      case round =>
        obtain ⟨r, hrm, rfl, rfl, hbi⟩ := hrel
        have hc2 := (hbi.cell (p := ⟨b, off + k, none⟩) hbb).trans hc
        cases r with
        | succ r =>
          obtain ⟨p, hp⟩ := get_lt (l := l) (i := r) (by rw [← Hm.out]; omega)
          obtain ⟨b2, off2, rfl, hbb2, q1, q2⟩ := (hf.below hbi (Nat.le_refl _)).at_ hp
          have hps := Hsml.out p (List.mem_of_getElem? hp)
          obtain ⟨x0, y0, z0, t0⟩ := hps
          obtain ⟨kd, ty⟩ := p
          obtain ⟨kd, rfl⟩ : ∃ q : Nat, kd = q := ⟨kd.toNat, by simp only at x0; omega⟩
          obtain ⟨ty, rfl⟩ : ∃ q : Nat, ty = q := ⟨ty.toNat, by simp only at z0; omega⟩
          have Hstep := hid (show BitVec.ofNat 64 (digs (l.drop (r + 1))) * 64#64 + BitVec.ofNat 64 ty * 8#64 + BitVec.ofNat 64 kd = BitVec.ofNat 64 (digs (l.drop r)) by
            rw [rpack_step, digs_drop hp]; rfl)
          simp only at q1 q2
          clear hp x0 y0 z0 t0 hf
          generalize digs (l.drop (r + 1)) = D at *
          have e1 : ((r + 1 : Nat) : Int) - 1 = (r : Int) := by omega
          rw [e1]
          have hrb : (r : Int) < (m : Int) := by omega
          have hrn : r < m := by omega
          have hwr : IntKind.i64.wrap ((r : Int) - 1) = (r : Int) - 1 := IntWalk.i64_in _ (by omega)
          clear e1 hc
          go_wp2_with fail
          go_quiet (fail)
          go_wp2_with fail
          go_roundw
          case rel => exact ⟨r, by omega, rfl, by rw [Hstep.out], hbi.trans (below_drewN _ _ _)⟩
          case measure => simp [intOf] <;> omega
        | zero =>
          rw [List.drop_zero]
          obtain ⟨a5, c5, rfl⟩ := own_shape hown
          have ho6 := own_beneath hown hbi
          have hbl6 := hbl.trans (hbi.mono hbl.size)
          have Hnext := hid (show ((s.take (k + 1)).map (fun l => BitVec.ofNat 64 (packN l))).map U = ((s.take k).map (fun l => BitVec.ofNat 64 (packN l))).map U ++ [U (BitVec.ofNat 64 (digs l) * 8#64 + BitVec.ofNat 64 m)] by
            rw [List.take_add_one, Hl.out, rpack_last, Hm.out]; simp [packN])
          generalize digs l = D at *
          generalize ((s.take k).map (fun l => BitVec.ofNat 64 (packN l))).map U = xs at *
          have ho7 := own_beneath ho6 (below_alloc wr (.cells #[U (BitVec.ofNat 64 D * 8#64 + BitVec.ofNat 64 m)] 41))
          have hbl7 := hbl6.trans ((below_alloc wr (.cells #[U (BitVec.ofNat 64 D * 8#64 + BitVec.ofNat 64 m)] 41)).mono hbl6.size)
          clear hown hbi ho6 hbl6 hf hc
          show Code.wp _ _ _ _ _
          have e0 : ((0 : Nat) : Int) - 1 = -1 := rfl
          rw [e0]
          go_wp2_with (at_builtin; go_must (refine wpList_append_own _ rfl (.tmp 51) (.tmp 61) 36 rfl w.heap.size 41 i0 _ 1 8 Tryd.underlying36 hi0 hz0 hz1 hz2 rfl (by omega) _ k _ rfl ho7 ⟨wr.heap.size, 0, none⟩ 1 1 [U (BitVec.ofNat 64 D * 8#64 + BitVec.ofNat 64 m)] rfl rfl (news_at _ _ rfl #[U (BitVec.ofNat 64 D * 8#64 + BitVec.ofNat 64 m)] 41) (by simp) (by unfold maxLen; omega) (by omega) hbl7.size ?_); intro v6 w6 ho8 hg8 _)
          have hb8 := below_own hbl7 ho7 (Nat.le_refl _) hg8 hbl7.size
          clear ho7 hg8
          go_roundw
          case rel => exact ⟨k + 1, by omega, by go_num, hb8, by rw [Hnext.out]; exact ho8⟩
          case measure => simp [intOf] <;> omega
    · obtain rfl : k = n := by omega
      go_wp2_with fail
      go_ret
      refine ⟨_, rfl, hbl, ?_⟩
      rw [Hend.out]
      have h := hown
      rw [show s.take k = s from List.take_of_length_le (by rw [← Hn.out]; exact Nat.le_refl _)] at h
      have e : (s.map (fun l => BitVec.ofNat 64 (packN l))).length = k := by rw [List.length_map]; exact Hn.out.symm
      rw [e]; exact h
end Go.Proofs.YtbhnbjaafejcjaaDoor

