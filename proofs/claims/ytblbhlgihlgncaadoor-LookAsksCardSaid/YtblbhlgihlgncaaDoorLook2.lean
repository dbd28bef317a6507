/- look.Start, the chapter's example, and LookNil: the walks. -/
import Derived.Test.YtblbhlgihlgncaaDoorLook
import Derived.Deep.AppendLies
import Derived.Test.YtblbhlgihlgncaaDoorAw
set_option linter.unusedVariables false
set_option linter.unusedSimpArgs false
namespace Go.Proofs.YtblbhlgihlgncaaDoor
section SLook2
open Go.RowKit

/-- What Start answers: a walk that asks for the path's first field. -/
def StartP (w : World) (sv : Value) (t ask : Int) (p0 p1 : Int) (r : Ending) (w' : World) : Prop :=
  ∃ B b c, r = .returned (.pointer (some ⟨B, 0, none⟩)) ∧ w.heap.size ≤ B ∧ w.heap.size ≤ b ∧ b ≠ B ∧ b < w'.heap.size ∧ 2 ≤ c ∧ Below w.heap.size w w' ∧ w'.cell? ⟨b, 0, none⟩ = some (.int .i64 p0) ∧ w'.cell? ⟨b, 1, none⟩ = some (.int .i64 p1) ∧
    WK w' B sv (.int .i64 t) (.slice (some ⟨b, 0, none⟩) 2 c) (.int .i64 ask) (.int .i64 0) (.int .u64 0) (.int .i64 0)

theorem infoInt : (Tryd.prog.info? 3).map (fun i => (i.zero, i.size, i.bytes)) = some (some (.int .i64 0), 1, 8) := by kernel_rfl

theorem two_news {w : World} {b : Nat} {u v : Value} (h0 : w.cell? ⟨b, 0, none⟩ = some u) (h1 : w.cell? ⟨b, 1, none⟩ = some v) : ∀ (j : Nat) (x : Value), [u, v][j]? = some x → w.cell? ((⟨b, 0, none⟩ : Addr).add j) = some x
  | 0, x, h => by obtain rfl := Option.some.inj h; exact h0
  | 1, x, h => by obtain rfl := Option.some.inj h; exact h1
  | j + 2, x, h => by simp at h

set_option maxRecDepth 100000 in
set_option maxHeartbeats 2000000 in
theorem start_any (s : Schema) (sa : Option Addr) (sn sc : Nat) (t at_ p0 p1 : Int) (b c : Nat) (w : World) (hs : Sch w (.slice sa sn sc) s) (hr : rightB s = true) (h0 : 0 ≤ t) (h1 : t < sn)
    (hb : b < w.heap.size) (hc0 : w.cell? ⟨b, 0, none⟩ = some (.int .i64 p0)) (hc1 : w.cell? ⟨b, 1, none⟩ = some (.int .i64 p1)) (hp0 : 0 ≤ p0) (hp1 : p0 < (typeL s t).length) (ha : 0 ≤ at_ ∧ at_ ≤ 1000000) (hp : p0 ≤ 1000000) :
    Calls Tryd.prog 21 #[.slice sa sn sc, .int .i64 t, .int .i64 at_, .slice (some ⟨b, 0, none⟩) 2 c] w (StartP w (.slice sa sn sc) t (at_ + p0) p0 p1) := by
  have hcheck0 := check_any s (.slice sa sn sc) w hs
  rw [hr] at hcheck0
  have hcheck : Calls Tryd.prog 30 #[.slice sa sn sc] w fun r w' => r = .returned .nilIface ∧ Below w.heap.size w w' := hcheck0
  have Hs := hid hs
  have h0d : decide (t < 0) = false := decide_eq_false (by omega)
  have h1d : decide ((sn : Int) ≤ t) = false := decide_eq_false (by omega)
  clear hs hr hcheck0
  obtain ⟨i0, hi0, hz0, hz1, hz2⟩ := info_parts infoInt
  go_enter Tryd.func21, Tryd.ntmps21
  go_wp2_with (first
    | (go_at_call 30; refine hcheck.mono ?_; rintro r1 w1 ⟨rfl, hb1⟩; have q0 := (below_alloc w1 (.cells #[] 3)).cell (p := ⟨b, 0, none⟩) (Nat.lt_of_lt_of_le hb hb1.size) |>.trans ((hb1.cell (p := ⟨b, 0, none⟩) hb).trans hc0); have q1 := (below_alloc w1 (.cells #[] 3)).cell (p := ⟨b, 1, none⟩) (Nat.lt_of_lt_of_le hb hb1.size) |>.trans ((hb1.cell (p := ⟨b, 1, none⟩) hb).trans hc1); have hq := hid (And.intro q0 q1); clear q0 q1)
    | (at_builtin; go_must (refine wpList_append_lies (w := w1.alloc (.cells #[] 3)) rfl (.tmp 24) (.tmp 25) 40 rfl w1.heap.size 3 i0 _ 1 8 Tryd.underlying40 hi0 hz0 hz1 hz2 rfl (by omega) (.slice (some ⟨w1.heap.size, 0, none⟩) 0 0) 0 [] rfl (World.ownsRow_made w1 #[] 0 (Nat.le_refl _) (by simp [maxLen]) rfl) ⟨b, 0, none⟩ 2 c [.int .i64 p0, .int .i64 p1] rfl rfl (two_news hq.out.1 hq.out.2) (by simp [Value.oneCell']) (by omega) (by unfold maxLen; omega) (by omega) (by simp) (w1.heap.size + 1) (by simp) ?_); intro g cap w3 h6 h7 h8 h9))
  have hB3 : Below w.heap.size w w3 := (hb1.alloc hb1.size (.cells #[] 3)).grown h7 (by simp; have := hb1.size; omega) (fun k hk => by
    have : k = w1.heap.size := by simpa [Value.ownBlock] using hk.symm
    subst this; exact hb1.size)
  have hgw : w.heap.size ≤ g := by
    have := hb1.size
    rcases h8 with h8 | h8
    · have : w1.heap.size = g := by simpa [Value.ownBlock] using h8
      omega
    · omega
  have e0 : w3.cell? ⟨g, 0, none⟩ = some (.int .i64 p0) := h6.cellAt 0 (by omega)
  have e1 : w3.cell? ⟨g, 1, none⟩ = some (.int .i64 p1) := h6.cellAt 1 (by omega)
  have hcap : 2 ≤ cap := by
    rcases h6.2 with ⟨e, _⟩ | ⟨g', cap', cur, e, _, _, hn, _⟩
    · cases e
    · obtain ⟨_, _, rfl⟩ := Value.slice.inj e
      omega
  have hk : WK (w3.alloc (.cells #[.slice sa sn sc, .int .i64 0, .slice (some ⟨g, 0, none⟩) 2 cap, .int .i64 0, .int .i64 0, .int .u64 0, .int .i64 0] 103)) w3.heap.size (.slice sa sn sc) (.int .i64 0) (.slice (some ⟨g, 0, none⟩) 2 cap) (.int .i64 0) (.int .i64 0) (.int .u64 0) (.int .i64 0) := by
    refine WK.mk ?_ ?_ ?_ ?_ ?_ ?_ ?_ ?_ (fun j => ?_) <;> simp [go_sem]
  have hbW := hB3.alloc hB3.size (.cells #[.slice sa sn sc, .int .i64 0, .slice (some ⟨g, 0, none⟩) 2 cap, .int .i64 0, .int .i64 0, .int .u64 0, .int .i64 0] 103)
  have f0 := ((below_alloc w3 (.cells #[.slice sa sn sc, .int .i64 0, .slice (some ⟨g, 0, none⟩) 2 cap, .int .i64 0, .int .i64 0, .int .u64 0, .int .i64 0] 103)).cell (p := ⟨g, 0, none⟩) h9).trans e0
  have f1 := ((below_alloc w3 (.cells #[.slice sa sn sc, .int .i64 0, .slice (some ⟨g, 0, none⟩) 2 cap, .int .i64 0, .int .i64 0, .int .u64 0, .int .i64 0] 103)).cell (p := ⟨g, 1, none⟩) h9).trans e1
  have hDD := hB3.size
  have hne : g ≠ w3.heap.size := by omega
  have hW4 : w3.heap.size ≤ (w3.alloc (.cells #[.slice sa sn sc, .int .i64 0, .slice (some ⟨g, 0, none⟩) 2 cap, .int .i64 0, .int .i64 0, .int .u64 0, .int .i64 0] 103)).heap.size := by simp
  generalize w3.alloc (.cells #[.slice sa sn sc, .int .i64 0, .slice (some ⟨g, 0, none⟩) 2 cap, .int .i64 0, .int .i64 0, .int .u64 0, .int .i64 0] 103) = W at *
  generalize w3.heap.size = D at *
  have henter := enter_any s (.slice sa sn sc) t at_ p0 g 0 2 cap W D _ _ _ _ _ hk (by omega) (fun W' hg' => Hs.out.below (hbW.grown hg' (Nat.le_trans hDD hW4) (fun k hk' => by obtain rfl := Option.some.inj hk'; exact hDD)) (Nat.le_refl _)) hne f0 hp0 hp1 ha hp
  clear hk h6 h7 h8 e0 e1 hB3 hq
  ((refine henter.mono ?_); rintro r2 w4 ⟨rfl, hk4, hg4⟩)
  go_wp2_with fail
  go_ret
  refine ⟨D, g, cap, rfl, hDD, hgw, hne, ?_, hcap, hbW.grown hg4 (Nat.le_trans hDD hW4) (fun k hk' => by obtain rfl := Option.some.inj hk'; exact hDD), hg4.cell f0 (fun e => hne (Option.some.inj e)), hg4.cell f1 (fun e => hne (Option.some.inj e)), hk4⟩
  exact Nat.lt_of_lt_of_le h9 (Nat.le_trans hW4 hg4.size)

set_option maxRecDepth 100000 in
set_option maxHeartbeats 2000000 in
theorem awake09 (w : World) : Calls Tryd.prog 8 #[] w fun r w' => r = .returned (.bool true) ∧ Below w.heap.size w w' := by
  have hS := sch_S0 w
  go_enter Tryd.func8, Tryd.ntmps8
  go_wp2_with (fail)
  have hs3 := hS.below (below_alloc _ (.cells #[.int .i64 1, .int .i64 0] 3)) (Nat.le_refl _)
  have q0 : (((w.alloc (.cells #[.int .i64 1, .int .i64 0, .int .i64 3, .int .i64 0] 24)).alloc (.cells #[.slice (some ⟨w.heap.size, 0, none⟩) 2 2] 25)).alloc (.cells #[.int .i64 1, .int .i64 0] 3)).cell? ⟨w.heap.size + 1 + 1, 0, none⟩ = some (.int .i64 1) := (World.cell?_alloc_at _ _ _ _ (by simp)).trans rfl
  have q1 : (((w.alloc (.cells #[.int .i64 1, .int .i64 0, .int .i64 3, .int .i64 0] 24)).alloc (.cells #[.slice (some ⟨w.heap.size, 0, none⟩) 2 2] 25)).alloc (.cells #[.int .i64 1, .int .i64 0] 3)).cell? ⟨w.heap.size + 1 + 1, 1, none⟩ = some (.int .i64 0) := (World.cell?_alloc_at _ _ _ _ (by simp)).trans rfl
  have hb3 := ((below_alloc w (.cells #[.int .i64 1, .int .i64 0, .int .i64 3, .int .i64 0] 24)).alloc (by simp) (.cells #[.slice (some ⟨w.heap.size, 0, none⟩) 2 2] 25)).alloc (by simp; omega) (.cells #[.int .i64 1, .int .i64 0] 3)
  have hlt : w.heap.size + 1 + 1 < (((w.alloc (.cells #[.int .i64 1, .int .i64 0, .int .i64 3, .int .i64 0] 24)).alloc (.cells #[.slice (some ⟨w.heap.size, 0, none⟩) 2 2] 25)).alloc (.cells #[.int .i64 1, .int .i64 0] 3)).heap.size := by simp
  generalize ((w.alloc (.cells #[.int .i64 1, .int .i64 0, .int .i64 3, .int .i64 0] 24)).alloc (.cells #[.slice (some ⟨w.heap.size, 0, none⟩) 2 2] 25)).alloc (.cells #[.int .i64 1, .int .i64 0] 3) = W at *
  generalize w.heap.size + 1 + 1 = pb at *
  generalize w.heap.size + 1 = sb at *
  clear hS
  ((refine (start_any S0 _ 1 1 0 1 1 0 pb 2 W hs3 S0_right (by omega) (by decide) hlt q0 q1 (by omega) (by rw [S0_len]; omega) (by omega) (by omega)).mono ?_); rintro r1 w4 ⟨B, b, c, rfl, hWB, hWb, hne, hbl, hc, hb4, p0, p1, hk4⟩)
  have hs4 := hs3.below hb4 (Nat.le_refl _)
  have hbl4 := hb3.trans (hb4.mono hb3.size)
  have hwB : w.heap.size ≤ B := Nat.le_trans hb3.size hWB
  clear q0 q1 hs3 hb4 hb3 hlt
  go_wp2_with fail
  ((refine (next_ask w4 B (1 + 1) rfl hk4.c3).mono ?_); rintro r2 w5 ⟨rfl, rfl⟩)
  go_wp2_with fail
  ((refine (give_field S0 _ b 0 c w5 B 0 0 _ _ hk4 hs4 hbl hc p0 p1 S0_f1).mono ?_); rintro r2 w6 ⟨rfl, hk6, hg6⟩)
  have hbl6 := hbl4.grown hg6 hbl4.size (fun k hk => by obtain rfl := Option.some.inj hk; exact hwB)
  clear hk4 hs4 p0 p1 hg6 hbl4 hbl hne
  go_wp2_with fail
  ((refine (next_ask w6 B 3 rfl hk6.c3).mono ?_); rintro r2 w7 ⟨rfl, rfl⟩)
  go_wp2_with fail
  ((refine (give_num w7 B 5 _ _ _ _ _ hk6).mono ?_); rintro r2 w8 ⟨rfl, hk8, hg8⟩)
  have hbl8 := hbl6.grown hg8 hbl6.size (fun k hk => by obtain rfl := Option.some.inj hk; exact hwB)
  clear hk6 hg8 hbl6
  go_wp2_with fail
  ((refine (told_ok w8 B 5 hk8.c3 hk8.c5 hk8.c6).mono ?_); rintro r2 w9 ⟨rfl, hb9⟩)
  go_wp2_with fail
  ((refine (top_nil _).mono ?_); rintro r2 w10 ⟨rfl, hb10⟩)
  go_wp2_with fail
  go_ret
  exact ⟨rfl, via (via hbl8 hb9) hb10⟩

end SLook2

end Go.Proofs.YtblbhlgihlgncaaDoor

