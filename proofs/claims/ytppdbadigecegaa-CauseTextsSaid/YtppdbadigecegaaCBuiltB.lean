/- Layer 1's built: as CBuilt, and the words are ints (printed by gen_cbuiltb.py). -/
import Derived.Test.YtppdbadigecegaaCBuilt
import Derived.Test.YtppdbadigecegaaCText
set_option linter.unusedVariables false
set_option linter.unusedSimpArgs false
namespace Go.Proofs.Ytppdbadigecegaa
section SCBuiltB
open Go.RowKit

theorem BndW.at_ {L : List (Bool × Int)} (h : BndW L) (p : Int) (hp : -9223372036854775808 ≤ p ∧ p ≤ 9223372036854775807) : BndW (atL L p) := by
  unfold atL
  split
  · intro x hx; cases hx
  · intro x hx _
    rcases List.mem_cons.1 hx with rfl | hx
    · exact hp
    · exact h x hx (by assumption)
theorem BndW.over {L : List (Bool × Int)} (h : BndW L) (c : Int) : BndW (overL c L) := by
  unfold overL
  split
  · exact h
  · intro x hx hb
    rcases List.mem_cons.1 hx with rfl | hx
    · cases hb
    · exact h x hx hb

def BuiltRB (w : World) (N : Nat) (av bv iv : Value) (wr : World) : Prop :=
  ∃ (i : Nat) (L : List (Bool × Int)) (n : Nat), i ≤ N ∧ i ≤ 20 ∧ iv = .int .i64 i ∧ TC wr av L ∧ L.length ≤ i ∧ (GoodL L ∧ BndW L) ∧ ErrR wr bv n ∧ n ≤ i ∧ Below w.heap.size w wr
def BuiltPB (w : World) (r : Ending) (w' : World) : Prop := ∃ av bv L, r = .returned (.tuple #[av, bv]) ∧ TC w' av L ∧ L.length ≤ 20 ∧ (GoodL L ∧ BndW L) ∧ Below w.heap.size w w'

set_option maxRecDepth 100000 in
set_option maxHeartbeats 8000000 in
theorem built_anyB (l : List (Int × Bool × Bool)) (sv : Value) (w : World) (hrow : Row w 3 sv l.length (opsC l)) (hbn : ∀ q ∈ l, -9223372036854775808 ≤ q.1 ∧ q.1 ≤ 9223372036854775807) : Calls Try.prog 5 #[sv] w (BuiltPB w) := by
  obtain ⟨a, cap, rfl, -, hcm, hcell⟩ := hrow.open
  have hmost := hrow.most
  unfold maxLen at hmost
  obtain ⟨N, hN⟩ : ∃ N, N = l.length := ⟨_, rfl⟩
  rw [← hN] at hcell hmost ⊢
  have Hcell := hid fun (i : Nat) (hi : i < N) => show ∃ b off z wd fr, (-9223372036854775808 ≤ z ∧ z ≤ 9223372036854775807) ∧ a = some ⟨b, off, none⟩ ∧ b < w.heap.size ∧ w.cell? ⟨b, off + i * 3, none⟩ = some (.int .i64 z) ∧ w.cell? ⟨b, off + (i * 3 + 1), none⟩ = some (.bool wd) ∧ w.cell? ⟨b, off + (i * 3 + 2), none⟩ = some (.bool fr) from by
    obtain ⟨b, off, e, hb, hc⟩ := hcell (by omega)
    obtain ⟨q, hq⟩ : ∃ q, l[i]? = some q := ⟨l[i], List.getElem?_eq_getElem (by omega)⟩
    obtain ⟨g0, g1, g2⟩ := opsC_at hq
    exact ⟨b, off, q.1, q.2.1, q.2.2, hbn q (List.mem_of_getElem? hq), e, hb, (hc _ (by omega)).trans g0, (hc _ (by omega)).trans g1, (hc _ (by omega)).trans g2⟩
  have hrel0 := hid (show BuiltRB w N .nilIface (.slice none 0 0) (.int .i64 0) w from ⟨0, [], 0, Nat.zero_le _, Nat.zero_le _, rfl, rfl, Nat.le_refl _, ⟨(fun x hx => by cases hx), (fun x hx => by cases hx)⟩, ErrR.nil _, Nat.le_refl _, Below.refl _ _⟩)
  clear hrow hcell hN hbn
  go_enter Try.func5, Try.ntmps5
  go_wp2_with fail
  go_loopw [4, 5, 6] (fun av bv iv wr => BuiltRB w N av bv iv wr) (fun _ _ iv _ => N - (intOf iv).toNat)
  case atStart => exact hrel0.out
  case round =>
    clear hrel0
    obtain ⟨i, L, n, hiN, hi20, rfl, hT, hL, hG, hE, hn, hb⟩ := hrel
    by_cases hlt : i < N ∧ i < 20
    · obtain ⟨hlt, hlt20⟩ := hlt
      obtain ⟨b, off, z, wd, fr, hz, rfl, hbl, g0, g1, g2⟩ := Hcell.out i hlt
      replace g0 := (hb.cell (p := ⟨b, off + i * 3, none⟩) hbl).trans g0
      replace g1 : wr.cell? ⟨b, off + i * 3 + 1, none⟩ = _ := (hb.cell (p := ⟨b, off + (i * 3 + 1), none⟩) hbl).trans g1
      replace g2 : wr.cell? ⟨b, off + i * 3 + 2, none⟩ = _ := (hb.cell (p := ⟨b, off + (i * 3 + 2), none⟩) hbl).trans g2
      have h1 : (i : Int) < (N : Int) := by omega
      have h2 : (i : Int) < 20 := by omega
      obtain ⟨wo, hwo, hbo, hlo, hbox⟩ := boxedC wr #[.int .i64 z, .bool wd, .bool fr] 37
      have o0 : wo.cell? ⟨wr.heap.size, 0, none⟩ = some (.int .i64 z) := hbox 0
      have o1 : wo.cell? ⟨wr.heap.size, 1, none⟩ = some (.bool wd) := hbox 1
      have o2 : wo.cell? ⟨wr.heap.size, 2, none⟩ = some (.bool fr) := hbox 2
      have hTo := hT.below hbo
      have hEo := hE.below hbo
      have hbwo := hb.trans (hbo.mono hb.size)
      have hs1 : wo.setCell ⟨wr.heap.size, 1, none⟩ (.bool wd) = wo := by rw [← hwo]; simp [go_sem]
      have hs2 : wo.setCell ⟨wr.heap.size, 2, none⟩ (.bool fr) = wo := by rw [← hwo]; simp [go_sem]
      have ofz : ∀ j, wo.frozen? ⟨wr.heap.size, j, none⟩ = false := fun j => by rw [← hwo]; simp [go_sem]
      clear hbox
      cases wd with
      | true =>
        have hat := hid (cat_any L _ z wo hTo)
        have hrat := hid fun W (hW : Below wo.heap.size wo W) => rat_any z _ n W (hEo.below hW) (by omega)
        unfold ErrP at hrat
        have Hrel := hid fun (av bv : Value) (M : List (Bool × Int)) (m : Nat) (W : World) (h1 : TC W av M) (h2 : M.length ≤ i + 1) (h3 : GoodL M ∧ BndW M) (h4 : ErrR W bv m) (h5 : m ≤ i + 1) (h6 : Below wo.heap.size wo W) => show BuiltRB w N av bv (.int .i64 (i + 1 : Nat)) W from ⟨i + 1, M, m, by omega, by omega, rfl, h1, h2, h3, h4, h5, hbwo.trans (h6.mono hbwo.size)⟩
        have HG := hid (And.intro (And.intro (hG.1.at_ z) (hG.2.at_ z hz)) (show (atL L z).length ≤ i + 1 by have := atL_len L z; omega))
        clear hT hE hTo hEo hG hz
        cases fr with
        | true =>
          go_wp2_with (first
            | (go_at_call 8; refine hat.out.mono ?_; rintro r1 w1 ⟨av1, rfl, hT1, hb1⟩; replace o0 := (hb1.cell (p := ⟨wr.heap.size, 0, none⟩) hlo).trans o0)
            | (go_at_call 10; refine (hrat.out _ hb1).mono ?_; rintro r2 w2 ⟨bv2, n2, rfl, hE2, hn2, hb2⟩))
          go_roundw
          case rel => exact Hrel.out _ _ _ _ _ (hT1.below hb2) HG.out.2 HG.out.1 hE2 (by omega) (via hb1 hb2)
          case measure => simp [intOf] <;> omega
        | false =>
          go_wp2_with (first
            | (go_at_call 8; refine hat.out.mono ?_; rintro r1 w1 ⟨av1, rfl, hT1, hb1⟩; replace o0 := (hb1.cell (p := ⟨wr.heap.size, 0, none⟩) hlo).trans o0)
            | (go_at_call 10; refine (hrat.out _ hb1).mono ?_; rintro r2 w2 ⟨bv2, n2, rfl, hE2, hn2, hb2⟩))
          go_roundw
          case rel => exact Hrel.out _ _ _ _ _ (hT1.below hb2) HG.out.2 HG.out.1 hE2 (by omega) (via hb1 hb2)
          case measure => simp [intOf] <;> omega
      | false =>
        have hbec := hid fun c => cbecause_any c L _ wo hTo
        have hrbec := hid fun c W (hW : Below wo.heap.size wo W) => rbecause_any c _ n W (hEo.below hW) (by omega)
        unfold ErrP at hrbec
        have Hrel := hid fun (av bv : Value) (M : List (Bool × Int)) (m : Nat) (W : World) (h1 : TC W av M) (h2 : M.length ≤ i + 1) (h3 : GoodL M ∧ BndW M) (h4 : ErrR W bv m) (h5 : m ≤ i + 1) (h6 : Below wo.heap.size wo W) => show BuiltRB w N av bv (.int .i64 (i + 1 : Nat)) W from ⟨i + 1, M, m, by omega, by omega, rfl, h1, h2, h3, h4, h5, hbwo.trans (h6.mono hbwo.size)⟩
        have HG := hid fun c => (And.intro (And.intro (hG.1.over c) (hG.2.over c)) (show (overL c L).length ≤ i + 1 by have := overL_len c L; omega))
        clear hT hE hTo hEo hG hz
        cases fr with
        | true =>
          go_wp2_with (first
            | (go_at_call 7; refine (hbec.out _).mono ?_; rintro r1 w1 ⟨av1, rfl, hT1, hb1⟩)
            | (go_at_call 11; refine (hrbec.out _ _ hb1).mono ?_; rintro r2 w2 ⟨bv2, n2, rfl, hE2, hn2, hb2⟩))
          go_roundw
          case rel => exact Hrel.out _ _ _ _ _ (hT1.below hb2) (HG.out _).2 (HG.out _).1 hE2 (by omega) (via hb1 hb2)
          case measure => simp [intOf] <;> omega
        | false =>
          go_wp2_with (first
            | (go_at_call 7; refine (hbec.out _).mono ?_; rintro r1 w1 ⟨av1, rfl, hT1, hb1⟩)
            | (go_at_call 11; refine (hrbec.out _ _ hb1).mono ?_; rintro r2 w2 ⟨bv2, n2, rfl, hE2, hn2, hb2⟩))
          go_roundw
          case rel => exact Hrel.out _ _ _ _ _ (hT1.below hb2) (HG.out _).2 (HG.out _).1 hE2 (by omega) (via hb1 hb2)
          case measure => simp [intOf] <;> omega
    · have hfin := hid fun bv => show BuiltPB w (.returned (.tuple #[_, bv])) wr from ⟨_, bv, L, rfl, hT, by omega, hG, hb⟩
      by_cases hN2 : i < N
      · have h1 : (i : Int) < (N : Int) := by omega
        have h2 : ¬ (i : Int) < 20 := by omega
        go_wp2_with fail
        go_returns
        exact hfin.out _
      · have h1 : ¬ (i : Int) < (N : Int) := by omega
        go_wp2_with fail
        go_returns
        exact hfin.out _
end SCBuiltB

end Go.Proofs.Ytppdbadigecegaa

