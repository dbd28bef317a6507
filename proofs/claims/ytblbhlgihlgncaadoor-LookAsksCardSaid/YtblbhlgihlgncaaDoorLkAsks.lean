/- Layer 9's asks: of right words a walk asks for words of them alone, and is told what Path tells. -/
import Derived.Test.YtblbhlgihlgncaaDoorWkS
import Derived.Test.YtblbhlgihlgncaaDoorGr
import Derived.Test.YtblbhlgihlgncaaDoorRCheck
import Derived.Test.YtblbhlgihlgncaaDoorAs2
set_option linter.unusedVariables false
set_option linter.unusedSimpArgs false
namespace Go.Proofs.YtblbhlgihlgncaaDoor
section SLkAsks
open Go.RowKit

/-- A walk that was given m words. -/
structure AskS (w4 : World) (s : Schema) (ws : List (BitVec 64)) (sv : Value) (l : List Int) (B b c : Nat) (R : BitVec 64 × Int) (m : Nat) (g : WSt) (wr : World) : Prop where
  wk : WkS wr B sv b 0 c l g
  gr : w4.grownBy wr (some B)
  go : Goes s ws l (l.length - m) g R
def AskRel (w4 : World) (s : Schema) (ws : List (BitVec 64)) (sv : Value) (l : List Int) (B b c : Nat) (R : BitVec 64 × Int) (nv iv : Value) (wr : World) : Prop :=
  ∃ (m : Nat) (g : WSt), m ≤ l.length ∧ nv = .int .i64 m ∧ iv = .int .i64 m ∧ AskS w4 s ws sv l B b c R m g wr
theorem AskS.more {w4 : World} {s : Schema} {ws : List (BitVec 64)} {sv : Value} {l : List Int} {B b c : Nat} {R : BitVec 64 × Int} {m : Nat} {g : WSt} {wr : World} (h : AskS w4 s ws sv l B b c R m g wr) (hm : m ≤ l.length) (ha : g.ask ≠ -1) :
    m + 1 ≤ l.length ∧ AskOk s ws.length l g ∧ Goes s ws l (l.length - (m + 1)) (giveV s l g (ws.getD g.ask.toNat 0#64)) R := by
  have hgo := h.go
  obtain ⟨k, hk⟩ : ∃ k, l.length - m = k := ⟨_, rfl⟩
  rw [hk] at hgo
  cases k with
  | zero => exact absurd hgo.1 ha
  | succ k =>
    rcases hgo with h1 | ⟨h1, h2⟩
    · exact absurd h1.1 ha
    · refine ⟨by omega, h1, ?_⟩
      rw [show l.length - (m + 1) = k by omega]
      exact h2
theorem AskS.fin {w4 : World} {s : Schema} {ws : List (BitVec 64)} {sv : Value} {l : List Int} {B b c : Nat} {R : BitVec 64 × Int} {m : Nat} {g : WSt} {wr : World} (h : AskS w4 s ws sv l B b c R m g wr) (ha : g.ask = -1) : g.n = R.1 ∧ g.code = R.2 := by
  have hgo := h.go
  obtain ⟨k, hk⟩ : ∃ k, l.length - m = k := ⟨_, rfl⟩
  rw [hk] at hgo
  cases k with
  | zero => exact hgo.2
  | succ k =>
    rcases hgo with h1 | ⟨h1, h2⟩
    · exact h1.2
    · have := h1.ask.1; omega

set_option maxRecDepth 100000 in
set_option maxHeartbeats 8000000 in
/-- Words that are not right. -/
theorem asks_none {s : Schema} {ws : List (BitVec 64)} {sv wv pv : Value} {w : World} (hs : Sch w sv s) (hw : Row w 1 wv ws.length (ws.map U)) (hA : (allW s ws).1 ≠ 0) :
    Calls Tryd.prog 11 #[sv, wv, pv] w fun r w' => r = .returned (.bool true) ∧ Below w.heap.size w w' := by
  have hrc := hid (rcheck_any s ws sv wv w hs hw)
  unfold lookC at hrc
  obtain ⟨wa, wc, rfl, -⟩ := hw.open
  obtain ⟨sa, scap, hsv, -⟩ := hs.shape
  subst hsv
  obtain ⟨⟨e, p, n⟩, hA2⟩ : ∃ r, allW s ws = r := ⟨_, rfl⟩
  rw [hA2] at hrc hA
  simp only at hrc hA
  obtain ⟨pd, hpd⟩ : ∃ pd : Int, ((p.getD 0 : Nat) : Int) = pd := ⟨_, rfl⟩
  obtain ⟨ps, hps⟩ : ∃ ps, p.isSome = ps := ⟨_, rfl⟩
  rw [hpd, hps] at hrc
  obtain ⟨L, hL⟩ : ∃ L, L = ws.length := ⟨_, rfl⟩
  obtain ⟨ns, hns⟩ : ∃ ns, ns = s.length := ⟨_, rfl⟩
  rw [← hL, ← hns] at hrc ⊢
  clear hs hw hL hA2 hpd hps hns
  go_enter Tryd.func11, Tryd.ntmps11
  go_wp2_with fail
  ((refine hrc.out.mono ?_); rintro r1 w1 ⟨rfl, hb1⟩)
  obtain ⟨w2, hw2, hb2, hlt2, hbox⟩ := boxed w1 #[.int .i64 e, .int .i64 pd, .bool ps, .int .i64 (n : Int)] 77
  have hb12 := via hb1 hb2
  have d0 := hbox 0
  simp only [List.getElem?_toArray, List.getElem?_cons_zero] at d0
  have hne : (e != 0) = true := by simpa using hA
  clear hbox hrc hA
  go_wp2_with fail
  go_returns
  exact ⟨rfl, hb12⟩

set_option maxRecDepth 100000 in
set_option maxHeartbeats 8000000 in
theorem asks_right {s : Schema} {ws : List (BitVec 64)} {l : List Int} {sv wv pv : Value} {w : World} (hl : LaidE w) (hs : Sch w sv s) (hw : Row w 1 wv ws.length (ws.map U)) (hp : Ints w pv l) (hl8 : l.length ≤ 8) (hlb : ∀ z ∈ l, -1 ≤ z ∧ z ≤ 7) (hA : (allW s ws).1 = 0) :
    Calls Tryd.prog 11 #[sv, wv, pv] w fun r w' => r = .returned (.bool true) ∧ Below w.heap.size w w' := by
  obtain ⟨hr, hL0, hL200, hlo, hhi, hv⟩ := all_vis hA
  have hgo := goes_start (l := l) hA
  obtain ⟨x, hx⟩ : ∃ x, x = ws.getD 0 0#64 := ⟨_, rfl⟩
  rw [← hx] at hv hlo hhi hgo
  obtain ⟨tn, htn⟩ : ∃ tn, tn = hiN x := ⟨_, rfl⟩
  rw [← htn] at hv hhi hgo
  have HT : decT s ws = ((tn : Nat) : Int) := by rw [htn, hx]; exact if_pos hA
  have HV : decV s ws = decS s ws 4 (tn : Nat) 1 := by rw [htn, hx]; exact if_pos hA
  obtain ⟨R, hR⟩ : ∃ R, R = getC s 5 (tn : Nat) (decS s ws 4 (tn : Nat) 1) l := ⟨_, rfl⟩
  rw [← hR] at hgo
  have Hgo := hid hgo
  have hpn : pathN s ws l = R.1 := by rw [hR, pathN, if_pos hA, HT, HV]
  have hrc := hid (rcheck_any s ws sv wv w hs hw)
  have hpath := hid fun W (hW : Below w.heap.size w W) => show Calls Tryd.prog 29 #[sv, wv, pv] W (fun r W' => r = .returned (.tuple #[U R.1, ErrV R.2]) ∧ Below W.heap.size W W') from
    (lpath_any s ws l sv wv pv W (hs.below hW (Nat.le_refl _)) (hw.below hW (Nat.le_refl _)) (Row.below hp hW (Nat.le_refl _))).mono fun r W' ⟨u, h1, h2, h3, _⟩ => ⟨by rw [h1, h3 hA, hpn, HT, HV, ← hR], h2⟩
  have hla := hid fun W (hW : Below w.heap.size w W) => LaidE.below hl hW (LaidE.pos hl)
  have hbd : ∀ j, -1000000 ≤ l.getD j 0 ∧ l.getD j 0 ≤ 1000000 := fun j => by
    rw [List.getD_eq_getElem?_getD]
    by_cases hj : j < l.length
    · rw [List.getElem?_eq_getElem hj, Option.getD_some]
      have := hlb _ (List.getElem_mem hj)
      omega
    · rw [List.getElem?_eq_none (by omega)]; simp
  obtain ⟨wa, wc, rfl, -, -, hwc⟩ := hw.open
  obtain ⟨wb, woff, rfl, hwb, hwc⟩ := hwc hL0
  obtain ⟨pa, pc, rfl, -⟩ := Row.open hp
  obtain ⟨sa, scap, hsv, -⟩ := hs.shape
  obtain ⟨ns, hns⟩ : ∃ ns, ns = s.length := ⟨_, rfl⟩
  rw [← hns] at hsv
  subst hsv
  have hstart := hid fun W (hW : Below w.heap.size w W) => startq_any s sa ns scap (tn : Int) l W _ (hs.below hW (Nat.le_refl _)) hr (by omega) (by omega) (Row.below hp hW (Nat.le_refl _)) (by omega) hbd
  have Hcell := hid fun W (hW : Below w.heap.size w W) (j : Nat) (hj : j < ws.length) => show W.cell? ⟨wb, woff + j, none⟩ = some (U (ws.getD j 0#64)) from by
    rw [hW.cell (p := ⟨wb, woff + j, none⟩) hwb, hwc j (by omega), List.getElem?_map, List.getD_eq_getElem?_getD, List.getElem?_eq_getElem hj]; rfl
  obtain ⟨L, hL⟩ : ∃ L, L = ws.length := ⟨_, rfl⟩
  obtain ⟨M, hM⟩ : ∃ M, M = l.length := ⟨_, rfl⟩
  rw [← hL] at hrc hpath Hcell hL0 hL200 ⊢
  rw [← hM] at hpath hstart hl8 ⊢
  have Hx := hid hx
  have Hsh := hid (show ((x.toNat : Int) >>> (32 : Nat)) = (tn : Int) by rw [htn, hiN, Int.shiftRight_eq_div_pow]; omega)
  have HL := hid hL
  have HM := hid hM
  have Hr := hid hr
  unfold lookC at hrc
  obtain ⟨pd, hpd⟩ : ∃ pd : Int, (((allW s ws).2.1.getD 0 : Nat) : Int) = pd := ⟨_, rfl⟩
  obtain ⟨ps, hps⟩ : ∃ ps, (allW s ws).2.1.isSome = ps := ⟨_, rfl⟩
  obtain ⟨nn, hnn⟩ : ∃ nn : Int, (((allW s ws).2.2 : Nat) : Int) = nn := ⟨_, rfl⟩
  rw [hpd, hps, hA, hnn] at hrc
  clear hs hw hp hl hL hM hpd hps hnn hA hr hx htn hgo hwc hbd hlb hv hlo HT HV hpn hR hhi hns
  go_enter Tryd.func11, Tryd.ntmps11
  go_wp2_with fail
  ((refine hrc.out.mono ?_); rintro r1 w1 ⟨rfl, hb1⟩)
  obtain ⟨w2, hw2, hb2, hlt2, hbox⟩ := boxed w1 #[.int .i64 0, .int .i64 pd, .bool ps, .int .i64 nn] 77
  have hb12 := via hb1 hb2
  have d0 := hbox 0
  simp only [List.getElem?_toArray, List.getElem?_cons_zero] at d0
  have y0 := Hcell.out w2 hb12 0 hL0
  rw [Nat.add_zero, ← Hx.out] at y0
  clear hbox hrc
  go_wp2_with fail
  rw [Hsh.out]
  ((refine (hstart.out _ hb12).mono ?_); rintro r4 w4 ⟨B, b, c, rfl, hwB, hne, hbl, hb4, hk4, hD4⟩)
  have hb14 := via hb12 hb4
  have hrel0 := hid (show AskRel w4 s ws (.slice sa ns scap) l B b c R (.int .i64 0) (.int .i64 0) w4 from ⟨0, _, Nat.zero_le _, rfl, rfl, hk4, World.grownBy.refl w4 (some B), Hgo.out⟩)
  have Hk4 := hid hk4
  have HD := hid hD4
  have hgt := Nat.lt_of_lt_of_le hwb (Nat.le_refl _)
  clear hw2 d0 y0 hk4 hD4 hstart Hsh
  go_wp2_with fail
  go_loopw [9, 10] (fun nv iv wr => AskRel w4 s ws (.slice sa ns scap) l B b c R nv iv wr) (fun _ iv _ => M - (intOf iv).toNat)
  case atStart => exact hrel0.out
  case round =>
    clear hrel0
    obtain ⟨m, g, hm, rfl, rfl, h⟩ := hrel
    rw [← HM.out] at hm
    have hbr : Below w.heap.size w wr := hb14.grown h.gr (Nat.le_trans hb12.size hb4.size) (fun k hk => by obtain rfl := Option.some.inj hk; have := hb12.size; omega)
    have c3 := h.wk.c3
    by_cases ha : g.ask = -1
    · rw [ha] at c3
      have hf := hid (h.fin ha)
      have c5 := h.wk.c5
      have c6 := h.wk.c6
      go_wp2_with (first
        | (go_at_call 22; refine (next_idle _ _ c3).mono ?_; rintro r5 w5 ⟨rfl, rfl⟩))
      ((refine (told_any _ B _ _ c3 c5 c6).mono ?_); rintro r6 w6 ⟨rfl, hb6⟩)
      have hb16 := via hbr hb6
      rw [hf.out.2, show Value.int .u64 (g.n.toNat : Int) = U R.1 from congrArg U hf.out.1]
      clear c3 c5 c6 h
      have hmM : (m : Int) ≤ (M : Int) := by omega
      go_wp2_with (first
        | (go_at_call 29; refine (hpath.out _ hb16).mono ?_; rintro r7 w7 ⟨rfl, hb7⟩))
      have hb17 := via hb16 hb7
      ((refine (top_errW (p := none) (hla.out _ hb17) (rfl : ErrV R.2 = ErrV R.2)).mono ?_); rintro r14 w14 ⟨rfl, hb14⟩)
      have hb18 := via hb17 hb14
      go_wp2_with fail
      ((refine (top_errW (p := none) (hla.out _ hb18) (rfl : ErrV R.2 = ErrV R.2)).mono ?_); rintro r15 w15 ⟨rfl, hb15⟩)
      go_wp2_with fail
      go_returns
      exact ⟨rfl, via hb18 hb15⟩
    · have hL := HL.out
      have hM := HM.out
      obtain ⟨hm1, hok, hgo1⟩ := h.more (by omega) ha
      obtain ⟨ak, hak⟩ : ∃ k : Nat, g.ask = k := ⟨g.ask.toNat, by have := hok.ask; omega⟩
      have hask := hok.ask
      rw [hak] at hask c3 hgo1
      rw [Int.toNat_natCast] at hgo1
      rw [← hL] at hask
      have hz : ((ak : Int) == -1) = false := by rw [beq_eq_false_iff_ne]; omega
      have y := Hcell.out wr hbr ak (by omega)
      have hgive := give_all (ws.getD ak 0#64) h.wk (HD.out.next h.gr) hne (Nat.lt_of_lt_of_le hbl h.gr.size) (.inr ⟨by have := hok.ask; omega, by have := hok.ask; omega, hok.k⟩) hok.last (fun _ h0 => hok.fld h0)
      have Hrel := hid fun W (hq : WkS W B (.slice sa ns scap) b 0 c l (giveV s l g (ws.getD ak 0#64))) (hg : wr.grownBy W (some B)) => show AskRel w4 s ws (.slice sa ns scap) l B b c R (.int .i64 (m + 1 : Nat)) (.int .i64 (m + 1 : Nat)) W from
        ⟨m + 1, _, hm1, rfl, rfl, hq, grown_more h.gr hg (fun g e => .inr e), hgo1⟩
      have hk1 : ¬ ((ak : Int) < 1) := by omega
      have hkL : ¬ ((L : Int) ≤ (ak : Int)) := by omega
      have hw1 : IntKind.i64.wrap ((m : Int) + 1) = ((m + 1 : Nat) : Int) := by rw [IntWalk.i64_in _ (by omega)]; omega
      generalize ws.getD ak 0#64 = x2 at *
      have hm2 : m + 1 ≤ M := by omega
      clear hL hM hok hgo1 h hgt
      go_wp2_with (first
        | (go_at_call 22; refine (next_ask _ _ _ hz c3).mono ?_; rintro r5 w5 ⟨rfl, rfl⟩)
        | (go_at_call 23; refine hgive.mono ?_; rintro r5 w6 ⟨rfl, hq6, hg6⟩))
      have hrel2 := hid (Hrel.out w6 hq6 hg6)
      go_roundw
      case rel => exact hrel2.out
      case measure => simp [intOf] <;> omega
theorem asks_any {s : Schema} {ws : List (BitVec 64)} {l : List Int} {sv wv pv : Value} {w : World} (hl : LaidE w) (hs : Sch w sv s) (hw : Row w 1 wv ws.length (ws.map U)) (hp : Ints w pv l) (hl8 : l.length ≤ 8) (hlb : ∀ z ∈ l, -1 ≤ z ∧ z ≤ 7) :
    Calls Tryd.prog 11 #[sv, wv, pv] w fun r w' => r = .returned (.bool true) ∧ Below w.heap.size w w' := by
  by_cases hA : (allW s ws).1 = 0
  · exact asks_right hl hs hw hp hl8 hlb hA
  · exact asks_none hs hw hA
end SLkAsks

end Go.Proofs.YtblbhlgihlgncaaDoor

