/- valid's look: what a word refers to. -/
import Derived.Test.YtblbhlgihlgncaaDoorVClaim
import Derived.Test.YtblbhlgihlgncaaDoorGo
import Derived.Test.YtblbhlgihlgncaaDoorVRow
import Derived.Test.YtblbhlgihlgncaaDoorGg
set_option linter.unusedVariables false
set_option linter.unusedSimpArgs false
namespace Go.Proofs.YtblbhlgihlgncaaDoor
section SVRefer
open Go.RowKit

def RetL (w : World) (g : Nat) (sv wv : Value) (x : LS) (r : Ending) (w' : World) : Prop := r = EndV x.2 ∧ LkB w' g sv wv x.1 ∧ w.grownBy w' (some g)
def VisC (s : Schema) (ws : List (BitVec 64)) (sv : Value) (a : Option Addr) (cap g : Nat) (w0 : World) (k : Nat) : Prop :=
  ∀ (t : Int) (at' c deep : Nat) (w : World), Below g w0 w → LkB w g sv (.slice a ws.length cap) c → c < ws.length → at' + (typeL s t).length ≤ ws.length → deep + k = 5 →
    Calls Tryd.prog 93 #[.pointer (some ⟨g, 0, none⟩), .int .i64 t, .int .i64 at', .int .i64 deep] w (RetL w g sv (.slice a ws.length cap) (visN s ws k t at' c))
def RefC (s : Schema) (ws : List (BitVec 64)) (sv : Value) (a : Option Addr) (cap g : Nat) (w0 : World) (k : Nat) : Prop :=
  ∀ (kd ty : Int) (p to n c deep : Nat) (w : World), Below g w0 w → LkB w g sv (.slice a ws.length cap) c → c < ws.length → 2 ≤ kd → kd ≤ 5 → 0 < n → n ≤ mostN kd → to ≤ 1000000000000 → deep + k = 5 →
    Calls Tryd.prog 95 #[.pointer (some ⟨g, 0, none⟩), .int .i64 kd, .int .i64 ty, .int .i64 p, .int .i64 to, .int .i64 n, .int .i64 deep] w (RetL w g sv (.slice a ws.length cap) (refN s ws (subN s ws k) kd ty p to n c))
theorem mostN_bd (kd : Int) : mostN kd ≤ 40 := by unfold mostN; split; omega; split <;> omega

section
variable {s : Schema} {ws : List (BitVec 64)} {sv : Value} {a : Option Addr} {cap g : Nat} {w0 : World}
theorem refer_nums (hx : Lx s ws sv a cap g w0) (ty : Int) (p to n c deep k : Nat) (w : World) (hl : LkB w g sv (.slice a ws.length cap) c) (hc : c < ws.length) (hn : n ≤ 40) (ht : to ≤ 1000000000000) :
    Calls Tryd.prog 95 #[.pointer (some ⟨g, 0, none⟩), .int .i64 3, .int .i64 ty, .int .i64 p, .int .i64 to, .int .i64 n, .int .i64 deep] w (RetL w g sv (.slice a ws.length cap) (refN s ws (subN s ws k) 3 ty p to n c)) := by
  have hcl := vclaim_any g sv a ws.length cap c to n p w hl (by have := hx.hL; omega) (by omega) ht (by have := hx.hL; omega)
  rw [show refN s ws (subN s ws k) 3 ty p to n c = clV ws.length c to n p from rfl]
  generalize clV ws.length c to n p = r at *
  obtain ⟨c', e⟩ := r
  unfold RetL
  cases e with
  | none =>
    simp only [EndV] at hcl ⊢
    go_enter Tryd.func95, Tryd.ntmps95
    go_wp2_with fail
    ((refine hcl.mono ?_); rintro r w1 ⟨rfl, k1, k2⟩)
    go_wp2_with fail
    go_returns
    exact ⟨rfl, k1, k2⟩
  | some e =>
    obtain ⟨e, q⟩ := e
    simp only [EndV] at hcl ⊢
    go_enter Tryd.func95, Tryd.ntmps95
    go_wp2_with fail
    ((refine hcl.mono ?_); rintro r w1 ⟨rfl, k1, k2⟩)
    go_wp2_with fail
    exact ⟨rfl, rfl, k1, k2⟩

theorem refer_bytes (hx : Lx s ws sv a cap g w0) (ty : Int) (p to n c deep k : Nat) (w : World) (hb : Below g w0 w) (hl : LkB w g sv (.slice a ws.length cap) c) (hc : c < ws.length) (hn0 : 0 < n) (hn : n ≤ 40) (ht : to ≤ 1000000000000) :
    Calls Tryd.prog 95 #[.pointer (some ⟨g, 0, none⟩), .int .i64 2, .int .i64 ty, .int .i64 p, .int .i64 to, .int .i64 n, .int .i64 deep] w (RetL w g sv (.slice a ws.length cap) (refN s ws (subN s ws k) 2 ty p to n c)) := by
  have hcl := vclaim_any g sv a ws.length cap c to ((n + 7) / 8) p w hl (by have := hx.hL; omega) (by omega) ht (by have := hx.hL; omega)
  have hcount := count_q n (by omega)
  have hgs := hl.lt
  unfold RetL
  rw [show refN s ws (subN s ws k) 2 ty p to n c = (match clV ws.length c to ((n + 7) / 8) p with
    | (c', none) => (c', if textOk ((ws.drop to).take ((n + 7) / 8)) n then none else some (10, p))
    | (c', some e) => (c', some e)) from rfl]
  obtain ⟨m, hm⟩ : ∃ m, m = (n + 7) / 8 := ⟨_, rfl⟩
  have hm0 : 0 < m := by omega
  rw [← hm] at hcl hcount ⊢
  have Hm := hid hm
  clear hm
  generalize hR : clV ws.length c to m p = r at *
  obtain ⟨c', e⟩ := r
  cases e with
  | some e =>
    obtain ⟨e, q⟩ := e
    simp only [EndV] at hcl ⊢
    clear hR
    go_enter Tryd.func95, Tryd.ntmps95
    go_wp2_with fail
    ((refine (hcount _).mono ?_); rintro r w1 ⟨rfl, rfl⟩)
    go_wp2_with fail
    ((refine hcl.mono ?_); rintro r w1 ⟨rfl, k1, k2⟩)
    go_wp2_with fail
    exact ⟨rfl, rfl, k1, k2⟩
  | none =>
    obtain ⟨-, hto, -⟩ := clV_none hR
    obtain ⟨b, off, cap', e, hcap1, hcap2, -, -⟩ := hx.hw.cons (by omega)
    simp only [Value.slice.injEq, true_and] at e
    obtain ⟨rfl, rfl⟩ := e
    have htext := hid fun W (hW : Below g w0 W) => text_any ((ws.drop to).take m) (.slice (some ⟨b, off + to, none⟩) m (cap - to)) n W (row_sub (hx.hw.below hW hx.hg) rfl to m hto) ⟨by omega, by omega⟩ (by rw [List.length_take]; have := hx.hL; omega)
    have hend := vend_any 10 (p : Int)
    have hto' : (to : Int) + (m : Int) ≤ (ws.length : Int) := by omega
    have hcap' : (ws.length : Int) ≤ (cap : Int) := by omega
    have hL := hx.hL
    clear hR
    generalize textV ((ws.drop to).take m) n = tx at *
    generalize textOk ((ws.drop to).take m) n = ok at *
    cases ok with
    | true =>
      simp only [EndV, if_true] at hcl ⊢
      go_enter Tryd.func95, Tryd.ntmps95
      go_wp2_with fail
      ((refine (hcount _).mono ?_); rintro r w1 ⟨rfl, rfl⟩)
      go_wp2_with fail
      ((refine hcl.mono ?_); rintro r w1 ⟨rfl, k1, k2⟩)
      have c1 := k1.c1
      have hb1 := hid (below_grown hb k2 (Nat.le_of_lt hgs))
      clear hb
      go_wp2_with fail
      ((refine (htext.out _ hb1.out).mono ?_); rintro r w2 ⟨rfl, hb2⟩)
      go_wp2_with fail
      go_returns
      exact ⟨rfl, k1.below hb2, grown_below k2 hb2⟩
    | false =>
      simp only [EndV, if_false, Bool.false_eq_true] at hcl ⊢
      go_enter Tryd.func95, Tryd.ntmps95
      go_wp2_with fail
      ((refine (hcount _).mono ?_); rintro r w1 ⟨rfl, rfl⟩)
      go_wp2_with fail
      ((refine hcl.mono ?_); rintro r w1 ⟨rfl, k1, k2⟩)
      have c1 := k1.c1
      have hb1 := hid (below_grown hb k2 (Nat.le_of_lt hgs))
      clear hb
      go_wp2_with fail
      ((refine (htext.out _ hb1.out).mono ?_); rintro r w2 ⟨rfl, hb2⟩)
      go_wp2_with fail
      ((refine (hend _).mono ?_); rintro r w3 ⟨rfl, rfl⟩)
      go_wp2_with fail
      exact ⟨rfl, rfl, k1.below hb2, grown_below k2 hb2⟩

theorem refer_deep (hx : Lx s ws sv a cap g w0) (kd ty : Int) (hkd : 4 ≤ kd) (p to n c deep : Nat) (w : World) (hl : LkB w g sv (.slice a ws.length cap) c) (hd : deep = 5) :
    Calls Tryd.prog 95 #[.pointer (some ⟨g, 0, none⟩), .int .i64 kd, .int .i64 ty, .int .i64 p, .int .i64 to, .int .i64 n, .int .i64 deep] w (RetL w g sv (.slice a ws.length cap) (refN s ws (subN s ws 0) kd ty p to n c)) := by
  subst hd
  have e : refN s ws (subN s ws 0) kd ty p to n c = (c, some (16, p)) := by
    unfold refN
    rw [if_neg (by omega), if_neg (by omega)]
    rfl
  unfold RetL
  rw [e]
  have hend := vend_any 16 (p : Int)
  have n2 : (kd == 2) = false := by rw [beq_eq_false_iff_ne]; omega
  have n3 : (kd == 3) = false := by rw [beq_eq_false_iff_ne]; omega
  clear e
  go_enter Tryd.func95, Tryd.ntmps95
  go_wp2_with fail
  ((refine (hend _).mono ?_); rintro r w3 ⟨rfl, rfl⟩)
  go_wp2_with fail
  exact ⟨rfl, rfl, hl, grown_refl _ _⟩

set_option maxRecDepth 100000 in
set_option maxHeartbeats 8000000 in
theorem refer_kids (hx : Lx s ws sv a cap g w0) (kd ty : Int) (hkd : 4 ≤ kd) (p to n c deep k : Nat) (w : World) (hsub : VisC s ws sv a cap g w0 k) (hb : Below g w0 w) (hl : LkB w g sv (.slice a ws.length cap) c) (hc : c < ws.length) (hn0 : 0 < n) (hn : n ≤ 12) (ht : to ≤ 1000000000000) (hd : deep + (k + 1) = 5) :
    Calls Tryd.prog 95 #[.pointer (some ⟨g, 0, none⟩), .int .i64 kd, .int .i64 ty, .int .i64 p, .int .i64 to, .int .i64 n, .int .i64 deep] w (RetL w g sv (.slice a ws.length cap) (refN s ws (subN s ws (k + 1)) kd ty p to n c)) := by
  have h6 := typeL_six hx.hr ty
  obtain ⟨z, hz⟩ : ∃ z, z = (typeL s ty).length := ⟨_, rfl⟩
  rw [← hz] at h6
  have hnz : n * z ≤ 72 := Nat.le_trans (Nat.mul_le_mul hn h6) (by omega)
  have hgs := hl.lt
  have hcl := vclaim_any g sv a ws.length cap c to (n * z) p w hl (by have := hx.hL; omega) (by omega) ht (by have := hx.hL; omega)
  have hnf := nfields_any s sv ty w (hx.hs.below hb hx.hg)
  rw [← hz] at hnf
  have c0 := hl.c0
  unfold RetL
  rw [show refN s ws (subN s ws (k + 1)) kd ty p to n c = (match clV ws.length c to (n * z) p with
      | (c', none) => runN (fun j c => visN s ws k ty (to + j * z) c) n c'
      | (c', some e) => (c', some e)) from by unfold refN; rw [if_neg (by omega), if_neg (by omega), hz]; rfl]
  have n2 : (kd == 2) = false := by rw [beq_eq_false_iff_ne]; omega
  have n3 : (kd == 3) = false := by rw [beq_eq_false_iff_ne]; omega
  have hmul : IntKind.i64.wrap ((n : Int) * (z : Int)) = ((n * z : Nat) : Int) := by rw [← Int.natCast_mul]; exact IntWalk.i64_in _ (by omega)
  have hL := hx.hL
  generalize hR : clV ws.length c to (n * z) p = r at *
  obtain ⟨c', e⟩ := r
  have hsub' : ∀ (j c1 : Nat) (W : World), to + n * z ≤ ws.length → j < n → Below g w0 W → LkB W g sv (.slice a ws.length cap) c1 → c1 < ws.length →
      Calls Tryd.prog 93 #[.pointer (some ⟨g, 0, none⟩), .int .i64 ty, .int .i64 ((to + j * z : Nat) : Int), .int .i64 ((deep + 1 : Nat) : Int)] W (RetL W g sv (.slice a ws.length cap) (visN s ws k ty (to + j * z) c1)) := fun j c1 W h1 h2 h3 h4 h5 => by
    have : j * z + z ≤ n * z := by rw [← Nat.succ_mul]; exact Nat.mul_le_mul_right _ h2
    exact hsub ty (to + j * z) c1 (deep + 1) W h3 h4 h5 (by rw [← hz]; omega) (by omega)
  unfold RetL at hsub'
  have Hsub := hid hsub'
  have Hz := hid hz
  clear hsub hsub' hz
  cases e with
  | some e =>
    obtain ⟨e, q⟩ := e
    simp only [EndV] at hcl ⊢
    clear hR
    go_enter Tryd.func95, Tryd.ntmps95
    go_wp2_with fail
    ((refine hnf.mono ?_); rintro r w1 ⟨rfl, rfl⟩)
    go_wp2_with fail
    ((refine hcl.mono ?_); rintro r w1 ⟨rfl, k1, k2⟩)
    go_wp2_with fail
    exact ⟨rfl, rfl, k1, k2⟩
  | none =>
    obtain ⟨hc', hto, hc2⟩ := clV_none hR
    rw [← hc'] at hc2
    clear hR hc'
    simp only [EndV] at hcl
    have hgw := hx.hg
    have hhs := hx.hs
    obtain ⟨f, hf⟩ : ∃ f : Nat → Nat → LS, f = fun j c => visN s ws k ty (to + j * z) c := ⟨_, rfl⟩
    have Hf := hid fun (j c : Nat) => show f j c = visN s ws k ty (to + j * z) c by rw [hf]
    have Hbd := hid (show ∀ j, Bd ws.length (runN f j c') from fun j => by rw [hf]; exact runN_bd (fun (i : Nat) c hc => visN_bd hx.hr k ty _ c hc) j c' hc2)
    have Hb := hid hb
    rw [← hf]
    clear hf hb hx
    go_enter Tryd.func95, Tryd.ntmps95
    go_wp2_with fail
    ((refine hnf.mono ?_); rintro r wn ⟨rfl, rfl⟩)
    go_wp2_with fail
    ((refine hcl.mono ?_); rintro r w1 ⟨rfl, k1, k2⟩)
    clear hcl hnf c0
    go_wp2_with fail
    go_loopw [72] (fun jv wr => ∃ (j cj : Nat), j ≤ n ∧ jv = .int .i64 j ∧ runN f j c' = (cj, none) ∧ LkB wr g sv (.slice a ws.length cap) cj ∧ wn.grownBy wr (some g)) (fun jv _ => n - (intOf jv).toNat)
    case atStart => exact ⟨0, c', Nat.zero_le _, rfl, rfl, k1, k2⟩
    case round =>
      clear k1 k2
      obtain ⟨j, cj, hj, rfl, hRj, k1, k2⟩ := hrel
      have HRj := hid hRj
      clear hRj
      by_cases hlt : j < n
      · have hcj := (Hbd.out j).ok (by rw [HRj.out])
        rw [HRj.out] at hcj
        have hv := Hsub.out j cj wr hto hlt (below_grown Hb.out k2 (Nat.le_of_lt hgs)) k1 hcj
        have hnext := hid ((runN_ok HRj.out).trans (Hf.out j cj))
        have hjz : j * z ≤ n * z := Nat.mul_le_mul_right _ (Nat.le_of_lt hlt)
        have hmz : IntKind.i64.wrap ((j : Int) * (z : Int)) = ((j * z : Nat) : Int) := by rw [← Int.natCast_mul]; exact IntWalk.i64_in _ (by omega)
        have had : IntKind.i64.wrap ((to : Int) + ((j * z : Nat) : Int)) = ((to + j * z : Nat) : Int) := by rw [← Int.natCast_add]; exact IntWalk.i64_in _ (by omega)
        have hde : IntKind.i64.wrap ((deep : Int) + 1) = ((deep + 1 : Nat) : Int) := by rw [← Int.natCast_one, ← Int.natCast_add]; exact IntWalk.i64_in _ (by omega)
        obtain ⟨⟨c3, e3⟩, hV⟩ : ∃ r, visN s ws k ty (to + j * z) cj = r := ⟨_, rfl⟩
        rw [hV] at hv hnext
        clear hV k1
        generalize j * z = jz at *
        cases e3 with
        | some e =>
          obtain ⟨e, q⟩ := e
          have hfin := hid (runN_end HRj.out hlt ((Hf.out j cj).symm.trans ((runN_ok HRj.out).symm.trans hnext.out) |> fun h => ((runN_ok HRj.out).symm.trans hnext.out)))
          simp only [EndV] at hv
          go_wp2_with fail
          ((refine hv.mono ?_); rintro r w2 ⟨rfl, k3, k4⟩)
          go_wp2_with fail
          exact ⟨rfl, by rw [hfin.out]; rfl, by rw [hfin.out]; exact k3, grown_trans k2 k4⟩
        | none =>
          simp only [EndV] at hv
          go_wp2_with fail
          ((refine hv.mono ?_); rintro r w2 ⟨rfl, k3, k4⟩)
          have hk := hid (grown_trans k2 k4)
          clear k2 k4
          go_wp2_with fail
          go_roundw
          case rel => exact ⟨j + 1, c3, by omega, by go_num, hnext.out, k3, hk.out⟩
          case measure => simp [intOf]; omega
      · obtain rfl : j = n := by omega
        go_wp2_with fail
        go_returns
        exact ⟨by rw [HRj.out]; rfl, by rw [HRj.out]; exact k1, k2⟩
end
end SVRefer

end Go.Proofs.YtblbhlgihlgncaaDoor

