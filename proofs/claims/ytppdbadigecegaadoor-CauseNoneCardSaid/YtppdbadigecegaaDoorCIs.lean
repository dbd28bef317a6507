/- errors.Is of a trouble: whether it has a code; cause.Has. -/
import Derived.Test.YtppdbadigecegaaDoorCMk
import Derived.Laws.BytesString
import Derived.LaidEql
import Derived.Stop.Asserts
import Derived.Deep.RegionHeld3
set_option linter.unusedVariables false
set_option linter.unusedSimpArgs false
namespace Go.Proofs.YtppdbadigecegaaDoor
section SCIs
open Go.RowKit Go.Extern.Stop Go.Stop Go.Extern

section
variable {P : Program} (w : World)
theorem run_equalIn_iface_int (d : Nat) {ti tn : TypeId} {ms : Array (String × TypeId)} {i : TypeInfo} {k : IntKind} (a b : Int)
    (hi : P.underlying ti = some (.interface ms)) (hn : P.underlying tn = some (.int k)) (hinfo : P.info? tn = some i) (hcomp : i.comparable = true) :
    (Op.equalIn (d + 2) ti (.iface tn (.int k a)) (.iface tn (.int k b))).run P w = .ok (a == b) w := by
  simp [Op.equalIn, run_underlying hi, run_underlying hn, typeInfo, hinfo, hcomp]
/-- 'x == y', both interface values of one integer type: as the numbers are. -/
theorem run_eql_iface_int {ti tn : TypeId} {ms : Array (String × TypeId)} {i : TypeInfo} {k : IntKind} (a b : Int)
    (hi : P.underlying ti = some (.interface ms)) (hn : P.underlying tn = some (.int k)) (hinfo : P.info? tn = some i) (hcomp : i.comparable = true) :
    (binOp .eql ti (.iface tn (.int k a)) (.iface tn (.int k b))).run P w = .ok (.bool (a == b)) w := by
  simp only [binOp]
  simp [Op.equal, Op.maxDepth, run_equalIn_iface_int w 9998 a b hi hn hinfo hcomp]
end
theorem Rl.eqErrno (a b : Int) (w : World) : (binOp .eql 25 (.iface 32 (.int .i64 a)) (.iface 32 (.int .i64 b))).run Tryd.prog w = .ok (.bool (a == b)) w := by
  obtain ⟨i, hi⟩ : ∃ i, Tryd.prog.info? 32 = some i := Option.isSome_iff_exists.1 (by kernel_rfl)
  have hc : (Tryd.prog.info? 32).map (·.comparable) = some true := by kernel_rfl
  rw [hi] at hc
  exact run_eql_iface_int w a b Tryd.underlying25 Tryd.underlying32 hi (by simpa using hc)
theorem Rl.eqAt (a : Addr) (b : Int) (w : World) : (binOp .eql 25 (.iface 79 (.pointer (some a))) (.iface 32 (.int .i64 b))).run Tryd.prog w = .ok (.bool false) w := by kernel_rfl
theorem Rl.eqOver (a : Addr) (b : Int) (w : World) : (binOp .eql 25 (.iface 60 (.pointer (some a))) (.iface 32 (.int .i64 b))).run Tryd.prog w = .ok (.bool false) w := by kernel_rfl
theorem Rl.noIsErrno (e : Int) (w : World) : (Instr.typeAssert (.iface 32 (.int .i64 e)) 25 100 true).run Tryd.prog w = .ok (.tuple #[.nilIface, .bool false]) w := run_typeAssert_lacksB Tryd.underlying100 (by kernel_rfl) (by kernel_rfl) _ _ w
theorem Rl.noIsAt (a : Addr) (w : World) : (Instr.typeAssert (.iface 79 (.pointer (some a))) 25 100 true).run Tryd.prog w = .ok (.tuple #[.nilIface, .bool false]) w := run_typeAssert_lacksB Tryd.underlying100 (by kernel_rfl) (by kernel_rfl) _ _ w
theorem Rl.noIsOver (a : Addr) (w : World) : (Instr.typeAssert (.iface 60 (.pointer (some a))) 25 100 true).run Tryd.prog w = .ok (.tuple #[.nilIface, .bool false]) w := run_typeAssert_lacksB Tryd.underlying100 (by kernel_rfl) (by kernel_rfl) _ _ w
theorem Rl.noUnErrno (e : Int) (w : World) : (Instr.typeAssert (.iface 32 (.int .i64 e)) 25 95 true).run Tryd.prog w = .ok (.tuple #[.nilIface, .bool false]) w := run_typeAssert_lacksB Tryd.underlying95 (by kernel_rfl) (by kernel_rfl) _ _ w
theorem Rl.noUnsErrno (e : Int) (w : World) : (Instr.typeAssert (.iface 32 (.int .i64 e)) 25 97 true).run Tryd.prog w = .ok (.tuple #[.nilIface, .bool false]) w := run_typeAssert_lacksB Tryd.underlying97 (by kernel_rfl) (by kernel_rfl) _ _ w
theorem Rl.unAt (a : Addr) (w : World) : (Instr.typeAssert (.iface 79 (.pointer (some a))) 25 95 true).run Tryd.prog w = .ok (.tuple #[.iface 79 (.pointer (some a)), .bool true]) w := run_typeAssert_hasB Tryd.underlying95 (by kernel_rfl) _ _ w
theorem Rl.noUnOver (a : Addr) (w : World) : (Instr.typeAssert (.iface 60 (.pointer (some a))) 25 95 true).run Tryd.prog w = .ok (.tuple #[.nilIface, .bool false]) w := run_typeAssert_lacksB Tryd.underlying95 (by kernel_rfl) (by kernel_rfl) _ _ w
theorem Rl.unsOver (a : Addr) (w : World) : (Instr.typeAssert (.iface 60 (.pointer (some a))) 25 97 true).run Tryd.prog w = .ok (.tuple #[.iface 60 (.pointer (some a)), .bool true]) w := run_typeAssert_hasB Tryd.underlying97 (by kernel_rfl) _ _ w
theorem Rl.methodUnAt (h : Value) (w : World) : (Go.method 249 79 h "Unwrap").run Tryd.prog w = .ok (64, h) w := by kernel_rfl
theorem Rl.methodUnOver (h : Value) (w : World) : (Go.method 249 60 h "Unwrap").run Tryd.prog w = .ok (59, h) w := by kernel_rfl

theorem unwrap_at (A : Nat) (u : Value) (w : World) (h0 : w.cell? ⟨A, 0, none⟩ = some u) (hu : ∃ T x, u = .iface T x) : Calls Tryd.prog 64 #[.pointer (some ⟨A, 0, none⟩)] w fun r w' => r = .returned u ∧ w' = w := by
  obtain ⟨T, x, rfl⟩ := hu
  go_enter Tryd.func64, Tryd.ntmps64
  go_wp2
  go_ret
  exact ⟨rfl, rfl⟩
/-- What (*over).Unwrap hands back: a new row of two. -/
def UnP (w : World) (c : Int) (u : Value) (r : Ending) (w' : World) : Prop := ∃ g, r = .returned (.slice (some ⟨g, 0, none⟩) 2 2) ∧ g < w'.heap.size ∧ Below w.heap.size w w' ∧ w'.cell? ⟨g, 0, none⟩ = some (.iface 32 (.int .i64 c)) ∧ w'.cell? ⟨g, 1, none⟩ = some u
theorem unwrap_over (A : Nat) (c : Int) (u : Value) (w : World) (h0 : w.cell? ⟨A, 0, none⟩ = some (.int .i64 c)) (h1 : w.cell? ⟨A, 1, none⟩ = some u) (hu : ∃ T x, u = .iface T x) : Calls Tryd.prog 59 #[.pointer (some ⟨A, 0, none⟩)] w (UnP w c u) := by
  obtain ⟨T, x, rfl⟩ := hu
  go_enter Tryd.func59, Tryd.ntmps59
  go_wp2
  go_region
  go_wp2
  go_ret
  have hb := below_alloc w (.cells #[.iface 32 (.int .i64 c), .iface T x] 25)
  have hs : (w.alloc (.cells #[.iface 32 (.int .i64 c), .iface T x] 25)).heap.size = w.heap.size + 1 := by simp
  refine ⟨w.heap.size, rfl, ?_, via hb (below_drewN _ _ 1), ?_, ?_⟩
  · show w.heap.size < (w.alloc _).heap.size
    rw [hs]; omega
  · show (w.alloc _).cell? _ = _
    simp
  · show (w.alloc _).cell? _ = _
    simp

theorem is_errno (c e : Int) (w : World) : Calls Tryd.prog 34 #[.iface 32 (.int .i64 c), .iface 32 (.int .i64 e), .bool true] w fun r w' => r = .returned (.bool (c == e)) ∧ w' = w := by
  have q1 := Rl.eqErrno
  have q2 := Rl.noIsErrno
  have q3 := Rl.noUnErrno
  have q4 := Rl.noUnsErrno
  by_cases hce : (c == e) = true
  · rw [hce]
    go_enter Tryd.func34, Tryd.ntmps34
    go_wp2
    refine wp_loop_rounds 1 ?_
    rw [rounds_succ]
    go_wp2
    go_ret
    exact ⟨rfl, rfl⟩
  · have hce : (c == e) = false := by simpa using hce
    rw [hce]
    go_enter Tryd.func34, Tryd.ntmps34
    go_wp2
    refine wp_loop_rounds 1 ?_
    rw [rounds_succ]
    go_wp2
    go_ret
    exact ⟨rfl, rfl⟩

theorem TC.uniq {w : World} : ∀ {L M : List (Bool × Int)} {v : Value}, TC w v L → TC w v M → L = M
  | [], [], v, h, k => rfl
  | [], (b, x) :: M, v, h, k => by
    obtain ⟨T, y, e⟩ := k.iface (by simp)
    rw [show v = .nilIface from h] at e
    cases e
  | (b, x) :: L, [], v, h, k => by
    obtain ⟨T, y, e⟩ := h.iface (by simp)
    rw [show v = .nilIface from k] at e
    cases e
  | (b, x) :: L, (b2, x2) :: M, v, h, k => by
    rcases h with ⟨rfl, rfl, rfl⟩ | ⟨rfl, h2, A, u, rfl, h4, h5, h6, h7⟩ | ⟨rfl, h2, A, u, rfl, h4, h5, h6, h7⟩ <;> rcases k with ⟨rfl, rfl, k1⟩ | ⟨rfl, k2, A2, u2, k1, k4, k5, k6, k7⟩ | ⟨rfl, k2, A2, u2, k1, k4, k5, k6, k7⟩ <;> simp at k1
    · subst k1; rfl
    · subst k1
      rw [h5] at k5
      rw [h6] at k6
      obtain rfl := Option.some.inj k5
      have := Option.some.inj k6
      simp at this
      subst this
      rw [TC.uniq h7 k7]
    · subst k1
      rw [h5] at k5
      rw [h6] at k6
      obtain rfl := Option.some.inj k6
      have := Option.some.inj k5
      simp at this
      subst this
      rw [TC.uniq h7 k7]
noncomputable def lenT (w : World) (v : Value) : Nat := Classical.epsilon fun k => ∃ L, TC w v L ∧ L.length = k
theorem lenT_eq {w : World} {v : Value} {L : List (Bool × Int)} (h : TC w v L) : lenT w v = L.length := by
  have hs : ∃ k, ∃ L, TC w v L ∧ L.length = k := ⟨_, L, h, rfl⟩
  obtain ⟨M, e1, e2⟩ := Classical.epsilon_spec hs
  rw [h.uniq e1]
  exact e2.symm

/-- It has the code. -/
def hasL (L : List (Bool × Int)) (e : Int) : Bool := (codesL L).any (· == e)
theorem hasL_word (x : Int) (L : List (Bool × Int)) (e : Int) : hasL ((true, x) :: L) e = hasL L e := by rw [hasL, codesL_cons, if_pos rfl]; rfl
theorem hasL_code (x : Int) (L : List (Bool × Int)) (e : Int) : hasL ((false, x) :: L) e = (x == e || hasL L e) := by rw [hasL, codesL_cons, if_neg (by decide), List.any_cons]; rfl

def IsC (n : Nat) (e : Int) : Prop := ∀ (L : List (Bool × Int)) (v : Value) (w : World), L.length ≤ n → L ≠ [] → TC w v L →
  Calls Tryd.prog 34 #[v, .iface 32 (.int .i64 e), .bool true] w fun r w' => r = .returned (.bool (hasL L e)) ∧ Below w.heap.size w w'
def IsR (w : World) (L : List (Bool × Int)) (e : Int) (v : Value) (wr : World) : Prop := wr = w ∧ ∃ M, M ≠ [] ∧ M.length ≤ L.length ∧ TC w v M ∧ hasL M e = hasL L e
set_option maxHeartbeats 4000000 in
set_option maxRecDepth 100000 in
theorem is_step (n : Nat) (e : Int) (ih : IsC n e) : IsC (n + 1) e := by
  intro L v w hn hL hT
  have q1 := Rl.eqErrno
  have q2 := Rl.noIsErrno
  have q3 := Rl.noUnErrno
  have q4 := Rl.noUnsErrno
  have q5 := Rl.eqAt
  have q6 := Rl.eqOver
  have q7 := Rl.noIsAt
  have q8 := Rl.noIsOver
  have q9 := Rl.unAt
  have q10 := Rl.noUnOver
  have q11 := Rl.unsOver
  have q12 := Rl.methodUnAt
  have q13 := Rl.methodUnOver
  have Hih := hid ih
  have hrel0 := hid (show IsR w L e v w from ⟨rfl, L, hL, Nat.le_refl _, hT, rfl⟩)
  have HL := hid (And.intro hn hL)
  clear hn hL hT ih
  go_enter Tryd.func34, Tryd.ntmps34
  go_wp2
  go_loopw [0] (fun v wr => IsR w L e v wr) (fun v wr => lenT wr v)
  case atStart => exact hrel0.out
  case round =>
    clear hrel0
    obtain ⟨rfl, M, hM, hML, hTM, hhas⟩ := hrel
    have hlen := lenT_eq hTM
    match M, hM, hML, hTM, hhas, hlen with
    | (b, x) :: rest, _, hML, hTM, hhas, hlen =>
    rcases hTM with ⟨rfl, rfl, rfl⟩ | ⟨rfl, hne, A, u, rfl, hA, g0, g1, hTu⟩ | ⟨rfl, hne, A, u, rfl, hA, g0, g1, hTu⟩
    · rw [hasL_code, show hasL [] e = false from rfl, Bool.or_false] at hhas
      have hres := hid hhas
      clear hhas hlen
      by_cases hce : (x == e) = true
      · go_wp2
        go_ret
        exact ⟨congrArg (fun b => Ending.returned (.bool b)) (hce.symm.trans hres.out), Below.refl _ _⟩
      · have hce : (x == e) = false := by simpa using hce
        go_wp2
        go_ret
        exact ⟨congrArg (fun b => Ending.returned (.bool b)) (hce.symm.trans hres.out), Below.refl _ _⟩
    · rw [hasL_word] at hhas
      have hu := hid (hTu.iface hne)
      obtain ⟨T9, x9, rfl⟩ := hTu.iface hne
      have hunw := hid (unwrap_at A (.iface T9 x9) wr g0 ⟨_, _, rfl⟩)
      have hrel2 := hid (show IsR wr L e (.iface T9 x9) wr from ⟨rfl, rest, hne, by simp at hML; omega, hTu, hhas⟩)
      have hm2 := hid (show lenT wr (.iface T9 x9) < lenT wr (.iface 79 (.pointer (some ⟨A, 0, none⟩))) by rw [hlen, lenT_eq hTu]; simp)
      clear hhas hlen g0 g1 hTu hA
      go_wp2_with (go_at_call 64; refine hunw.out.mono ?_; rintro r1 w1 ⟨rfl, rfl⟩)
      go_roundw
      case rel => exact hrel2.out
      case measure => exact hm2.out
    · rw [hasL_code] at hhas
      have hres := hid hhas
      obtain ⟨T9, x9, rfl⟩ := hTu.iface hne
      have hunw := hid (unwrap_over A x (.iface T9 x9) wr g0 g1 ⟨_, _, rfl⟩)
      have hlr : rest.length ≤ n := by have := HL.out.1; simp at hML; omega
      have hcode := is_errno x e
      have hrest := hid fun W (hW : Below wr.heap.size wr W) => Hih.out rest (.iface T9 x9) W hlr hne (hTu.below hW)
      clear hhas hlen g0 g1 hTu hA hlr
      unfold UnP at hunw
      go_wp2_with (go_at_call 59; refine hunw.out.mono ?_; rintro r1 w1 ⟨g, rfl, hgl, hb1, c0, c1⟩)
      refine wp_loop_rounds 3 ?_
      rw [rounds_succ]
      by_cases hce : (x == e) = true
      · have hr : true = hasL L e := by rw [← hres.out, hce]; rfl
        have Hr := hid hr
        clear hr
        go_wp2_with (go_at_call 34; refine (hcode _).mono ?_; rintro r2 w2 ⟨rfl, rfl⟩)
        go_ret
        exact ⟨congrArg (fun b => Ending.returned (.bool b)) Hr.out, hb1⟩
      · have hce : (x == e) = false := by simpa using hce
        have hr : hasL rest e = hasL L e := by rw [← hres.out, hce]; rfl
        have Hr := hid hr
        clear hr
        go_wp2_with (go_at_call 34; refine (hcode _).mono ?_; rintro r2 w2 ⟨rfl, rfl⟩)
        rw [rounds_succ]
        by_cases hre : hasL rest e = true
        · go_wp2_with (go_at_call 34; refine (hrest.out _ hb1).mono ?_; rintro r3 w3 ⟨rfl, hb3⟩)
          go_ret
          exact ⟨congrArg (fun b => Ending.returned (.bool b)) (hre.symm.trans Hr.out), via hb1 hb3⟩
        · have hre : hasL rest e = false := by simpa using hre
          go_wp2_with (go_at_call 34; refine (hrest.out _ hb1).mono ?_; rintro r3 w3 ⟨rfl, hb3⟩)
          rw [rounds_succ]
          go_wp2_with fail
          go_ret
          exact ⟨congrArg (fun b => Ending.returned (.bool b)) (hre.symm.trans Hr.out), via hb1 hb3⟩
theorem is_all (e : Int) : ∀ n, IsC n e
  | 0 => fun L v w h hL _ => absurd (List.length_pos_iff.2 hL) (by omega)
  | n + 1 => is_step n e (is_all e n)
end SCIs

end Go.Proofs.YtppdbadigecegaaDoor

