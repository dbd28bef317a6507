/- intagliolaw01.awake: the chapter's example. -/
import Derived.Test.YtppdbadigecegaaCMk
import Derived.Laws.BytesString
import Derived.Deep.RegionHeld3
set_option linter.unusedVariables false
set_option linter.unusedSimpArgs false
namespace Go.Proofs.Ytppdbadigecegaa
section SCAw
open Go.RowKit Go.Extern.Stop Go.Stop Go.Extern

theorem Rl.methodErrorOver (h : Value) (w : World) : (Go.method 185 41 h "Error").run Try.prog w = .ok (29, h) w := by kernel_rfl
theorem Rl.methodErrorAt (h : Value) (w : World) : (Go.method 185 44 h "Error").run Try.prog w = .ok (30, h) w := by kernel_rfl
theorem Rl.methodErrorErrno (h : Value) (w : World) : (Go.method 185 32 h "Error").run Try.prog w = .ok (28, h) w := by kernel_rfl

theorem conv1 (w : World) (n : Int) : (convert 66 9 (.slice (some ⟨w.heap.size, 0, none⟩) 1 1)).run Try.prog (w.alloc (.cells #[.int .u8 n] 5)) = .ok (.string ⟨#[UInt8.ofNat n.toNat]⟩) (w.alloc (.cells #[.int .u8 n] 5)) := by
  rw [run_convert_bytes_string _ _ _ 5 _ _ _ Try.underlying66 Try.underlying5 Try.underlying9]
  have h : (loadCells (⟨w.heap.size, 0, none⟩ : Addr) 1).run Try.prog (w.alloc (.cells #[.int .u8 n] 5)) = .ok ([n].map (Value.int .u8)).toArray (w.alloc (.cells #[.int .u8 n] 5)) := by
    simp [loadCells, go_sem]
  rw [run_bytesToString _ _ _ _ [n] h]
  rfl

@[go_sem] theorem conv1H (w : World) (H : Nat) (n : Int) (hH : w.heap.size = H) : (convert 66 9 (.slice (some ⟨H, 0, none⟩) 1 1)).run Try.prog (w.alloc (.cells #[.int .u8 n] 5)) = .ok (.string ⟨#[UInt8.ofNat n.toNat]⟩) (w.alloc (.cells #[.int .u8 n] 5)) := by
  subst hH; exact conv1 w n

@[go_sem] theorem geq22 (w : World) : (binOp BinOp.geq 65 (U 22#64) (.int .u64 10)).run Try.prog w = .ok (.bool true) w := by kernel_rfl
@[go_sem] theorem geq23 (w : World) : (binOp BinOp.geq 65 (U 23#64) (.int .u64 10)).run Try.prog w = .ok (.bool true) w := by kernel_rfl
@[go_sem] theorem geq2 (w : World) : (binOp BinOp.geq 65 (U 2#64) (.int .u64 10)).run Try.prog w = .ok (.bool false) w := by kernel_rfl

set_option maxRecDepth 100000 in
theorem error22 (w : World) : Calls Try.prog 28 #[.int .i64 22] w fun r w' => r = .returned (.string ⟨#[105, 110, 116, 97, 103, 108, 105, 111, 58, 32, 101, 114, 114, 111, 114, 32, 50, 50]⟩) ∧ Below w.heap.size w w' := by
  have hs : (⟨#[105, 110, 116, 97, 103, 108, 105, 111, 58, 32, 101, 114, 114, 111, 114, 32]⟩ ++ ⟨#[]⟩ ++ (⟨#[by8 50#64]⟩ ++ ⟨#[by8 50#64]⟩) : ByteArray) = ⟨#[105, 110, 116, 97, 103, 108, 105, 111, 58, 32, 101, 114, 114, 111, 114, 32, 50, 50]⟩ := by kernel_rfl
  have Hs := hid hs
  clear hs
  go_enter Try.func28, Try.ntmps28
  go_wp2
  refine wp_loop_rounds 2 ?_
  rw [rounds_succ]
  go_wp2
  rw [rounds_succ]
  go_wp2
  go_ret
  refine ⟨congrArg (fun s => Ending.returned (.string s)) Hs.out, ((Below.refl _ w).alloc (Nat.le_refl _) _).alloc (by simp) _⟩

set_option maxRecDepth 100000 in
theorem error23 (w : World) : Calls Try.prog 28 #[.int .i64 23] w fun r w' => r = .returned (.string ⟨#[105, 110, 116, 97, 103, 108, 105, 111, 58, 32, 101, 114, 114, 111, 114, 32, 50, 51]⟩) ∧ Below w.heap.size w w' := by
  have hs : (⟨#[105, 110, 116, 97, 103, 108, 105, 111, 58, 32, 101, 114, 114, 111, 114, 32]⟩ ++ ⟨#[]⟩ ++ (⟨#[by8 50#64]⟩ ++ ⟨#[by8 51#64]⟩) : ByteArray) = ⟨#[105, 110, 116, 97, 103, 108, 105, 111, 58, 32, 101, 114, 114, 111, 114, 32, 50, 51]⟩ := by kernel_rfl
  have Hs := hid hs
  clear hs
  go_enter Try.func28, Try.ntmps28
  go_wp2
  refine wp_loop_rounds 2 ?_
  rw [rounds_succ]
  go_wp2
  rw [rounds_succ]
  go_wp2
  go_ret
  refine ⟨congrArg (fun s => Ending.returned (.string s)) Hs.out, ((Below.refl _ w).alloc (Nat.le_refl _) _).alloc (by simp) _⟩

theorem digits7 : (⟨#[48, 49, 50, 51, 52, 53, 54, 55, 56, 57, 97, 98, 99, 100, 101, 102, 103, 104, 105, 106, 107, 108, 109, 110, 111, 112, 113, 114, 115, 116, 117, 118, 119, 120, 121, 122]⟩ : ByteArray).extract 7 8 = ⟨#[55]⟩ := by kernel_rfl
theorem small7 (w : World) : Calls Try.prog 34 #[.int .i64 7] w fun r w' => r = .returned (.string ⟨#[55]⟩) ∧ w' = w := by
  go_enter Try.func34, Try.ntmps34
  go_wp2
  go_ret
  exact ⟨congrArg (fun s => Ending.returned (.string s)) digits7, rfl⟩
set_option maxRecDepth 100000 in
theorem format7 (w : World) : Calls Try.prog 33 #[.int .i64 7, .int .i64 10] w fun r w' => r = .returned (.string ⟨#[55]⟩) ∧ w' = w := by
  go_enter Try.func33, Try.ntmps33
  go_wp2_with (go_at_call 34; refine (small7 _).mono ?_; rintro r1 w1 ⟨rfl, rfl⟩)
  go_ret
  exact ⟨rfl, rfl⟩
theorem itoa7i (w : World) : Calls Try.prog 32 #[.int .i64 7] w fun r w' => r = .returned (.string ⟨#[55]⟩) ∧ w' = w := by
  go_enter Try.func32, Try.ntmps32
  go_wp2_with (go_at_call 33; refine (format7 _).mono ?_; rintro r1 w1 ⟨rfl, rfl⟩)
  go_ret
  exact ⟨rfl, rfl⟩
theorem itoa7 (w : World) : Calls Try.prog 31 #[.int .i64 7] w fun r w' => r = .returned (.string ⟨#[55]⟩) ∧ w' = w := by
  go_enter Try.func31, Try.ntmps31
  go_wp2_with (go_at_call 32; refine (itoa7i _).mono ?_; rintro r1 w1 ⟨rfl, rfl⟩)
  go_ret
  exact ⟨rfl, rfl⟩

theorem sAt_eq : ((⟨#[119, 111, 114, 100, 32]⟩ : ByteArray) ++ ⟨#[55]⟩ ++ ⟨#[58, 32]⟩ ++ ⟨#[105, 110, 116, 97, 103, 108, 105, 111, 58, 32, 101, 114, 114, 111, 114, 32, 50, 51]⟩) = ⟨#[119, 111, 114, 100, 32, 55, 58, 32, 105, 110, 116, 97, 103, 108, 105, 111, 58, 32, 101, 114, 114, 111, 114, 32, 50, 51]⟩ := by kernel_rfl
theorem sOver_eq : ((⟨#[105, 110, 116, 97, 103, 108, 105, 111, 58, 32, 101, 114, 114, 111, 114, 32, 50, 50]⟩ : ByteArray) ++ ⟨#[32, 98, 101, 99, 97, 117, 115, 101, 32]⟩ ++ ⟨#[119, 111, 114, 100, 32, 55, 58, 32, 105, 110, 116, 97, 103, 108, 105, 111, 58, 32, 101, 114, 114, 111, 114, 32, 50, 51]⟩) = ⟨#[105, 110, 116, 97, 103, 108, 105, 111, 58, 32, 101, 114, 114, 111, 114, 32, 50, 50, 32, 98, 101, 99, 97, 117, 115, 101, 32, 119, 111, 114, 100, 32, 55, 58, 32, 105, 110, 116, 97, 103, 108, 105, 111, 58, 32, 101, 114, 114, 111, 114, 32, 50, 51]⟩ := by kernel_rfl
theorem below_eq {w w' : World} (h : w' = w) : Below w.heap.size w w' := h ▸ Below.refl _ _
/-- What a box of two cells keeps while memory grows. -/
def Held2 (w : World) (A : Nat) (v0 v1 : Value) (W : World) : Prop := W.cell? ⟨A, 0, none⟩ = some v0 ∧ W.cell? ⟨A, 1, none⟩ = some v1 ∧ A < W.heap.size ∧ Below w.heap.size w W
theorem Held2.next {w W W' : World} {A : Nat} {v0 v1 : Value} (h : W.cell? ⟨A, 0, none⟩ = some v0 ∧ W.cell? ⟨A, 1, none⟩ = some v1 ∧ A < W.heap.size ∧ Below w.heap.size w W) (hb : Below W.heap.size W W') :
    W'.cell? ⟨A, 0, none⟩ = some v0 ∧ W'.cell? ⟨A, 1, none⟩ = some v1 ∧ A < W'.heap.size ∧ Below w.heap.size w W' :=
  ⟨(hb.cell (p := ⟨A, 0, none⟩) h.2.2.1).trans h.1, (hb.cell (p := ⟨A, 1, none⟩) h.2.2.1).trans h.2.1, Nat.lt_of_lt_of_le h.2.2.1 hb.size, h.2.2.2.trans (hb.mono h.2.2.2.size)⟩
set_option maxHeartbeats 1000000 in
theorem error_at (A : Nat) (w : World) (h0 : w.cell? ⟨A, 0, none⟩ = some (.iface 32 (.int .i64 23))) (h1 : w.cell? ⟨A, 1, none⟩ = some (.int .i64 7)) (hA : A < w.heap.size) :
    Calls Try.prog 30 #[.pointer (some ⟨A, 0, none⟩)] w fun r w' => r = .returned (.string ⟨#[119, 111, 114, 100, 32, 55, 58, 32, 105, 110, 116, 97, 103, 108, 105, 111, 58, 32, 101, 114, 114, 111, 114, 32, 50, 51]⟩) ∧ Below w.heap.size w w' := by
  have m1 := Rl.methodErrorErrno
  have he := hid sAt_eq
  go_enter Try.func30, Try.ntmps30
  go_wp2
  go_region_held3 (fun W => W.cell? ⟨A, 0, none⟩ = some (.iface 32 (.int .i64 23)) ∧ W.cell? ⟨A, 1, none⟩ = some (.int .i64 7) ∧ A < W.heap.size ∧ Below w.heap.size w W)
    (first | exact ⟨h0, h1, hA, below_drewN _ w 1⟩ | exact Held2.next (by assumption) hb3)
    (first
    | (go_at_call 31; (refine (itoa7 _).mono ?_); rintro r wA ⟨rfl, hwe⟩; have hb3 := below_eq hwe)
    | (go_at_call 28; (refine (error23 _).mono ?_); rintro r wA ⟨rfl, hb3⟩))
  go_wp2
  go_ret
  exact ⟨congrArg (fun s => Ending.returned (.string s)) he.out, (by assumption : _ ∧ _ ∧ _ ∧ Below w.heap.size w wA).2.2.2⟩
set_option maxHeartbeats 1000000 in
theorem error_over (A C : Nat) (w : World) (h0 : w.cell? ⟨C, 0, none⟩ = some (.int .i64 22)) (h1 : w.cell? ⟨C, 1, none⟩ = some (.iface 44 (.pointer (some ⟨A, 0, none⟩)))) (hC : C < w.heap.size)
    (g0 : w.cell? ⟨A, 0, none⟩ = some (.iface 32 (.int .i64 23))) (g1 : w.cell? ⟨A, 1, none⟩ = some (.int .i64 7)) (hA : A < w.heap.size) :
    Calls Try.prog 29 #[.pointer (some ⟨C, 0, none⟩)] w fun r w' => r = .returned (.string ⟨#[105, 110, 116, 97, 103, 108, 105, 111, 58, 32, 101, 114, 114, 111, 114, 32, 50, 50, 32, 98, 101, 99, 97, 117, 115, 101, 32, 119, 111, 114, 100, 32, 55, 58, 32, 105, 110, 116, 97, 103, 108, 105, 111, 58, 32, 101, 114, 114, 111, 114, 32, 50, 51]⟩) ∧ Below w.heap.size w w' := by
  have m1 := Rl.methodErrorAt
  have hat := hid fun W (hW : Below w.heap.size w W) => error_at A W ((hW.cell (p := ⟨A, 0, none⟩) hA).trans g0) ((hW.cell (p := ⟨A, 1, none⟩) hA).trans g1) (Nat.lt_of_lt_of_le hA hW.size)
  have he := hid sOver_eq
  clear g0 g1
  go_enter Try.func29, Try.ntmps29
  go_wp2
  go_region_held3 (fun W => W.cell? ⟨C, 0, none⟩ = some (.int .i64 22) ∧ W.cell? ⟨C, 1, none⟩ = some (.iface 44 (.pointer (some ⟨A, 0, none⟩))) ∧ C < W.heap.size ∧ Below w.heap.size w W)
    (first | exact ⟨h0, h1, hC, below_drewN _ w 1⟩ | exact Held2.next (by assumption) hb3)
    (first
    | (go_at_call 28; (refine (error22 _).mono ?_); rintro r wA ⟨rfl, hb3⟩)
    | (go_at_call 30; (refine (hat.out _ (by assumption : _ ∧ _ ∧ _ ∧ Below w.heap.size w _).2.2.2).mono ?_); rintro r wA ⟨rfl, hb3⟩))
  go_wp2
  go_ret
  exact ⟨congrArg (fun s => Ending.returned (.string s)) he.out, (by assumption : _ ∧ _ ∧ _ ∧ Below w.heap.size w wA).2.2.2⟩

theorem text_over (C : Nat) (S : ByteArray) (w : World) (h : Calls Try.prog 29 #[.pointer (some ⟨C, 0, none⟩)] w fun r w' => r = .returned (.string S) ∧ Below w.heap.size w w') :
    Calls Try.prog 6 #[.iface 41 (.pointer (some ⟨C, 0, none⟩))] w fun r w' => r = .returned (.string S) ∧ Below w.heap.size w w' := by
  have m1 := Rl.methodErrorOver
  go_enter Try.func6, Try.ntmps6
  go_wp2_with (go_at_call 29; (refine h.mono ?_); rintro r wA ⟨rfl, hb3⟩)
  go_ret
  exact ⟨rfl, hb3⟩
theorem new23 (w : World) : Calls Try.prog 9 #[.int .i64 23] w fun r w' => r = .returned (.iface 32 (.int .i64 23)) ∧ w' = w := new_errV 23 w
set_option maxRecDepth 100000 in
set_option maxHeartbeats 1000000 in
theorem awake01 (w : World) : Calls Try.prog 4 #[] w fun r w' => r = .returned (.bool true) ∧ Below w.heap.size w w' := by
  have m1 := Rl.methodErrorOver
  obtain ⟨w1, hw1⟩ : ∃ w1, w1 = w.alloc (.cells #[.iface 32 (.int .i64 23), .int .i64 7] 46) := ⟨_, rfl⟩
  have b1 : Below w.heap.size w w1 := hw1 ▸ below_alloc _ _
  have e1 : w1.heap.size = w.heap.size + 1 := by rw [hw1]; simp
  obtain ⟨w2, hw2⟩ : ∃ w2, w2 = w1.alloc (.cells #[.int .i64 22, .iface 44 (.pointer (some ⟨w.heap.size, 0, none⟩))] 43) := ⟨_, rfl⟩
  have b2 : Below w1.heap.size w1 w2 := hw2 ▸ below_alloc _ _
  have e2 : w2.heap.size = w.heap.size + 2 := by rw [hw2]; simp [e1]
  have g0 : w1.cell? ⟨w.heap.size, 0, none⟩ = some (.iface 32 (.int .i64 23)) := by rw [hw1]; simp
  have g1 : w1.cell? ⟨w.heap.size, 1, none⟩ = some (.int .i64 7) := by rw [hw1]; simp
  have h0 : w2.cell? ⟨w.heap.size + 1, 0, none⟩ = some (.int .i64 22) := by rw [hw2, ← e1]; simp
  have h1 : w2.cell? ⟨w.heap.size + 1, 1, none⟩ = some (.iface 44 (.pointer (some ⟨w.heap.size, 0, none⟩))) := by rw [hw2, ← e1]; simp
  have hov := hid (error_over w.heap.size (w.heap.size + 1) w2 h0 h1 (by omega) ((b2.cell (p := ⟨w.heap.size, 0, none⟩) (by show w.heap.size < _; omega)).trans g0) ((b2.cell (p := ⟨w.heap.size, 1, none⟩) (by show w.heap.size < _; omega)).trans g1) (by omega))
  rw [hw2, hw1] at hov
  have hb12 := via b1 b2
  clear g0 g1 h0 h1
  have htext := hid (text_over _ _ _ hov.out)
  go_enter Try.func4, Try.ntmps4
  go_wp2_with (first
    | (go_at_call 9; refine (new23 _).mono ?_; rintro r1 wz ⟨rfl, rfl⟩)
    | (go_at_call 8; refine (at_some _ _ _ _).mono ?_; rintro r1 wy ⟨rfl, rfl⟩)
    | (go_at_call 7; refine (because_some _ (by decide) _ _ _).mono ?_; rintro r1 wx ⟨rfl, rfl⟩)
    | (go_at_call 6; refine htext.out.mono ?_; rintro r1 wA ⟨rfl, hb3⟩))
  go_ret
  rw [← hw1, ← hw2] at hb3
  exact ⟨rfl, via hb12 hb3⟩
end SCAw

end Go.Proofs.Ytppdbadigecegaa

