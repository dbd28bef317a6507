/- api.Errno.Error: of each code a text, the same in every world. -/
import Derived.Test.YtppdbadigecegaaCAw
set_option linter.unusedVariables false
set_option linter.unusedSimpArgs false
namespace Go.Proofs.Ytppdbadigecegaa
section SCErrS
open Go.RowKit Go.Extern.Stop Go.Stop Go.Extern

@[go_sem] theorem U_neg (x : BitVec 64) : Op.unary .neg (U x) = pure (U (-x)) := by
  unfold U
  simp only [Op.unary, Op.intArith]
  congr 2
  rw [IntKind.wrap_u64, BitVec.toNat_neg]
  have := x.isLt
  omega
theorem U_geq10 (x : BitVec 64) (t : TypeId) (w : World) : (binOp BinOp.geq t (U x) (.int .u64 10)).run Try.prog w = .ok (.bool (decide (10 ≤ x.toNat))) w := by
  unfold U
  simp [binOp, go_sem]
  omega

/-- The number's last digit. -/
def digB (x : BitVec 64) : ByteArray := ⟨#[by8 (48#64 + x % 10#64)]⟩
/-- The digits ahead of it, f at most. -/
def errLoop : Nat → BitVec 64 → ByteArray → ByteArray
  | 0, _, s => s
  | f + 1, x, s => if 10 ≤ x.toNat then errLoop f (x / 10#64) (digB (x / 10#64) ++ s) else s
/-- A code's text. -/
def errS (c : Int) : ByteArray :=
  let x := if c < 0 then -BitVec.ofInt 64 c else BitVec.ofInt 64 c
  ⟨#[105, 110, 116, 97, 103, 108, 105, 111, 58, 32, 101, 114, 114, 111, 114, 32]⟩ ++ (if c < 0 then ⟨#[45]⟩ else ⟨#[]⟩) ++ errLoop 20 x (digB x)
theorem errLoop_size : ∀ (f : Nat) (x : BitVec 64) (s : ByteArray), (errLoop f x s).size ≤ s.size + f
  | 0, x, s => Nat.le_refl _
  | f + 1, x, s => by
    unfold errLoop
    split
    · have := errLoop_size f (x / 10#64) (digB (x / 10#64) ++ s)
      rw [ByteArray.size_append, show (digB (x / 10#64)).size = 1 from rfl] at this
      omega
    · omega
theorem errS_size (c : Int) : (errS c).size ≤ 40 := by
  unfold errS
  rw [ByteArray.size_append, ByteArray.size_append]
  have := errLoop_size 20 (if c < 0 then -BitVec.ofInt 64 c else BitVec.ofInt 64 c) (digB (if c < 0 then -BitVec.ofInt 64 c else BitVec.ofInt 64 c))
  rw [show (digB (if c < 0 then -BitVec.ofInt 64 c else BitVec.ofInt 64 c)).size = 1 from rfl] at this
  have h2 : (if c < 0 then (⟨#[45]⟩ : ByteArray) else ⟨#[]⟩).size ≤ 1 := by split <;> decide
  have h3 : (⟨#[105, 110, 116, 97, 103, 108, 105, 111, 58, 32, 101, 114, 114, 111, 114, 32]⟩ : ByteArray).size = 16 := rfl
  omega
def ErrLR (w : World) (S : ByteArray) (nv sv : Value) (wr : World) : Prop :=
  ∃ (f : Nat) (x : BitVec 64) (s : ByteArray), nv = U x ∧ sv = .string s ∧ errLoop f x s = S ∧ x.toNat < 10 ^ f ∧ s.size + f ≤ 21 ∧ Below w.heap.size w wr
theorem ErrLR.step {w wr : World} {S s : ByteArray} {f : Nat} {x : BitVec 64} (h : errLoop f x s = S) (hx : x.toNat < 10 ^ f) (hs : s.size + f ≤ 21) (hb : Below w.heap.size w wr) (h10 : 10 ≤ x.toNat) (W : World) (hW : Below wr.heap.size wr W) :
    ErrLR w S (U (x / 10#64)) (.string (digB (x / 10#64) ++ s)) W ∧ (x / 10#64).toNat < x.toNat := by
  have hdiv : (x / 10#64).toNat = x.toNat / 10 := by simp [BitVec.toNat_udiv]
  match f, h, hx, hs with
  | 0, _, hx, _ => simp at hx; omega
  | f + 1, h, hx, hs =>
    rw [errLoop, if_pos h10] at h
    refine ⟨⟨f, _, _, rfl, rfl, h, ?_, ?_, via hb hW⟩, by omega⟩
    · rw [hdiv]; rw [Nat.pow_succ] at hx; omega
    · rw [ByteArray.size_append, show (digB (x / 10#64)).size = 1 from rfl]; omega

set_option maxRecDepth 100000 in
set_option maxHeartbeats 4000000 in
theorem cerror_any (c : Int) (w : World) : Calls Try.prog 28 #[.int .i64 c] w fun r w' => r = .returned (.string (errS c)) ∧ Below w.heap.size w w' := by
  have q1 := U_geq10
  obtain ⟨x, hx⟩ : ∃ x, x = (if c < 0 then -BitVec.ofInt 64 c else BitVec.ofInt 64 c) := ⟨_, rfl⟩
  obtain ⟨S, hS⟩ : ∃ S, S = errLoop 20 x (digB x) := ⟨_, rfl⟩
  obtain ⟨wF, hwF, hbF, -, -⟩ : ∃ wF, w.alloc (.cells #[.int .u8 ((by8 (48#64 + x % 10#64)).toNat : Int)] 5) = wF ∧ Below w.heap.size w wF ∧ True ∧ True := ⟨_, rfl, below_alloc _ _, trivial, trivial⟩
  have hrel0 := hid (show ErrLR w S (U x) (.string (digB x)) wF from ⟨20, x, _, rfl, rfl, hS.symm, by have := x.isLt; omega, by show 1 + 20 ≤ 21; omega, hbF⟩)
  have HS := hid (show errLoop 20 x (digB x) = S from hS.symm)
  rw [← hwF] at hrel0
  clear hS hwF hbF
  by_cases hc : c < 0
  · rw [if_pos hc] at hx
    have Hr := hid (show ⟨#[105, 110, 116, 97, 103, 108, 105, 111, 58, 32, 101, 114, 114, 111, 114, 32]⟩ ++ ⟨#[45]⟩ ++ S = errS c by unfold errS; rw [if_pos hc, if_pos hc]; show _ = _ ++ _ ++ errLoop 20 (-BitVec.ofInt 64 c) (digB (-BitVec.ofInt 64 c)); rw [← hx, HS.out])
    replace hx := hx.symm
    go_enter Try.func28, Try.ntmps28
    go_wp2
    go_loopw [3, 5] (fun nv sv wr => ErrLR w S nv sv wr) (fun nv _ _ => (intOf nv).toNat)
    case atStart => exact hrel0.out
    case round =>
      clear hrel0
      obtain ⟨f, y, s, rfl, rfl, hy, hyf, hs, hb⟩ := hrel
      by_cases h10 : 10 ≤ y.toNat
      · have Hst := hid fun W (hW : Below wr.heap.size wr W) => ErrLR.step hy hyf hs hb h10 W hW
        have hsz : s.size ≤ 21 := by omega
        clear hy hyf hs
        go_wp2
        go_roundw
        case rel => exact (Hst.out _ (below_alloc _ _)).1
        case measure => exact (Hst.out _ (Below.refl _ _)).2
      · have hfin := hid (show s = S by cases f with | zero => exact hy | succ f => rw [errLoop, if_neg h10] at hy; exact hy)
        have hsz : s.size ≤ 21 := by omega
        clear hy hyf hs
        go_wp2
        go_ret
        refine ⟨?_, hb⟩
        rw [← Hr.out, ← hfin.out]
        rfl
  · rw [if_neg hc] at hx
    have Hr := hid (show ⟨#[105, 110, 116, 97, 103, 108, 105, 111, 58, 32, 101, 114, 114, 111, 114, 32]⟩ ++ ⟨#[]⟩ ++ S = errS c by unfold errS; rw [if_neg hc, if_neg hc]; show _ = _ ++ _ ++ errLoop 20 (BitVec.ofInt 64 c) (digB (BitVec.ofInt 64 c)); rw [← hx, HS.out])
    replace hx := hx.symm
    go_enter Try.func28, Try.ntmps28
    go_wp2
    go_loopw [3, 5] (fun nv sv wr => ErrLR w S nv sv wr) (fun nv _ _ => (intOf nv).toNat)
    case atStart => exact hrel0.out
    case round =>
      clear hrel0
      obtain ⟨f, y, s, rfl, rfl, hy, hyf, hs, hb⟩ := hrel
      by_cases h10 : 10 ≤ y.toNat
      · have Hst := hid fun W (hW : Below wr.heap.size wr W) => ErrLR.step hy hyf hs hb h10 W hW
        have hsz : s.size ≤ 21 := by omega
        clear hy hyf hs
        go_wp2
        go_roundw
        case rel => exact (Hst.out _ (below_alloc _ _)).1
        case measure => exact (Hst.out _ (Below.refl _ _)).2
      · have hfin := hid (show s = S by cases f with | zero => exact hy | succ f => rw [errLoop, if_neg h10] at hy; exact hy)
        have hsz : s.size ≤ 21 := by omega
        clear hy hyf hs
        go_wp2
        go_ret
        refine ⟨?_, hb⟩
        rw [← Hr.out, ← hfin.out]
        rfl
end SCErrS

end Go.Proofs.Ytppdbadigecegaa

