/- The document's only. -/
import Derived.Test.YtmcpanjpjnlleaaDoorTrCheck
set_option linter.unusedVariables false
namespace Go.Proofs.YtmcpanjpjnlleaaDoor
open Go.RowKit

def onlyV (kind : Int) (x : BitVec 64) (nb nn nk : Nat) : Bool :=
  (decide (kind = 1) || x == 0#64) && ((decide (kind = 2) || decide (nb = 0)) && ((decide (kind = 3) || decide (nn = 0)) && (decide (4 ≤ kind) || decide (nk = 0))))

theorem ret_bool {a b : Bool} (h : a = b) : Ending.returned (.bool a) = .returned (.bool b) := by rw [h]

set_option maxHeartbeats 4000000 in
theorem only_any (kind : Int) (hkd : 1 ≤ kind ∧ kind ≤ 5) (x : BitVec 64) (s : ByteArray) (a2 a3 : Option Addr) (nn nk p2 p3 : Nat) (w : World) (hbd : s.size ≤ 1000) (hnd : nn ≤ 1000) (hkk : nk ≤ 1000) :
    Calls Tryd.prog 68 #[.int .i64 kind, .agg #[U x, .string s, .slice a2 nn p2, .slice a3 nk p3]] w fun r w' => r = .returned (.bool (onlyV kind x s.size nn nk)) ∧ Below w.heap.size w w' := by
  have h5 : kind = 1 ∨ kind = 2 ∨ kind = 3 ∨ kind = 4 ∨ kind = 5 := by omega
  clear hkd
  have hb : (∃ e : s.size = 0, s.toList = []) ∨ (∃ e : ¬ s.size = 0, s.toList.isEmpty = false) := by
    by_cases h : s.size = 0
    · exact .inl ⟨h, bytes_nil h⟩
    · exact .inr ⟨h, by have := bytes_ne h; simpa using this⟩
  have hx : (∃ e : x = 0#64, (x == 0#64) = true) ∨ (∃ e : ¬ x = 0#64, (x == 0#64) = false) := by
    by_cases h : x = 0#64
    · exact .inl ⟨h, by simpa using h⟩
    · exact .inr ⟨h, by simpa using h⟩
  have hn : (∃ e : nn = 0, ((nn : Int) == 0) = true) ∨ (∃ e : ¬ nn = 0, ((nn : Int) == 0) = false) := by
    by_cases h : nn = 0
    · exact .inl ⟨h, by rw [h]; rfl⟩
    · exact .inr ⟨h, by simp [h]⟩
  have hk : (∃ e : nk = 0, ((nk : Int) == 0) = true) ∨ (∃ e : ¬ nk = 0, ((nk : Int) == 0) = false) := by
    by_cases h : nk = 0
    · exact .inl ⟨h, by rw [h]; rfl⟩
    · exact .inr ⟨h, by simp [h]⟩
  rcases hx with ⟨hx, gx⟩ | ⟨hx, gx⟩ <;> rcases hb with ⟨hb, gb⟩ | ⟨hb, gb⟩ <;> rcases hn with ⟨hn, gn⟩ | ⟨hn, gn⟩ <;> rcases hk with ⟨hk, gk⟩ | ⟨hk, gk⟩
  all_goals
    have Hx := hid hx
    have Hb := hid hb
    have Hn := hid hn
    have Hk := hid hk
    clear hx hb hn hk
    rcases h5 with rfl | rfl | rfl | rfl | rfl
    all_goals
      go_enter Tryd.func68, Tryd.ntmps68
      go_wp2_with fail
      go_ret
      exact ⟨ret_bool (by simp [onlyV, Hx.out, Hb.out, Hn.out, Hk.out]), by go_grown⟩

theorem only_has (kind : Int) (hkd : 1 ≤ kind ∧ kind ≤ 5) (x : BitVec 64) (nb nn nk : Nat) :
    hasV kind x nb nn nk = (onlyV kind x nb nn nk && (decide (nb ≤ 40) && (decide (nn ≤ 12) && (decide (nk ≤ 12) && !(decide (kind = 4) && decide (1 < nk)))))) := by
  have h5 : kind = 1 ∨ kind = 2 ∨ kind = 3 ∨ kind = 4 ∨ kind = 5 := by omega
  rcases h5 with rfl | rfl | rfl | rfl | rfl
  all_goals
    by_cases hx : x = 0#64
    all_goals
      rw [Bool.eq_iff_iff]
      simp [hasV, onlyV, hx]
      try omega
end Go.Proofs.YtmcpanjpjnlleaaDoor

