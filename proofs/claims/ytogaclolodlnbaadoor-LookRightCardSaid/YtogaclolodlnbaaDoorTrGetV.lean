/- What a path of a struct leads to, in plain words. No program in sight. -/
import Derived.Test.YtogaclolodlnbaaDoorTrPick2
set_option linter.unusedVariables false
set_option linter.unusedSimpArgs false
namespace Go.Proofs.YtogaclolodlnbaaDoor
section STrGetV
open Go.RowKit

/-- At the end of a path: how many structs, or a struct's fields. -/
def endV (s : Schema) (ty : Int) (n : Nat) (rest : List Int) : BitVec 64 × Int :=
  if rest ≠ [] ∧ n = 0 then (0#64, 12) else pickV n rest (fun _ => BitVec.ofNat 64 (typeL s ty).length)

/-- Behind a field. -/
def getF {α : Type} (s : Schema) (rec : α → List Int → BitVec 64 × Int) (kd ty : Int) (k : Node α) (rest : List Int) : BitVec 64 × Int :=
  if kd = 1 then (if rest = [] then (k.num, 0) else (0#64, 24))
  else if kd = 2 then pickV k.bytes.size rest (byteV k.bytes)
  else if kd = 3 then pickV k.nums.length rest (fun j => k.nums.getD j 0#64)
  else if kd = 4 then
    if rest ≠ [] then
      match k.kids[0]? with
      | some x => rec x rest
      | none => endV s ty k.kids.length rest
    else endV s ty k.kids.length rest
  else if kd = 5 then
    if rest.tail ≠ [] ∧ 0 ≤ rest.headD 0 then
      match k.kids[(rest.headD 0).toNat]? with
      | some x => rec x rest.tail
      | none => endV s ty k.kids.length rest
    else endV s ty k.kids.length rest
  else endV s ty k.kids.length rest

/-- What a path of a struct leads to: a number, and a code. -/
def getT (s : Schema) : (d : Nat) → Int → St d → List Int → BitVec 64 × Int
  | 0, _, v, _ => nomatch v
  | d + 1, t, v, path =>
    if path.headD 0 < 0 then (0#64, 1) else
    match v.kids[(path.headD 0).toNat]? with
    | none => (0#64, 1)
    | some k => getF s (fun x r => getT s d (fieldP s t (path.headD 0)).2 x r) (fieldP s t (path.headD 0)).1 (fieldP s t (path.headD 0)).2 k path.tail

theorem Ints.tail {w : World} {b off m c : Nat} {p : Int} {l : List Int} (h : Ints w (.slice (some ⟨b, off, none⟩) m c) (p :: l)) (hm : m = l.length + 1) :
    Ints w (.slice (some ⟨b, off + 1, none⟩) l.length (c - 1)) l := by
  obtain ⟨b', off', cap', e, h2, h3, h4, h5⟩ := Row.cons h (by simp)
  have h6 := h.most
  simp only [Value.slice.injEq, Option.some.injEq, Addr.mk.injEq] at e
  obtain ⟨⟨rfl, rfl, _⟩, _, rfl⟩ := e
  simp only [List.length_cons] at h2 h5 h6
  refine ⟨by simp, by omega, some ⟨b, off + 1, none⟩, c - 1, rfl, by omega, by omega, (fun e => by cases e), fun _ => ⟨b, off + 1, rfl, h4, fun j hj => ?_⟩⟩
  have := h5 (j + 1) (by omega)
  rw [Nat.add_assoc, Nat.add_comm 1 j, this]
  simp

/-- A path behind its first number: what the machine makes of it. -/
theorem Ints.behind {w : World} {b off m c : Nat} {p : Int} {l : List Int} (h : Ints w (.slice (some ⟨b, off, none⟩) m c) (p :: l)) (hm : m = l.length + 1) :
    ∃ o2, (if c = 1 then some (⟨b, off, none⟩ : Addr) else some ⟨b, off + 1, none⟩) = some ⟨b, o2, none⟩ ∧ Ints w (.slice (some ⟨b, o2, none⟩) l.length (c - 1)) l := by
  by_cases hc : c = 1
  · refine ⟨off, if_pos hc, ?_⟩
    obtain ⟨b', off', cap', e, h2, h3, h4, h5⟩ := Row.cons h (by simp)
    simp only [Value.slice.injEq, Option.some.injEq, Addr.mk.injEq] at e
    obtain ⟨⟨rfl, rfl, _⟩, _, rfl⟩ := e
    have hl : l = [] := by
      cases l with
      | nil => rfl
      | cons x l => simp at h2; omega
    subst hl hc
    exact ⟨by simp, by decide, some ⟨b, off, none⟩, 0, rfl, Nat.le_refl _, Nat.zero_le _, fun _ => rfl, fun h0 => absurd h0 (by decide)⟩
  · exact ⟨off + 1, if_neg hc, h.tail hm⟩
end STrGetV

end Go.Proofs.YtogaclolodlnbaaDoor

