/- The text of a trouble, put together from the texts of its parts. -/
import Derived.Test.YtppdbadigecegaaCTab
import Derived.Test.YtppdbadigecegaaCErrS
set_option linter.unusedVariables false
set_option linter.unusedSimpArgs false
namespace Go.Proofs.Ytppdbadigecegaa
section SCText
open Go.RowKit Go.Extern.Stop Go.Stop Go.Extern

/-- A number's text. -/
def numS (T : Nat → Int) (x : Int) : ByteArray := ⟨(itoaT T x).toArray⟩
theorem decDigits_le {u : Nat} (h : u < 100) : (Lib.decDigits u).length ≤ 2 := by
  rw [Lib.decDigits]
  split
  · simp
  · rw [Lib.decDigits, dif_pos (by omega)]; simp
theorem numS_size (T : Nat → Int) (x : Int) (h0 : -9223372036854775808 ≤ x) (h1 : x ≤ 9223372036854775807) : (numS T x).size ≤ 30 := by
  show (itoaT T x).toArray.size ≤ 30
  rw [List.size_toArray]
  unfold itoaT
  split
  · next h => have := decDigits_le (u := x.toNat) (by omega); omega
  · split
    · have := (ndT_bounds T x.natAbs (by omega) (by omega)).2.1
      rw [List.length_cons, gfmt_length]; omega
    · have := (ndT_bounds T x.toNat (by omega) (by omega)).2.1
      rw [gfmt_length]; omega
def sWord : ByteArray := ⟨#[119, 111, 114, 100, 32]⟩
def sColon : ByteArray := ⟨#[58, 32]⟩
def sBecause : ByteArray := ⟨#[32, 98, 101, 99, 97, 117, 115, 101, 32]⟩
/-- A trouble's text. -/
def textL (T : Nat → Int) : List (Bool × Int) → ByteArray
  | [] => ⟨#[]⟩
  | (b, x) :: rest => if b then sWord ++ numS T x ++ sColon ++ textL T rest else if rest = [] then errS x else errS x ++ sBecause ++ textL T rest
/-- Its words are ints. -/
def BndW (L : List (Bool × Int)) : Prop := ∀ p ∈ L, p.1 = true → -9223372036854775808 ≤ p.2 ∧ p.2 ≤ 9223372036854775807
theorem BndW.tail {p : Bool × Int} {L : List (Bool × Int)} (h : BndW (p :: L)) : BndW L := fun q hq => h q (List.mem_cons_of_mem _ hq)
theorem textL_size (T : Nat → Int) : ∀ (L : List (Bool × Int)), BndW L → (textL T L).size ≤ 60 * L.length
  | [], _ => Nat.zero_le _
  | (b, x) :: rest, h => by
    have ih := textL_size T rest h.tail
    rw [List.length_cons, textL]
    split
    · next hb =>
      have hx := h (b, x) (List.mem_cons_self ..) hb
      have := numS_size T x hx.1 hx.2
      rw [ByteArray.size_append, ByteArray.size_append, ByteArray.size_append, show sWord.size = 5 from rfl, show sColon.size = 2 from rfl]
      omega
    · have := errS_size x
      split
      · omega
      · rw [ByteArray.size_append, ByteArray.size_append, show sBecause.size = 9 from rfl]
        omega

/-- What calling Error of a trouble's outermost part comes to. -/
def ErrCall (v : Value) (w : World) (Q : Ending → World → Prop) : Prop :=
  (∃ c, v = .iface 32 (.int .i64 c) ∧ Calls Try.prog 28 #[.int .i64 c] w Q) ∨
  (∃ B, v = .iface 44 (.pointer (some ⟨B, 0, none⟩)) ∧ Calls Try.prog 30 #[.pointer (some ⟨B, 0, none⟩)] w Q) ∨
  (∃ B, v = .iface 41 (.pointer (some ⟨B, 0, none⟩)) ∧ Calls Try.prog 29 #[.pointer (some ⟨B, 0, none⟩)] w Q)
theorem ErrCall.errno {c : Int} {w : World} {Q : Ending → World → Prop} (h : ErrCall (.iface 32 (.int .i64 c)) w Q) : Calls Try.prog 28 #[.int .i64 c] w Q := by
  rcases h with ⟨c2, e, k⟩ | ⟨B, e, k⟩ | ⟨B, e, k⟩
  · cases e; exact k
  · simp at e
  · simp at e
theorem ErrCall.at_ {B : Nat} {w : World} {Q : Ending → World → Prop} (h : ErrCall (.iface 44 (.pointer (some ⟨B, 0, none⟩))) w Q) : Calls Try.prog 30 #[.pointer (some ⟨B, 0, none⟩)] w Q := by
  rcases h with ⟨c2, e, k⟩ | ⟨B2, e, k⟩ | ⟨B2, e, k⟩
  · simp at e
  · cases e; exact k
  · simp at e
theorem ErrCall.over {B : Nat} {w : World} {Q : Ending → World → Prop} (h : ErrCall (.iface 41 (.pointer (some ⟨B, 0, none⟩))) w Q) : Calls Try.prog 29 #[.pointer (some ⟨B, 0, none⟩)] w Q := by
  rcases h with ⟨c2, e, k⟩ | ⟨B2, e, k⟩ | ⟨B2, e, k⟩
  · simp at e
  · simp at e
  · cases e; exact k
/-- One of the three. -/
def Kind3 (u : Value) : Prop := (∃ c, u = .iface 32 (.int .i64 c)) ∨ (∃ B, u = .iface 44 (.pointer (some ⟨B, 0, none⟩))) ∨ ∃ B, u = .iface 41 (.pointer (some ⟨B, 0, none⟩))
theorem TC.kind {w : World} : ∀ {L : List (Bool × Int)} {v : Value}, TC w v L → L ≠ [] → Kind3 v
  | [], v, h, hL => absurd rfl hL
  | (b, x) :: rest, v, h, _ => by
    rcases h with ⟨_, _, e⟩ | ⟨_, _, A, u, e, _⟩ | ⟨_, _, A, u, e, _⟩
    · exact .inl ⟨_, e⟩
    · exact .inr (.inl ⟨_, e⟩)
    · exact .inr (.inr ⟨_, e⟩)
def TxtQ (t : ByteArray) (w : World) (r : Ending) (w' : World) : Prop := r = .returned (.string t) ∧ Below w.heap.size w w'

set_option maxRecDepth 100000 in
set_option maxHeartbeats 2000000 in
theorem cerror_at (T : Nat → Int) (A : Nat) (x : Int) (u : Value) (t : ByteArray) (w : World) (h0 : w.cell? ⟨A, 0, none⟩ = some u) (h1 : w.cell? ⟨A, 1, none⟩ = some (.int .i64 x)) (hA : A < w.heap.size)
    (hx0 : -9223372036854775808 ≤ x) (hx1 : x ≤ 9223372036854775807) (htab : TabW T w) (ht : t.size ≤ 100000) (hk : Kind3 u) (hin : ∀ W, Below w.heap.size w W → ErrCall u W (TxtQ t W)) :
    Calls Try.prog 30 #[.pointer (some ⟨A, 0, none⟩)] w (TxtQ (sWord ++ numS T x ++ sColon ++ t) w) := by
  have m1 := Rl.methodErrorErrno
  have m2 := Rl.methodErrorAt
  have m3 := Rl.methodErrorOver
  have hit := hid fun W (hW : Below w.heap.size w W) => cit_any T x hx0 hx1 W (htab.below hW)
  have hns := numS_size T x hx0 hx1
  rw [show (⟨(itoaT T x).toArray⟩ : ByteArray) = numS T x from rfl] at hit
  generalize numS T x = s at *
  have k1 : ¬ 9223372036854775807 < 5 + s.size := by omega
  have k2 : ¬ 9223372036854775807 < 5 + s.size + 2 := by omega
  have k3 : ¬ 9223372036854775807 < 5 + s.size + 2 + t.size := by omega
  clear htab hx0 hx1 hns ht
  unfold TxtQ at *
  rcases hk with ⟨c, rfl⟩ | ⟨B, rfl⟩ | ⟨B, rfl⟩
  · have hin2 := hid fun W hW => (hin W hW).errno
    clear hin
    go_enter Try.func30, Try.ntmps30
    go_wp2
    go_region_held3 (fun W => W.cell? ⟨A, 0, none⟩ = some (.iface 32 (.int .i64 c)) ∧ W.cell? ⟨A, 1, none⟩ = some (.int .i64 x) ∧ A < W.heap.size ∧ Below w.heap.size w W)
      (first | exact ⟨h0, h1, hA, below_drewN _ w 1⟩ | exact Held2.next (by assumption) hb3 | exact Held2.next (W := w.drew) ⟨h0, h1, hA, below_drewN _ w 1⟩ hb3)
      (first
      | (go_at_call 31; (refine (hit.out _ (by first | exact (by assumption : _ ∧ _ ∧ _ ∧ Below w.heap.size w _).2.2.2 | exact below_drewN _ w 1)).mono ?_); rintro r wA ⟨rfl, hb3⟩)
      | (go_at_call 28; (refine (hin2.out _ (by first | exact (by assumption : _ ∧ _ ∧ _ ∧ Below w.heap.size w _).2.2.2 | exact below_drewN _ w 1)).mono ?_); rintro r wA ⟨rfl, hb3⟩))
    go_wp2
    go_ret
    exact ⟨rfl, (by assumption : _ ∧ _ ∧ _ ∧ Below w.heap.size w wA).2.2.2⟩
  · have hin2 := hid fun W hW => (hin W hW).at_
    clear hin
    go_enter Try.func30, Try.ntmps30
    go_wp2
    go_region_held3 (fun W => W.cell? ⟨A, 0, none⟩ = some (.iface 44 (.pointer (some ⟨B, 0, none⟩))) ∧ W.cell? ⟨A, 1, none⟩ = some (.int .i64 x) ∧ A < W.heap.size ∧ Below w.heap.size w W)
      (first | exact ⟨h0, h1, hA, below_drewN _ w 1⟩ | exact Held2.next (by assumption) hb3 | exact Held2.next (W := w.drew) ⟨h0, h1, hA, below_drewN _ w 1⟩ hb3)
      (first
      | (go_at_call 31; (refine (hit.out _ (by first | exact (by assumption : _ ∧ _ ∧ _ ∧ Below w.heap.size w _).2.2.2 | exact below_drewN _ w 1)).mono ?_); rintro r wA ⟨rfl, hb3⟩)
      | (go_at_call 30; (refine (hin2.out _ (by first | exact (by assumption : _ ∧ _ ∧ _ ∧ Below w.heap.size w _).2.2.2 | exact below_drewN _ w 1)).mono ?_); rintro r wA ⟨rfl, hb3⟩))
    go_wp2
    go_ret
    exact ⟨rfl, (by assumption : _ ∧ _ ∧ _ ∧ Below w.heap.size w wA).2.2.2⟩
  · have hin2 := hid fun W hW => (hin W hW).over
    clear hin
    go_enter Try.func30, Try.ntmps30
    go_wp2
    go_region_held3 (fun W => W.cell? ⟨A, 0, none⟩ = some (.iface 41 (.pointer (some ⟨B, 0, none⟩))) ∧ W.cell? ⟨A, 1, none⟩ = some (.int .i64 x) ∧ A < W.heap.size ∧ Below w.heap.size w W)
      (first | exact ⟨h0, h1, hA, below_drewN _ w 1⟩ | exact Held2.next (by assumption) hb3 | exact Held2.next (W := w.drew) ⟨h0, h1, hA, below_drewN _ w 1⟩ hb3)
      (first
      | (go_at_call 31; (refine (hit.out _ (by first | exact (by assumption : _ ∧ _ ∧ _ ∧ Below w.heap.size w _).2.2.2 | exact below_drewN _ w 1)).mono ?_); rintro r wA ⟨rfl, hb3⟩)
      | (go_at_call 29; (refine (hin2.out _ (by first | exact (by assumption : _ ∧ _ ∧ _ ∧ Below w.heap.size w _).2.2.2 | exact below_drewN _ w 1)).mono ?_); rintro r wA ⟨rfl, hb3⟩))
    go_wp2
    go_ret
    exact ⟨rfl, (by assumption : _ ∧ _ ∧ _ ∧ Below w.heap.size w wA).2.2.2⟩

set_option maxRecDepth 100000 in
set_option maxHeartbeats 2000000 in
theorem cerror_over (A : Nat) (c0 : Int) (u : Value) (t : ByteArray) (w : World) (h0 : w.cell? ⟨A, 0, none⟩ = some (.int .i64 c0)) (h1 : w.cell? ⟨A, 1, none⟩ = some u) (hA : A < w.heap.size)
    (ht : t.size ≤ 100000) (hk : Kind3 u) (hin : ∀ W, Below w.heap.size w W → ErrCall u W (TxtQ t W)) :
    Calls Try.prog 29 #[.pointer (some ⟨A, 0, none⟩)] w (TxtQ (errS c0 ++ sBecause ++ t) w) := by
  have m1 := Rl.methodErrorErrno
  have m2 := Rl.methodErrorAt
  have m3 := Rl.methodErrorOver
  have hit := hid fun W => cerror_any c0 W
  have hns := errS_size c0
  generalize errS c0 = s at *
  have k2 : ¬ 9223372036854775807 < s.size + 9 := by omega
  have k3 : ¬ 9223372036854775807 < s.size + 9 + t.size := by omega
  clear hns ht
  unfold TxtQ at *
  rcases hk with ⟨c, rfl⟩ | ⟨B, rfl⟩ | ⟨B, rfl⟩
  · have hin2 := hid fun W hW => (hin W hW).errno
    clear hin
    go_enter Try.func29, Try.ntmps29
    go_wp2
    go_region_held3 (fun W => W.cell? ⟨A, 0, none⟩ = some (.int .i64 c0) ∧ W.cell? ⟨A, 1, none⟩ = some (.iface 32 (.int .i64 c)) ∧ A < W.heap.size ∧ Below w.heap.size w W)
      (first | exact ⟨h0, h1, hA, below_drewN _ w 1⟩ | exact Held2.next (by assumption) hb3 | exact Held2.next (W := w.drew) ⟨h0, h1, hA, below_drewN _ w 1⟩ hb3)
      (first
      | (go_at_call 28; (with_reducible refine (hit.out _).mono ?_); rintro r wA ⟨rfl, hb3⟩)
      | (go_at_call 28; (refine (hin2.out _ (by first | exact (by assumption : _ ∧ _ ∧ _ ∧ Below w.heap.size w _).2.2.2 | exact below_drewN _ w 1)).mono ?_); rintro r wA ⟨rfl, hb3⟩))
    go_wp2
    go_ret
    exact ⟨rfl, (by assumption : _ ∧ _ ∧ _ ∧ Below w.heap.size w wA).2.2.2⟩
  · have hin2 := hid fun W hW => (hin W hW).at_
    clear hin
    go_enter Try.func29, Try.ntmps29
    go_wp2
    go_region_held3 (fun W => W.cell? ⟨A, 0, none⟩ = some (.int .i64 c0) ∧ W.cell? ⟨A, 1, none⟩ = some (.iface 44 (.pointer (some ⟨B, 0, none⟩))) ∧ A < W.heap.size ∧ Below w.heap.size w W)
      (first | exact ⟨h0, h1, hA, below_drewN _ w 1⟩ | exact Held2.next (by assumption) hb3 | exact Held2.next (W := w.drew) ⟨h0, h1, hA, below_drewN _ w 1⟩ hb3)
      (first
      | (go_at_call 28; (refine (hit.out _).mono ?_); rintro r wA ⟨rfl, hb3⟩)
      | (go_at_call 30; (refine (hin2.out _ (by first | exact (by assumption : _ ∧ _ ∧ _ ∧ Below w.heap.size w _).2.2.2 | exact below_drewN _ w 1)).mono ?_); rintro r wA ⟨rfl, hb3⟩))
    go_wp2
    go_ret
    exact ⟨rfl, (by assumption : _ ∧ _ ∧ _ ∧ Below w.heap.size w wA).2.2.2⟩
  · have hin2 := hid fun W hW => (hin W hW).over
    clear hin
    go_enter Try.func29, Try.ntmps29
    go_wp2
    go_region_held3 (fun W => W.cell? ⟨A, 0, none⟩ = some (.int .i64 c0) ∧ W.cell? ⟨A, 1, none⟩ = some (.iface 41 (.pointer (some ⟨B, 0, none⟩))) ∧ A < W.heap.size ∧ Below w.heap.size w W)
      (first | exact ⟨h0, h1, hA, below_drewN _ w 1⟩ | exact Held2.next (by assumption) hb3 | exact Held2.next (W := w.drew) ⟨h0, h1, hA, below_drewN _ w 1⟩ hb3)
      (first
      | (go_at_call 28; (refine (hit.out _).mono ?_); rintro r wA ⟨rfl, hb3⟩)
      | (go_at_call 29; (refine (hin2.out _ (by first | exact (by assumption : _ ∧ _ ∧ _ ∧ Below w.heap.size w _).2.2.2 | exact below_drewN _ w 1)).mono ?_); rintro r wA ⟨rfl, hb3⟩))
    go_wp2
    go_ret
    exact ⟨rfl, (by assumption : _ ∧ _ ∧ _ ∧ Below w.heap.size w wA).2.2.2⟩

theorem errcall_all (T : Nat → Int) : ∀ (L : List (Bool × Int)) (v : Value) (w : World), L.length ≤ 1000 → L ≠ [] → TC w v L → BndW L → TabW T w → ErrCall v w (TxtQ (textL T L) w)
  | [], v, w, _, hL, _, _, _ => absurd rfl hL
  | (b, x) :: rest, v, w, hlen, _, h, hB, htab => by
    have hl2 : rest.length ≤ 1000 := by rw [List.length_cons] at hlen; omega
    have hts := textL_size T rest hB.tail
    rcases h with ⟨rfl, rfl, rfl⟩ | ⟨rfl, hne, A, u, rfl, hA, g0, g1, hT⟩ | ⟨rfl, hne, A, u, rfl, hA, g0, g1, hT⟩
    · rw [textL, if_neg (by decide), if_pos rfl]
      exact .inl ⟨x, rfl, cerror_any x w⟩
    · rw [textL, if_pos rfl]
      have hx := hB (true, x) (List.mem_cons_self ..) rfl
      exact .inr (.inl ⟨A, rfl, cerror_at T A x u (textL T rest) w g0 g1 hA hx.1 hx.2 htab (by omega) (hT.kind hne) fun W hW => errcall_all T rest u W hl2 hne (hT.below hW) hB.tail (htab.below hW)⟩)
    · rw [textL, if_neg (by decide), if_neg hne]
      exact .inr (.inr ⟨A, rfl, cerror_over A x u (textL T rest) w g0 g1 hA (by omega) (hT.kind hne) fun W hW => errcall_all T rest u W hl2 hne (hT.below hW) hB.tail (htab.below hW)⟩)

/-- cause.Text. -/
theorem ctext_any (T : Nat → Int) (L : List (Bool × Int)) (v : Value) (w : World) (hlen : L.length ≤ 1000) (h : TC w v L) (hB : BndW L) (htab : TabW T w) : Calls Try.prog 6 #[v] w (TxtQ (textL T L) w) := by
  have m1 := Rl.methodErrorErrno
  have m2 := Rl.methodErrorAt
  have m3 := Rl.methodErrorOver
  rcases h.shape with ⟨rfl, rfl⟩ | ⟨hL, -⟩
  · go_enter Try.func6, Try.ntmps6
    go_wp2
    go_ret
    exact ⟨rfl, Below.refl _ _⟩
  · have hall := errcall_all T L v w hlen hL h hB htab
    unfold TxtQ at *
    rcases h.kind hL with ⟨c, rfl⟩ | ⟨B, rfl⟩ | ⟨B, rfl⟩
    · have hin := hid hall.errno
      clear hall h
      go_enter Try.func6, Try.ntmps6
      go_wp2_with (go_at_call 28; refine hin.out.mono ?_; rintro r wA ⟨rfl, hb3⟩)
      go_ret
      exact ⟨rfl, hb3⟩
    · have hin := hid hall.at_
      clear hall h
      go_enter Try.func6, Try.ntmps6
      go_wp2_with (go_at_call 30; refine hin.out.mono ?_; rintro r wA ⟨rfl, hb3⟩)
      go_ret
      exact ⟨rfl, hb3⟩
    · have hin := hid hall.over
      clear hall h
      go_enter Try.func6, Try.ntmps6
      go_wp2_with (go_at_call 29; refine hin.out.mono ?_; rintro r wA ⟨rfl, hb3⟩)
      go_ret
      exact ⟨rfl, hb3⟩
end SCText

end Go.Proofs.Ytppdbadigecegaa

