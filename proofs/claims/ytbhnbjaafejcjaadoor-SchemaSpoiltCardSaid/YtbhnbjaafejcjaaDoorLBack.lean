/- SchemaBack: the walk. -/
import Derived.Test.YtbhnbjaafejcjaaDoorSRead
import Derived.Test.YtbhnbjaafejcjaaDoorSame5
import Derived.Test.YtbhnbjaafejcjaaDoorRefSame
import Derived.Test.YtbhnbjaafejcjaaDoorAw5
import Derived.Test.YtbhnbjaafejcjaaDoorMade
set_option linter.unusedVariables false
namespace Go.Proofs.YtbhnbjaafejcjaaDoor
open Go.RowKit

theorem made5 (l : List Int) (v : Value) (w : World) (hr : Row w 1 v l.length (l.map (Value.int .i64))) (hb : ∀ z ∈ l, -9223372036854775808 ≤ z ∧ z ≤ 9223372036854775807) :
    Calls Tryd.prog 12 #[v] w fun r w' => ∃ u, r = .returned u ∧ Below w.heap.size w w' ∧ Sch w' u (madeS l) := by
  refine (made_any l v w hr hb).mono fun r w' ⟨u, h1, h2, h3⟩ => ⟨u, h1, h2, ?_⟩
  obtain ⟨vs, g1, g2⟩ := h3
  exact ⟨vs, Row.of_owns g1, fun i f hf => by obtain ⟨x, hx, hxr⟩ := g2 i f hf; exact ⟨x, hx, Row.of_owns hxr⟩⟩

theorem Row.lift {w w' : World} {sz n : Nat} {v : Value} {xs : List Value} (h : Row w sz v n xs) (hb : Below w.heap.size w w') : Row w' sz v n xs := h.below hb (Nat.le_refl _)
theorem Sch.lift {w w' : World} {v : Value} {s : Schema} (h : Sch w v s) (hb : Below w.heap.size w w') : Sch w' v s := h.below hb (Nat.le_refl _)

theorem back_plain (a b : Schema) (ha : rightB a = true) (hb : rightB b = true) : (packS a == packS b) = decide (a = b) := by
  rw [Bool.eq_iff_iff, beq_iff_eq, decide_eq_true_iff]; exact packS_inj ha hb

theorem packS_len {s : Schema} (h : rightB s = true) : (packS s).length ≤ 8 := by rw [packS, if_pos h, List.length_map]; exact (right_small h).2.1

theorem readOk_packS {s : Schema} (h : rightB s = true) : readOk (packS s) = true := by
  rw [readOk_eq, readS_packS h, h, Bool.true_and]; exact decide_eq_true rfl

set_option maxRecDepth 100000 in
set_option maxHeartbeats 4000000 in
theorem back_walk (l m : List Int) (u v : Value) (w : World) (hl : LaidE w) (hu : Row w 1 u l.length (l.map (Value.int .i64))) (hv : Row w 1 v m.length (m.map (Value.int .i64)))
    (hbl : ∀ z ∈ l, -9223372036854775808 ≤ z ∧ z ≤ 9223372036854775807) (hbm : ∀ z ∈ m, -9223372036854775808 ≤ z ∧ z ≤ 9223372036854775807) :
    Calls Tryd.prog 5 #[u, v] w fun r w' => r = .returned (.bool true) ∧ Below w.heap.size w w' := by
  have ra := (madeS_ok l).1
  have rb := (madeS_ok m).1
  have hplain := back_plain _ _ ra rb
  have hok := readOk_packS ra
  have hrs := readS_packS ra
  have hla := packS_len ra
  have hlb := packS_len rb
  have mA := fun W h => made5 l u W h hbl
  have mB := fun W h => made5 m v W h hbm
  have hread := fun W x h => read5_any (packS (madeS l)) x (packS (madeS l)).length W h (by omega)
  unfold ReadP at hread
  rw [hok, hrs] at hread
  simp only [if_true] at hread
  have hpa := fun x W h => pack5_yes (madeS l) x W h ra
  have hpb := fun x W h => pack5_yes (madeS m) x W h rb
  unfold PackP at hpa hpb
  generalize madeS l = A at *
  generalize madeS m = B at *
  have Hplain := hid hplain
  generalize packS A = pa at *
  generalize packS B = pb at *
  have hsame := fun x y p q W hx hy => same_any pa pb x y p q W hx hy
  rw [Hplain.out] at hsame
  have hs1 := fun x y W hx hy => same5_any A A x y W hx hy
  rw [show decide (A = A) = true from decide_eq_true rfl] at hs1
  have hs2 := fun x y W hx hy => same5_any A B x y W hx hy
  generalize decide (A = B) = eq at *
  have HU := hid hu
  have HV := hid hv
  clear hu hv hplain Hplain hok hrs ra rb hla hlb hbl hbm
  go_enter Tryd.func5, Tryd.ntmps5
  go_wp2_with (go_at_call 11; refine (awake05 _).mono ?_; rintro r1 w1 ⟨rfl, h1⟩)
  ((refine (mA _ (HU.out.lift h1)).mono ?_); rintro r2 w2 ⟨sa, rfl, h2, hsa⟩)
  have hb2 := via h1 h2
  go_wp2_with fail
  ((refine (mB _ (HV.out.lift hb2)).mono ?_); rintro r2 w3 ⟨sb, rfl, h3, hsb⟩)
  have hb3 := via hb2 h3
  replace hsa := hsa.lift h3
  clear h1 h2 h3 hb2 mA mB
  go_wp2_with fail
  ((refine (hpa _ _ hsa).mono ?_); rintro r2 w4 ⟨p1, rfl, h4, hp1⟩)
  have hb4 := via hb3 h4
  replace hsa := hsa.lift h4
  replace hsb := hsb.lift h4
  clear h4 hb3
  go_wp2_with fail
  ((refine (hread _ _ hp1).mono ?_); rintro r2 w5 ⟨sx, rfl, h5, hsx⟩)
  have hb5 := via hb4 h5
  replace hsa := hsa.lift h5
  replace hsb := hsb.lift h5
  clear h5 hb4 hp1 hread
  go_wp2_with fail
  ((refine (hs1 _ _ _ hsx hsa).mono ?_); rintro r2 w6 ⟨rfl, h6⟩)
  have hb6 := via hb5 h6
  replace hsa := hsa.lift h6
  replace hsb := hsb.lift h6
  clear h6 hb5 hsx hs1
  go_wp2_with fail
  ((refine (hs2 _ _ _ hsa hsb).mono ?_); rintro r2 w7 ⟨rfl, h7⟩)
  have hb7 := via hb6 h7
  replace hsa := hsa.lift h7
  replace hsb := hsb.lift h7
  clear h7 hb6 hs2
  go_wp2_with fail
  ((refine (hpa _ _ hsa).mono ?_); rintro r2 w8 ⟨p2, rfl, h8, hp2⟩)
  have hb8 := via hb7 h8
  replace hsb := hsb.lift h8
  clear h8 hb7 hsa hpa
  go_wp2_with fail
  ((refine (hpb _ _ hsb).mono ?_); rintro r2 w9 ⟨p3, rfl, h9, hp3⟩)
  have hb9 := via hb8 h9
  replace hp2 := hp2.lift h9
  clear h9 hb8 hsb hpb
  go_wp2_with fail
  ((refine (hsame _ _ _ _ _ hp2 hp3).mono ?_); rintro r2 w10 ⟨rfl, q, rfl⟩)
  have hb10 := hb9.trans (below_drewN w.heap.size w9 q)
  generalize w9.drewN q = w11 at *
  clear hb9 hp2 hp3 hsame
  cases eq <;>
  · go_wp2_with fail
    ((refine (top_nil _).mono ?_); rintro r2 w12 ⟨rfl, h12⟩)
    go_wp2_with fail
    go_ret
    exact ⟨rfl, via hb10 h12⟩

theorem row_len {w : World} {v : Value} {n : Nat} {l : List Int} (h : Row w 1 v n (l.map (Value.int .i64))) : Row w 1 v l.length (l.map (Value.int .i64)) := by
  have := h.len
  have e : l.length = n := by simpa using this
  rw [e]; exact h

theorem law_SchemaBack (u : Value) (n : Nat) (l : List Int) (v : Value) (k : Nat) (m : List Int) (w : World) (hl : LaidE w) (hu : Row w 1 u n (l.map (Value.int .i64))) (hv : Row w 1 v k (m.map (Value.int .i64)))
    (hbl : ∀ z ∈ l, -9223372036854775808 ≤ z ∧ z ≤ 9223372036854775807) (hbm : ∀ z ∈ m, -9223372036854775808 ≤ z ∧ z ≤ 9223372036854775807) :
    Calls Tryd.prog 5 #[u, v] w fun r w' => r = .returned (.bool true) ∧ Below w.heap.size w w' :=
  back_walk l m u v w hl (row_len hu) (row_len hv) hbl hbm
end Go.Proofs.YtbhnbjaafejcjaaDoor

