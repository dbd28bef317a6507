/- A struct by numbers, its schema, its type and its message, as layer 9's laws make them. -/
import Derived.Test.YtblbhlgihlgncaaDoorGm
import Derived.Test.YtblbhlgihlgncaaDoorGi
set_option linter.unusedVariables false
set_option linter.unusedSimpArgs false
namespace Go.Proofs.YtblbhlgihlgncaaDoor
section SKMade
open Go.RowKit

def Spec9P (D : Nat) (w : World) (e : Ending) (w' : World) : Prop :=
  ∃ sv wv x0 x1 x2 x3 s, ∃ (t : Nat) (X : St (D + 1)), e = .returned (.tuple #[sv, .int .i64 t, .agg #[x0, x1, x2, x3], wv]) ∧ Below w.heap.size w w' ∧ Sch w' sv s ∧ rightB s = true ∧ t < s.length ∧
    RdS (D + 1) w' [x0, x1, x2, x3] X ∧ FitT s (D + 1) t X ∧ Row w' 1 wv (buildL s D t X).length ((buildL s D t X).map U)

set_option maxRecDepth 100000 in
set_option maxHeartbeats 8000000 in
theorem spec9_any (D E : Nat) (hD : D + 1 ≤ 5) (hE : E = D + 1) (u v : Value) (T : Int) (tl vl : List Int) (w : World) (hu : Row w 1 u tl.length (tl.map (Value.int .i64))) (hv : Row w 1 v vl.length (vl.map (Value.int .i64)))
    (hub : ∀ z ∈ tl, -9223372036854775808 ≤ z ∧ z ≤ 9223372036854775807) (hvb : ∀ z ∈ vl, -9223372036854775808 ≤ z ∧ z ≤ 9223372036854775807) (hT : -9223372036854775808 ≤ T ∧ T ≤ 9223372036854775807) :
    Calls Tryd.prog 9 #[.agg #[u, v, .int .i64 T], .int .i64 E] w (Spec9P D w) := by
  obtain ⟨au, cu, rfl, _⟩ := hu.open
  obtain ⟨av, cv, rfl, hcv, _, hvc⟩ := hv.open
  obtain ⟨w1, hw1, hb1, hlt1, hbox1⟩ := boxed w #[.slice au tl.length cu, .slice av vl.length cv, .int .i64 T] 42
  have q0 : w1.cell? ⟨w.heap.size, 0, none⟩ = some (.slice au tl.length cu) := hbox1 0
  have q1 : w1.cell? ⟨w.heap.size, 1, none⟩ = some (.slice av vl.length cv) := hbox1 1
  have q2 : w1.cell? ⟨w.heap.size, 2, none⟩ = some (.int .i64 T) := hbox1 2
  obtain ⟨w2, hw2, hb2, hz2, hR⟩ := TB.make w1 (.int .u64 0) (.string ⟨#[]⟩) (.slice none 0 0) (.slice none 0 0) 32
  replace q0 := (hb2.cell hlt1).trans q0
  replace q1 := (hb2.cell hlt1).trans q1
  replace q2 := (hb2.cell hlt1).trans q2
  have hb12 := via hb1 hb2
  have hlt2 := Nat.lt_of_lt_of_le hlt1 hb2.size
  have hmade := hid (made_any tl (.slice au tl.length cu) w2 (hu.below hb12 (Nat.le_refl _)) hub)
  obtain ⟨hSr, hS1, hS4, _⟩ := madeS_ok tl
  obtain ⟨n, hn⟩ : ∃ n, n = (madeS tl).length := ⟨_, rfl⟩
  have Hn := hid hn
  rw [← hn] at hS1 hS4
  have Hv := hid hv
  have Hvb := hid hvb
  have Hvc := hid hvc
  have HE := hid hE
  have HSr := hid hSr
  have hvm := hv.most
  unfold maxLen at hvm
  obtain ⟨m, hm⟩ : ∃ m, m = vl.length := ⟨_, rfl⟩
  have Hm := hid hm
  clear hu hv hub hvb hbox1 hn hvc hE hSr
  rw [← hm] at hw1 q1 hcv hvm ⊢
  clear hm
  go_enter Tryd.func9, Tryd.ntmps9
  go_wp2_with fail
  ((refine hmade.out.mono ?_); rintro r3 w3 ⟨sv, rfl, hb3, hown⟩)
  have hsch := hown.sch
  obtain ⟨sa, scap, rfl, _, _, hsm⟩ := hsch.shape
  rw [← Hn.out] at hsm hsch hown ⊢
  have Hs := hid hsch
  have Hown := hid hown
  clear hmade hown hw1 hw2 hsch
  generalize madeS tl = S at *
  replace q0 := (hb3.cell hlt2).trans q0
  replace q1 := (hb3.cell hlt2).trans q1
  replace q2 := (hb3.cell hlt2).trans q2
  have hB3 := via hb12 hb3
  have hn1 : (1 : Int) ≤ (n : Int) := by omega
  have hnz : ((n : Int) == 0) = false := by rw [beq_eq_false_iff_ne]; omega
  have t1 := Int.tmod_lt_of_pos T (show (0 : Int) < n by omega)
  have t2 := Int.lt_tmod_of_pos T (show (0 : Int) < n by omega)
  obtain ⟨x, hx⟩ : ∃ x, Int.tmod T (n : Int) = x := ⟨_, rfl⟩
  rw [hx] at t1 t2
  have e0 := Int.emod_nonneg (x + (n : Int)) (show (n : Int) ≠ 0 by omega)
  have e1 := Int.emod_lt_of_pos (x + (n : Int)) (show (0 : Int) < n by omega)
  obtain ⟨t, ht⟩ : ∃ t : Nat, (x + (n : Int)) % (n : Int) = (t : Int) := ⟨((x + (n : Int)) % (n : Int)).toNat, by omega⟩
  have ht' : x % (n : Int) = (t : Int) := by rw [← ht]; simp
  have htn : t < n := by omega
  clear e0 e1
  have Hcall := hid fun (lv : Value) (ls : List Int) (h1 : Row w3 1 lv ls.length (ls.map (Value.int .i64))) (h2 : ∀ z ∈ ls, -9223372036854775808 ≤ z ∧ z ≤ 9223372036854775807) => madeM_any S HSr.out (.slice sa n scap) D E (by omega) HE.out t (by rw [← Hn.out]; exact htn) lv ls w3 Hs.out h1 h2
  have Hbuild := hid fun (X : St (D + 1)) (cs : List Value) (W : World) (hW : Below w3.heap.size w3 W) (hrd : RdS (D + 1) W cs X) => rbuildK_any S (.slice sa n scap) D (t : Int) X cs W (Hs.out.below hW (Nat.le_refl _)) hrd
  by_cases hm60 : 60 < m
  · have hm60' : (60 : Int) < (m : Int) := by omega
    have hcv60 : (60 : Int) ≤ (cv : Int) := by omega
    have hc := hid (Hcall.out (.slice av 60 cv) (vl.take 60) (row_cut (n := m) (by have h := Hv.out.below hB3 (Nat.le_refl _); rw [← Hm.out] at h ⊢; exact h) Hm.out (by omega)) (fun z hz => Hvb.out z (List.mem_of_mem_take hz)))
    go_wp2_with fail
    ((refine hc.out.mono ?_); rintro r4 w4 ⟨x0, x1, x2, x3, X, rfl, hb4, hrd, hft⟩)
    obtain ⟨a2, p2, a3, p3, hcs, _⟩ := RdN.open hrd.now
    simp only [List.cons.injEq] at hcs
    obtain ⟨rfl, rfl, rfl, rfl, _⟩ := hcs
    have hb24 := via hb3 hb4
    obtain ⟨w5, hw5, hb5, hz5, hV⟩ := TB.make w4 (.int .u64 0) (.string ⟨#[]⟩) (.slice none 0 0) (.slice none 0 0) 32
    obtain ⟨V, hVe⟩ : ∃ V, w4.heap.size = V := ⟨_, rfl⟩
    rw [hVe] at hV
    have hVR : V ≠ w1.heap.size ∧ w1.heap.size ≠ V := by
      have := hb3.size; have := hb4.size; constructor <;> omega
    have ⟨_, v0, v1, v2, v3, vf⟩ := hV
    have vf0 := vf 0
    have vf1 := vf 1
    have vf2 := vf 2
    have vf3 := vf 3
    obtain ⟨w6, hw6⟩ : ∃ w6, w6 = (((w5.setCell ⟨V, 0, none⟩ (U (Node.num X))).setCell ⟨V, 1, none⟩ (.string (Node.bytes X))).setCell ⟨V, 2, none⟩ (.slice a2 (Node.nums X).length p2)).setCell ⟨V, 3, none⟩ (.slice a3 (Node.kids X).length p3) := ⟨_, rfl⟩
    have hV6 : TB w6 V (U (Node.num X)) (.string (Node.bytes X)) (.slice a2 (Node.nums X).length p2) (.slice a3 (Node.kids X).length p3) := by rw [hw6]; exact (((hV.set0 _).set1 _).set2 _).set3 _
    have hk6 : ∀ b, b ≠ V → w6.heap[b]? = w5.heap[b]? := fun b hb => by
      rw [hw6, Below.heap_setCell _ _ _ _ hb, Below.heap_setCell _ _ _ _ hb, Below.heap_setCell _ _ _ _ hb, Below.heap_setCell _ _ _ _ hb]
    have hs6 : w6.heap.size = w5.heap.size := by rw [hw6]; simp [World.setCell]
    have hV4 : w4.heap.size ≤ V := Nat.le_of_eq hVe
    have hb46 : Below w4.heap.size w4 w6 := by
      rw [hw6]
      exact ((((hb5).setCell (p := ⟨V, 0, none⟩) hV4 _).setCell (p := ⟨V, 1, none⟩) hV4 _).setCell (p := ⟨V, 2, none⟩) hV4 _).setCell (p := ⟨V, 3, none⟩) hV4 _
    have hb36 : Below w3.heap.size w3 w6 := via hb4 hb46
    have Hkw := hid (hrd.below hb46)
    have Hb36 := hid hb36
    have hrd6 : RdS (D + 1) w6 [(U (Node.num X)), (.string (Node.bytes X)), (.slice a2 (Node.nums X).length p2), (.slice a3 (Node.kids X).length p3)] X := hrd.below hb46 |>.now
    have hbd := hid (Hbuild.out X [(U (Node.num X)), (.string (Node.bytes X)), (.slice a2 (Node.nums X).length p2), (.slice a3 (Node.kids X).length p3)] w6 hb36 hrd6)
    have hR6 := hR.below (via hb3 hb36)
    have Hrd6 := hid hrd6
    have Hb26 := hid (via hb3 hb36)
    have Hs6 := hid (Hs.out.below hb36 (Nat.le_refl _))
    have Hmsg := hid hft
    have hw6' := hw6.symm
    clear hw6 hrd hft hk6 hs6 hV hb46 hb24 hb36 hrd6 hb4
    have hV6' := hV6
    have ⟨_, e0, e1, e2, e3, _⟩ := hV6'
    go_wp2_with fail
    clear v0 v1 v2 v3 vf0 vf1 vf2 vf3 vf
    ((refine hbd.out.mono ?_); rintro r7 w7 ⟨wv, rfl, hrow, hb7⟩)
    have hV7 := hV6.below hb7
    clear e0 e1 e2 e3
    have hV7' := hV7
    have ⟨_, e0, e1, e2, e3, _⟩ := hV7'
    have hR7 := hR6.below hb7
    have ⟨_, r0, r1, r2, r3, rf⟩ := hR7
    have f0 := rf 0
    have f1 := rf 1
    have f2 := rf 2
    have f3 := rf 3
    go_wp2_with fail
    have hfar : ∀ (W : World) (j : Nat), ((((W.setCell ⟨w1.heap.size, 0, none⟩ (U (Node.num X))).setCell ⟨w1.heap.size, 1, none⟩ (.string (Node.bytes X))).setCell ⟨w1.heap.size, 2, none⟩ (.slice a2 (Node.nums X).length p2)).setCell ⟨w1.heap.size, 3, none⟩ (.slice a3 (Node.kids X).length p3)).cell? ⟨V, j, none⟩ = W.cell? ⟨V, j, none⟩ := fun W j => by
      rw [World.cell?_setCell_other _ _ _ _ (by simp [hVR.2]), World.cell?_setCell_other _ _ _ _ (by simp [hVR.2]), World.cell?_setCell_other _ _ _ _ (by simp [hVR.2]), World.cell?_setCell_other _ _ _ _ (by simp [hVR.2])]
    refine wp_region_held_drew (S := (fun W => W.cell? ⟨V, 0, none⟩ = some (U (Node.num X)) ∧ W.cell? ⟨V, 1, none⟩ = some (.string (Node.bytes X)) ∧ W.cell? ⟨V, 2, none⟩ = some (.slice a2 (Node.nums X).length p2) ∧ W.cell? ⟨V, 3, none⟩ = some (.slice a3 (Node.kids X).length p3))) (by kernel_rfl) ?_ (fun hHeld => ?_)
    · exact ⟨e0, e1, e2, e3⟩
    refine wpAnyH_take (i := 0) (oi := { dst := some 47, op := Op.move (Operand.tmp 8), type := 27, pos := "law.go:32", after := #[], guard := none }) (v := ?vk0) rfl (by kernel_rfl) (by kernel_rfl) (by kernel_rfl) (fun _ _ _ h => h) (Or.inl ⟨by rfl, ?hyk0⟩) (by assumption) ?restk0
    case hyk0 => first | (intro w hSw; (try dsimp only at hSw); go_simp; done) | (intro w hSw; (try dsimp only at hSw); go_simp; with_reducible rfl)
    try simp only [Act.put, List.setIfInBounds_toArray, List.set_cons_zero, List.set_cons_succ]
    refine wpAnyH_take (i := 1) (oi := { dst := some 48, op := Op.move (Operand.tmp 9), type := 3, pos := "law.go:32", after := #[{ on := 4, ground := Ground.gcOnly Departure.lateStores }], guard := none }) (v := ?vk1) rfl (by kernel_rfl) (by kernel_rfl) (by kernel_rfl) (fun _ _ _ h => h) (Or.inl ⟨by rfl, ?hyk1⟩) (by assumption) ?restk1
    case hyk1 => first | (intro w hSw; (try dsimp only at hSw); go_simp; done) | (intro w hSw; (try dsimp only at hSw); go_simp; with_reducible rfl)
    try simp only [Act.put, List.setIfInBounds_toArray, List.set_cons_zero, List.set_cons_succ]
    refine wpAnyH_take (i := 2) (oi := { dst := some 49, op := Op.load 32 (Operand.tmp 11), type := 32, pos := "law.go:32", after := #[{ on := 5, ground := Ground.gcOnly Departure.lateStores }], guard := none }) (v := ?vk2) rfl (by kernel_rfl) (by kernel_rfl) (by kernel_rfl) (fun _ _ _ h => h) (Or.inl ⟨by rfl, ?hyk2⟩) (by assumption) ?restk2
    case hyk2 => first | (intro w hSw; (try dsimp only at hSw); go_simp; done) | (intro w hSw; (try dsimp only at hSw); go_simp; with_reducible rfl)
    try simp only [Act.put, List.setIfInBounds_toArray, List.set_cons_zero, List.set_cons_succ]
    refine wpAnyH_take (i := 3) (oi := { dst := some 50, op := Op.move (Operand.tmp 12), type := 29, pos := "law.go:32", after := #[{ on := 6, ground := Ground.gcOnly Departure.lateStores }], guard := none }) (v := ?vk3) rfl (by kernel_rfl) (by kernel_rfl) (by kernel_rfl) (fun _ _ _ h => h) (Or.inl ⟨by rfl, ?hyk3⟩) (by assumption) ?restk3
    case hyk3 => first | (intro w hSw; (try dsimp only at hSw); go_simp; done) | (intro w hSw; (try dsimp only at hSw); go_simp; with_reducible rfl)
    try simp only [Act.put, List.setIfInBounds_toArray, List.set_cons_zero, List.set_cons_succ]
    refine wpAnyH_take (i := 4) (oi := { dst := some 4, op := Op.assign (Operand.tmp 47), type := 27, pos := "law.go:32", after := #[{ on := 0, ground := Ground.data }, { on := 0, ground := Ground.phase }, { on := 1, ground := Ground.textOnly Departure.lateStores }, { on := 2, ground := Ground.textOnly Departure.lateStores }, { on := 3, ground := Ground.textOnly Departure.lateStores }], guard := none }) (v := ?vk4) rfl (by kernel_rfl) (by kernel_rfl) (by kernel_rfl) (fun _ _ _ h => h) (Or.inl ⟨by rfl, ?hyk4⟩) (by assumption) ?restk4
    case hyk4 => first | (intro w hSw; (try dsimp only at hSw); go_simp; done) | (intro w hSw; (try dsimp only at hSw); go_simp; with_reducible rfl)
    try simp only [Act.put, List.setIfInBounds_toArray, List.set_cons_zero, List.set_cons_succ]
    refine wpAnyH_take (i := 5) (oi := { dst := some 5, op := Op.assign (Operand.tmp 48), type := 3, pos := "law.go:32", after := #[{ on := 1, ground := Ground.data }, { on := 4, ground := Ground.chain }, { on := 0, ground := Ground.phase }, { on := 1, ground := Ground.phase }, { on := 2, ground := Ground.textOnly Departure.lateStores }, { on := 3, ground := Ground.textOnly Departure.lateStores }, { on := 4, ground := Ground.phase }], guard := none }) (v := ?vk5) rfl (by kernel_rfl) (by kernel_rfl) (by kernel_rfl) (fun _ _ _ h => h) (Or.inl ⟨by rfl, ?hyk5⟩) (by assumption) ?restk5
    case hyk5 => first | (intro w hSw; (try dsimp only at hSw); go_simp; done) | (intro w hSw; (try dsimp only at hSw); go_simp; with_reducible rfl)
    try simp only [Act.put, List.setIfInBounds_toArray, List.set_cons_zero, List.set_cons_succ]
    refine wpAnyH_ready (rs := [6]) (by kernel_rfl) (by simp) ?_
    refine AllReadyH.cons (o := { dst := none, op := Op.store 32 (Operand.tmp 6) (Operand.tmp 49), type := 0, pos := "law.go:32", after := #[{ on := 2, ground := Ground.data }, { on := 5, ground := Ground.chain }, { on := 0, ground := Ground.phase }, { on := 1, ground := Ground.phase }, { on := 2, ground := Ground.phase }, { on := 3, ground := Ground.textOnly Departure.lateStores }, { on := 4, ground := Ground.phase }, { on := 5, ground := Ground.phase }], guard := none }) rfl (fun K hK => ?_) AllReadyH.nil
    go_simp
    refine hK.out _ _ ?_ (fun hHeld => ?_)
    · exact ⟨(hfar _ 0).trans hHeld.1, (hfar _ 1).trans hHeld.2.1, (hfar _ 2).trans hHeld.2.2.1, (hfar _ 3).trans hHeld.2.2.2⟩
    clear hK K
    try simp only [Act.put, List.setIfInBounds_toArray, List.set_cons_zero, List.set_cons_succ]
    refine wpAnyH_take (i := 7) (oi := { dst := some 7, op := Op.assign (Operand.tmp 50), type := 29, pos := "law.go:32", after := #[{ on := 3, ground := Ground.data }, { on := 6, ground := Ground.chain }, { on := 0, ground := Ground.phase }, { on := 1, ground := Ground.phase }, { on := 2, ground := Ground.phase }, { on := 3, ground := Ground.phase }, { on := 4, ground := Ground.phase }, { on := 5, ground := Ground.phase }, { on := 6, ground := Ground.phase }], guard := none }) (v := ?vk7) rfl (by kernel_rfl) (by kernel_rfl) (by kernel_rfl) (fun _ _ _ h => h) (Or.inl ⟨by rfl, ?hyk7⟩) (by assumption) ?restk7
    case hyk7 => first | (intro w hSw; (try dsimp only at hSw); go_simp; done) | (intro w hSw; (try dsimp only at hSw); go_simp; with_reducible rfl)
    try simp only [Act.put, List.setIfInBounds_toArray, List.set_cons_zero, List.set_cons_succ]
    refine wpAnyH_done (by kernel_rfl) ?_ _
    obtain ⟨w8, hw8⟩ : ∃ w8, w8 = (((w7.setCell ⟨w1.heap.size, 0, none⟩ (U (Node.num X))).setCell ⟨w1.heap.size, 1, none⟩ (.string (Node.bytes X))).setCell ⟨w1.heap.size, 2, none⟩ (.slice a2 (Node.nums X).length p2)).setCell ⟨w1.heap.size, 3, none⟩ (.slice a3 (Node.kids X).length p3) := ⟨_, rfl⟩
    have hR8 : TB w8 w1.heap.size (U (Node.num X)) (.string (Node.bytes X)) (.slice a2 (Node.nums X).length p2) (.slice a3 (Node.kids X).length p3) := by rw [hw8]; exact (((hR7.set0 _).set1 _).set2 _).set3 _
    have hk9 : ∀ b, b ≠ w1.heap.size → w8.heap[b]? = w7.heap[b]? := fun b hb => by
      rw [hw8, Below.heap_setCell _ _ _ _ hb, Below.heap_setCell _ _ _ _ hb, Below.heap_setCell _ _ _ _ hb, Below.heap_setCell _ _ _ _ hb]
    have hs9 : w8.heap.size = w7.heap.size := by rw [hw8]; simp [World.setCell]
    have hb27 := via Hb26.out hb7
    have hRw : w.heap.size ≤ w1.heap.size := hb1.size
    have hbl9 : Below w.heap.size w w8 := by
      rw [hw8]
      exact ((((via hb12 hb27).setCell (p := ⟨w1.heap.size, 0, none⟩) hRw _).setCell (p := ⟨w1.heap.size, 1, none⟩) hRw _).setCell (p := ⟨w1.heap.size, 2, none⟩) hRw _).setCell (p := ⟨w1.heap.size, 3, none⟩) hRw _
    have Hbl9 := hid hbl9
    have Hk9 := hid hk9
    have hw8' := hw8.symm
    rw [hw8']
    clear hw8 hbl9 hk9
    have hrd8 : RdS (D + 1) w8.drew [(U (Node.num X)), (.string (Node.bytes X)), (.slice a2 (Node.nums X).length p2), (.slice a3 (Node.kids X).length p3)] X := (Hkw.out.below hb7) w8.drew fun b hb hg => Hk9.out b fun e => hg (by have := hb3.size; show b < w3.heap.size; omega)
    have hrow8 := hrow w8.drew fun b hb hg => Hk9.out b fun e => hg (by have := Hb26.out.size; show b < w6.heap.size; omega)
    have hb37 := via Hb36.out hb7
    have hs8 : Sch w8.drew (.slice sa n scap) S := (ownS_keep (w' := w8.drew) Hown.out fun g h1 h2 => (Hk9.out g (by omega)).trans (hb37.block g h2)).sch
    have Hend := hid (And.intro hrd8 (And.intro hrow8 hs8))
    clear hrd8 hrow8 hs8 hfar hrow
    have ⟨_, g0, g1, g2, g3, _⟩ := hR8
    clear r0 r1 r2 r3 rf f0 f1 f2 f3 e0 e1 e2 e3
    go_wp2_with fail
    (try simp only [Exit.inBlock, Exit.then])
    refine bodyPost_ret (by simp [results, Tryd.results9, go_sem, g0, g1, g2, g3]; try rfl) rfl ?_
    obtain ⟨k1, k2, k3⟩ := Hend.out
    exact ⟨_, _, _, _, _, _, S, t, X, by first | rfl | rw [ht] | rw [ht'], Hbl9.out.trans (below_drewN _ w8 1), k3, HSr.out, by rw [← Hn.out]; exact htn, k1, Hmsg.out, k2⟩
  · have hm60' : (m : Int) ≤ 60 := by omega
    have hc := hid (Hcall.out (.slice av m cv) vl (by have h := Hv.out.below hB3 (Nat.le_refl _); rw [← Hm.out] at h ⊢; exact h) (fun z hz => Hvb.out z hz))
    go_wp2_with fail
    ((refine hc.out.mono ?_); rintro r4 w4 ⟨x0, x1, x2, x3, X, rfl, hb4, hrd, hft⟩)
    obtain ⟨a2, p2, a3, p3, hcs, _⟩ := RdN.open hrd.now
    simp only [List.cons.injEq] at hcs
    obtain ⟨rfl, rfl, rfl, rfl, _⟩ := hcs
    have hb24 := via hb3 hb4
    obtain ⟨w5, hw5, hb5, hz5, hV⟩ := TB.make w4 (.int .u64 0) (.string ⟨#[]⟩) (.slice none 0 0) (.slice none 0 0) 32
    obtain ⟨V, hVe⟩ : ∃ V, w4.heap.size = V := ⟨_, rfl⟩
    rw [hVe] at hV
    have hVR : V ≠ w1.heap.size ∧ w1.heap.size ≠ V := by
      have := hb3.size; have := hb4.size; constructor <;> omega
    have ⟨_, v0, v1, v2, v3, vf⟩ := hV
    have vf0 := vf 0
    have vf1 := vf 1
    have vf2 := vf 2
    have vf3 := vf 3
    obtain ⟨w6, hw6⟩ : ∃ w6, w6 = (((w5.setCell ⟨V, 0, none⟩ (U (Node.num X))).setCell ⟨V, 1, none⟩ (.string (Node.bytes X))).setCell ⟨V, 2, none⟩ (.slice a2 (Node.nums X).length p2)).setCell ⟨V, 3, none⟩ (.slice a3 (Node.kids X).length p3) := ⟨_, rfl⟩
    have hV6 : TB w6 V (U (Node.num X)) (.string (Node.bytes X)) (.slice a2 (Node.nums X).length p2) (.slice a3 (Node.kids X).length p3) := by rw [hw6]; exact (((hV.set0 _).set1 _).set2 _).set3 _
    have hk6 : ∀ b, b ≠ V → w6.heap[b]? = w5.heap[b]? := fun b hb => by
      rw [hw6, Below.heap_setCell _ _ _ _ hb, Below.heap_setCell _ _ _ _ hb, Below.heap_setCell _ _ _ _ hb, Below.heap_setCell _ _ _ _ hb]
    have hs6 : w6.heap.size = w5.heap.size := by rw [hw6]; simp [World.setCell]
    have hV4 : w4.heap.size ≤ V := Nat.le_of_eq hVe
    have hb46 : Below w4.heap.size w4 w6 := by
      rw [hw6]
      exact ((((hb5).setCell (p := ⟨V, 0, none⟩) hV4 _).setCell (p := ⟨V, 1, none⟩) hV4 _).setCell (p := ⟨V, 2, none⟩) hV4 _).setCell (p := ⟨V, 3, none⟩) hV4 _
    have hb36 : Below w3.heap.size w3 w6 := via hb4 hb46
    have Hkw := hid (hrd.below hb46)
    have Hb36 := hid hb36
    have hrd6 : RdS (D + 1) w6 [(U (Node.num X)), (.string (Node.bytes X)), (.slice a2 (Node.nums X).length p2), (.slice a3 (Node.kids X).length p3)] X := hrd.below hb46 |>.now
    have hbd := hid (Hbuild.out X [(U (Node.num X)), (.string (Node.bytes X)), (.slice a2 (Node.nums X).length p2), (.slice a3 (Node.kids X).length p3)] w6 hb36 hrd6)
    have hR6 := hR.below (via hb3 hb36)
    have Hrd6 := hid hrd6
    have Hb26 := hid (via hb3 hb36)
    have Hs6 := hid (Hs.out.below hb36 (Nat.le_refl _))
    have Hmsg := hid hft
    have hw6' := hw6.symm
    clear hw6 hrd hft hk6 hs6 hV hb46 hb24 hb36 hrd6 hb4
    have hV6' := hV6
    have ⟨_, e0, e1, e2, e3, _⟩ := hV6'
    go_wp2_with fail
    clear v0 v1 v2 v3 vf0 vf1 vf2 vf3 vf
    ((refine hbd.out.mono ?_); rintro r7 w7 ⟨wv, rfl, hrow, hb7⟩)
    have hV7 := hV6.below hb7
    clear e0 e1 e2 e3
    have hV7' := hV7
    have ⟨_, e0, e1, e2, e3, _⟩ := hV7'
    have hR7 := hR6.below hb7
    have ⟨_, r0, r1, r2, r3, rf⟩ := hR7
    have f0 := rf 0
    have f1 := rf 1
    have f2 := rf 2
    have f3 := rf 3
    go_wp2_with fail
    have hfar : ∀ (W : World) (j : Nat), ((((W.setCell ⟨w1.heap.size, 0, none⟩ (U (Node.num X))).setCell ⟨w1.heap.size, 1, none⟩ (.string (Node.bytes X))).setCell ⟨w1.heap.size, 2, none⟩ (.slice a2 (Node.nums X).length p2)).setCell ⟨w1.heap.size, 3, none⟩ (.slice a3 (Node.kids X).length p3)).cell? ⟨V, j, none⟩ = W.cell? ⟨V, j, none⟩ := fun W j => by
      rw [World.cell?_setCell_other _ _ _ _ (by simp [hVR.2]), World.cell?_setCell_other _ _ _ _ (by simp [hVR.2]), World.cell?_setCell_other _ _ _ _ (by simp [hVR.2]), World.cell?_setCell_other _ _ _ _ (by simp [hVR.2])]
    refine wp_region_held_drew (S := (fun W => W.cell? ⟨V, 0, none⟩ = some (U (Node.num X)) ∧ W.cell? ⟨V, 1, none⟩ = some (.string (Node.bytes X)) ∧ W.cell? ⟨V, 2, none⟩ = some (.slice a2 (Node.nums X).length p2) ∧ W.cell? ⟨V, 3, none⟩ = some (.slice a3 (Node.kids X).length p3))) (by kernel_rfl) ?_ (fun hHeld => ?_)
    · exact ⟨e0, e1, e2, e3⟩
    refine wpAnyH_take (i := 0) (oi := { dst := some 47, op := Op.move (Operand.tmp 8), type := 27, pos := "law.go:32", after := #[], guard := none }) (v := ?vm0) rfl (by kernel_rfl) (by kernel_rfl) (by kernel_rfl) (fun _ _ _ h => h) (Or.inl ⟨by rfl, ?hym0⟩) (by assumption) ?restm0
    case hym0 => first | (intro w hSw; (try dsimp only at hSw); go_simp; done) | (intro w hSw; (try dsimp only at hSw); go_simp; with_reducible rfl)
    try simp only [Act.put, List.setIfInBounds_toArray, List.set_cons_zero, List.set_cons_succ]
    refine wpAnyH_take (i := 1) (oi := { dst := some 48, op := Op.move (Operand.tmp 9), type := 3, pos := "law.go:32", after := #[{ on := 4, ground := Ground.gcOnly Departure.lateStores }], guard := none }) (v := ?vm1) rfl (by kernel_rfl) (by kernel_rfl) (by kernel_rfl) (fun _ _ _ h => h) (Or.inl ⟨by rfl, ?hym1⟩) (by assumption) ?restm1
    case hym1 => first | (intro w hSw; (try dsimp only at hSw); go_simp; done) | (intro w hSw; (try dsimp only at hSw); go_simp; with_reducible rfl)
    try simp only [Act.put, List.setIfInBounds_toArray, List.set_cons_zero, List.set_cons_succ]
    refine wpAnyH_take (i := 2) (oi := { dst := some 49, op := Op.load 32 (Operand.tmp 11), type := 32, pos := "law.go:32", after := #[{ on := 5, ground := Ground.gcOnly Departure.lateStores }], guard := none }) (v := ?vm2) rfl (by kernel_rfl) (by kernel_rfl) (by kernel_rfl) (fun _ _ _ h => h) (Or.inl ⟨by rfl, ?hym2⟩) (by assumption) ?restm2
    case hym2 => first | (intro w hSw; (try dsimp only at hSw); go_simp; done) | (intro w hSw; (try dsimp only at hSw); go_simp; with_reducible rfl)
    try simp only [Act.put, List.setIfInBounds_toArray, List.set_cons_zero, List.set_cons_succ]
    refine wpAnyH_take (i := 3) (oi := { dst := some 50, op := Op.move (Operand.tmp 12), type := 29, pos := "law.go:32", after := #[{ on := 6, ground := Ground.gcOnly Departure.lateStores }], guard := none }) (v := ?vm3) rfl (by kernel_rfl) (by kernel_rfl) (by kernel_rfl) (fun _ _ _ h => h) (Or.inl ⟨by rfl, ?hym3⟩) (by assumption) ?restm3
    case hym3 => first | (intro w hSw; (try dsimp only at hSw); go_simp; done) | (intro w hSw; (try dsimp only at hSw); go_simp; with_reducible rfl)
    try simp only [Act.put, List.setIfInBounds_toArray, List.set_cons_zero, List.set_cons_succ]
    refine wpAnyH_take (i := 4) (oi := { dst := some 4, op := Op.assign (Operand.tmp 47), type := 27, pos := "law.go:32", after := #[{ on := 0, ground := Ground.data }, { on := 0, ground := Ground.phase }, { on := 1, ground := Ground.textOnly Departure.lateStores }, { on := 2, ground := Ground.textOnly Departure.lateStores }, { on := 3, ground := Ground.textOnly Departure.lateStores }], guard := none }) (v := ?vm4) rfl (by kernel_rfl) (by kernel_rfl) (by kernel_rfl) (fun _ _ _ h => h) (Or.inl ⟨by rfl, ?hym4⟩) (by assumption) ?restm4
    case hym4 => first | (intro w hSw; (try dsimp only at hSw); go_simp; done) | (intro w hSw; (try dsimp only at hSw); go_simp; with_reducible rfl)
    try simp only [Act.put, List.setIfInBounds_toArray, List.set_cons_zero, List.set_cons_succ]
    refine wpAnyH_take (i := 5) (oi := { dst := some 5, op := Op.assign (Operand.tmp 48), type := 3, pos := "law.go:32", after := #[{ on := 1, ground := Ground.data }, { on := 4, ground := Ground.chain }, { on := 0, ground := Ground.phase }, { on := 1, ground := Ground.phase }, { on := 2, ground := Ground.textOnly Departure.lateStores }, { on := 3, ground := Ground.textOnly Departure.lateStores }, { on := 4, ground := Ground.phase }], guard := none }) (v := ?vm5) rfl (by kernel_rfl) (by kernel_rfl) (by kernel_rfl) (fun _ _ _ h => h) (Or.inl ⟨by rfl, ?hym5⟩) (by assumption) ?restm5
    case hym5 => first | (intro w hSw; (try dsimp only at hSw); go_simp; done) | (intro w hSw; (try dsimp only at hSw); go_simp; with_reducible rfl)
    try simp only [Act.put, List.setIfInBounds_toArray, List.set_cons_zero, List.set_cons_succ]
    refine wpAnyH_ready (rs := [6]) (by kernel_rfl) (by simp) ?_
    refine AllReadyH.cons (o := { dst := none, op := Op.store 32 (Operand.tmp 6) (Operand.tmp 49), type := 0, pos := "law.go:32", after := #[{ on := 2, ground := Ground.data }, { on := 5, ground := Ground.chain }, { on := 0, ground := Ground.phase }, { on := 1, ground := Ground.phase }, { on := 2, ground := Ground.phase }, { on := 3, ground := Ground.textOnly Departure.lateStores }, { on := 4, ground := Ground.phase }, { on := 5, ground := Ground.phase }], guard := none }) rfl (fun K hK => ?_) AllReadyH.nil
    go_simp
    refine hK.out _ _ ?_ (fun hHeld => ?_)
    · exact ⟨(hfar _ 0).trans hHeld.1, (hfar _ 1).trans hHeld.2.1, (hfar _ 2).trans hHeld.2.2.1, (hfar _ 3).trans hHeld.2.2.2⟩
    clear hK K
    try simp only [Act.put, List.setIfInBounds_toArray, List.set_cons_zero, List.set_cons_succ]
    refine wpAnyH_take (i := 7) (oi := { dst := some 7, op := Op.assign (Operand.tmp 50), type := 29, pos := "law.go:32", after := #[{ on := 3, ground := Ground.data }, { on := 6, ground := Ground.chain }, { on := 0, ground := Ground.phase }, { on := 1, ground := Ground.phase }, { on := 2, ground := Ground.phase }, { on := 3, ground := Ground.phase }, { on := 4, ground := Ground.phase }, { on := 5, ground := Ground.phase }, { on := 6, ground := Ground.phase }], guard := none }) (v := ?vm7) rfl (by kernel_rfl) (by kernel_rfl) (by kernel_rfl) (fun _ _ _ h => h) (Or.inl ⟨by rfl, ?hym7⟩) (by assumption) ?restm7
    case hym7 => first | (intro w hSw; (try dsimp only at hSw); go_simp; done) | (intro w hSw; (try dsimp only at hSw); go_simp; with_reducible rfl)
    try simp only [Act.put, List.setIfInBounds_toArray, List.set_cons_zero, List.set_cons_succ]
    refine wpAnyH_done (by kernel_rfl) ?_ _
    obtain ⟨w8, hw8⟩ : ∃ w8, w8 = (((w7.setCell ⟨w1.heap.size, 0, none⟩ (U (Node.num X))).setCell ⟨w1.heap.size, 1, none⟩ (.string (Node.bytes X))).setCell ⟨w1.heap.size, 2, none⟩ (.slice a2 (Node.nums X).length p2)).setCell ⟨w1.heap.size, 3, none⟩ (.slice a3 (Node.kids X).length p3) := ⟨_, rfl⟩
    have hR8 : TB w8 w1.heap.size (U (Node.num X)) (.string (Node.bytes X)) (.slice a2 (Node.nums X).length p2) (.slice a3 (Node.kids X).length p3) := by rw [hw8]; exact (((hR7.set0 _).set1 _).set2 _).set3 _
    have hk9 : ∀ b, b ≠ w1.heap.size → w8.heap[b]? = w7.heap[b]? := fun b hb => by
      rw [hw8, Below.heap_setCell _ _ _ _ hb, Below.heap_setCell _ _ _ _ hb, Below.heap_setCell _ _ _ _ hb, Below.heap_setCell _ _ _ _ hb]
    have hs9 : w8.heap.size = w7.heap.size := by rw [hw8]; simp [World.setCell]
    have hb27 := via Hb26.out hb7
    have hRw : w.heap.size ≤ w1.heap.size := hb1.size
    have hbl9 : Below w.heap.size w w8 := by
      rw [hw8]
      exact ((((via hb12 hb27).setCell (p := ⟨w1.heap.size, 0, none⟩) hRw _).setCell (p := ⟨w1.heap.size, 1, none⟩) hRw _).setCell (p := ⟨w1.heap.size, 2, none⟩) hRw _).setCell (p := ⟨w1.heap.size, 3, none⟩) hRw _
    have Hbl9 := hid hbl9
    have Hk9 := hid hk9
    have hw8' := hw8.symm
    rw [hw8']
    clear hw8 hbl9 hk9
    have hrd8 : RdS (D + 1) w8.drew [(U (Node.num X)), (.string (Node.bytes X)), (.slice a2 (Node.nums X).length p2), (.slice a3 (Node.kids X).length p3)] X := (Hkw.out.below hb7) w8.drew fun b hb hg => Hk9.out b fun e => hg (by have := hb3.size; show b < w3.heap.size; omega)
    have hrow8 := hrow w8.drew fun b hb hg => Hk9.out b fun e => hg (by have := Hb26.out.size; show b < w6.heap.size; omega)
    have hb37 := via Hb36.out hb7
    have hs8 : Sch w8.drew (.slice sa n scap) S := (ownS_keep (w' := w8.drew) Hown.out fun g h1 h2 => (Hk9.out g (by omega)).trans (hb37.block g h2)).sch
    have Hend := hid (And.intro hrd8 (And.intro hrow8 hs8))
    clear hrd8 hrow8 hs8 hfar hrow
    have ⟨_, g0, g1, g2, g3, _⟩ := hR8
    clear r0 r1 r2 r3 rf f0 f1 f2 f3 e0 e1 e2 e3
    go_wp2_with fail
    (try simp only [Exit.inBlock, Exit.then])
    refine bodyPost_ret (by simp [results, Tryd.results9, go_sem, g0, g1, g2, g3]; try rfl) rfl ?_
    obtain ⟨k1, k2, k3⟩ := Hend.out
    exact ⟨_, _, _, _, _, _, S, t, X, by first | rfl | rw [ht] | rw [ht'], Hbl9.out.trans (below_drewN _ w8 1), k3, HSr.out, by rw [← Hn.out]; exact htn, k1, Hmsg.out, k2⟩
end SKMade

end Go.Proofs.YtblbhlgihlgncaaDoor

