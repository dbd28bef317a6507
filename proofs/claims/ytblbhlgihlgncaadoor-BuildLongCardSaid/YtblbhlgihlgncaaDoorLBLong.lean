/- BuildLong: a message of up to 200 words is built, a longer one is not. -/
import Derived.Test.YtblbhlgihlgncaaDoorBlgJ
import Derived.Test.YtblbhlgihlgncaaDoorAw7
import Derived.Test.YtblbhlgihlgncaaDoorLBSizes
import Derived.Test.YtblbhlgihlgncaaDoorGq
set_option linter.unusedVariables false
set_option linter.unusedSimpArgs false
namespace Go.Proofs.YtblbhlgihlgncaaDoor
section SLBLong
open Go.RowKit

theorem rest_nat (z m : Int) (hm : 0 < m) (hm2 : m ≤ 1000) : ∃ k : Nat, (k : Int) < m ∧ IntKind.i64.wrap (z.tmod m) = z.tmod m ∧ IntKind.i64.wrap (z.tmod m + m) = z.tmod m + m ∧ (z.tmod m + m).tmod m = k ∧ IntKind.i64.wrap (k : Int) = k := by
  have t1 := Int.tmod_lt_of_pos z hm
  have t2 := Int.lt_tmod_of_pos z hm
  obtain ⟨x, hx⟩ : ∃ x, Int.tmod z m = x := ⟨_, rfl⟩
  rw [hx] at t1 t2 ⊢
  have e : (x + m).tmod m = (x + m) % m := Int.tmod_eq_emod_of_nonneg (by omega)
  have e0 := Int.emod_nonneg (x + m) (show m ≠ 0 by omega)
  have e1 := Int.emod_lt_of_pos (x + m) hm
  refine ⟨((x + m) % m).toNat, by omega, IntWalk.i64_in _ (by omega), IntWalk.i64_in _ (by omega), by rw [e]; omega, IntWalk.i64_in _ (by omega)⟩

def LW (w : World) : World := ((((w.alloc (.cells #[.int .i64 5, .int .i64 1] 24)).alloc (.cells #[.int .i64 3, .int .i64 0, .int .i64 3, .int .i64 0, .int .i64 3, .int .i64 0] 24)).alloc
  (.cells #[.slice (some ⟨w.heap.size, 0, none⟩) 1 1, .slice (some ⟨w.heap.size + 1, 0, none⟩) 3 3] 25)).alloc (.cells #[.int .u64 0, .string ⟨#[]⟩, .slice none 0 0, .slice none 0 0] 32)).alloc
  (.cells #[.int .u64 0, .string ⟨#[]⟩, .slice none 0 0, .slice (some ⟨w.heap.size + 1 + 1 + 1, 0, none⟩) 1 1] 32)

/-- What lies there before the structs are made. -/
structure LaidL (w2 wk : World) (SB Kb V : Nat) : Prop where
  bl : Below w2.heap.size w2 wk
  sch : ∀ W : World, Below w2.heap.size w2 W → (∀ b, b < Kb → W.heap[b]? = wk.heap[b]?) → Kb ≤ W.heap.size → Sch W (.slice (some ⟨SB, 0, none⟩) 2 2) S3
  tk : TB wk Kb (.int .u64 0) (.string ⟨#[]⟩) (.slice none 0 0) (.slice none 0 0)
  tv : TB wk V (.int .u64 0) (.string ⟨#[]⟩) (.slice none 0 0) (.slice (some ⟨Kb, 0, none⟩) 1 1)
  ne : V ≠ Kb
  le : w2.heap.size ≤ Kb
  nsb : SB < Kb ∧ w2.heap.size ≤ SB
theorem laidL (w : World) : LaidL w (LW w) (w.heap.size + 1 + 1) (w.heap.size + 1 + 1 + 1) (w.heap.size + 1 + 1 + 1 + 1) := by
  unfold LW
  have h1 := row_new w #[.int .i64 5, .int .i64 1] 24 2 1 rfl (by simp [maxLen])
  have b1 := below_alloc w (.cells #[.int .i64 5, .int .i64 1] 24)
  have e1 : (w.alloc (.cells #[.int .i64 5, .int .i64 1] 24)).heap.size = w.heap.size + 1 := by simp
  generalize w.alloc (.cells #[.int .i64 5, .int .i64 1] 24) = w1 at *
  have h2 := row_new w1 #[.int .i64 3, .int .i64 0, .int .i64 3, .int .i64 0, .int .i64 3, .int .i64 0] 24 2 3 rfl (by simp [maxLen])
  have b2 := below_alloc w1 (.cells #[.int .i64 3, .int .i64 0, .int .i64 3, .int .i64 0, .int .i64 3, .int .i64 0] 24)
  have e2 : (w1.alloc (.cells #[.int .i64 3, .int .i64 0, .int .i64 3, .int .i64 0, .int .i64 3, .int .i64 0] 24)).heap.size = w.heap.size + 1 + 1 := by simp [e1]
  rw [e1] at h2
  generalize w1.alloc (.cells #[.int .i64 3, .int .i64 0, .int .i64 3, .int .i64 0, .int .i64 3, .int .i64 0] 24) = w2 at *
  have h3 := row_new w2 #[.slice (some ⟨w.heap.size, 0, none⟩) 1 1, .slice (some ⟨w.heap.size + 1, 0, none⟩) 3 3] 25 1 2 rfl (by simp [maxLen])
  have b3 := below_alloc w2 (.cells #[.slice (some ⟨w.heap.size, 0, none⟩) 1 1, .slice (some ⟨w.heap.size + 1, 0, none⟩) 3 3] 25)
  have e3 : (w2.alloc (.cells #[.slice (some ⟨w.heap.size, 0, none⟩) 1 1, .slice (some ⟨w.heap.size + 1, 0, none⟩) 3 3] 25)).heap.size = w.heap.size + 1 + 1 + 1 := by simp [e2]
  rw [e2] at h3
  have hS : Sch (w2.alloc (.cells #[.slice (some ⟨w.heap.size, 0, none⟩) 1 1, .slice (some ⟨w.heap.size + 1, 0, none⟩) 3 3] 25)) (.slice (some ⟨w.heap.size + 1 + 1, 0, none⟩) 2 2) S3 := by
    refine ⟨_, h3, fun i l hl => ?_⟩
    match i, hl with
    | 0, hl =>
      obtain rfl := Option.some.inj hl
      exact ⟨_, rfl, (h1.below b2 (Nat.le_refl _)).below b3 (Nat.le_refl _)⟩
    | 1, hl =>
      obtain rfl := Option.some.inj hl
      exact ⟨_, rfl, h2.below b3 (Nat.le_refl _)⟩
    | i + 2, hl => simp [S3] at hl
  generalize w2.alloc (.cells #[.slice (some ⟨w.heap.size, 0, none⟩) 1 1, .slice (some ⟨w.heap.size + 1, 0, none⟩) 3 3] 25) = w3 at *
  obtain ⟨w4, hw4, b4, e4, t4⟩ := TB.make w3 (.int .u64 0) (.string ⟨#[]⟩) (.slice none 0 0) (.slice none 0 0) 32
  rw [hw4]
  obtain ⟨w5, hw5, b5, e5, t5⟩ := TB.make w4 (.int .u64 0) (.string ⟨#[]⟩) (.slice none 0 0) (.slice (some ⟨w.heap.size + 1 + 1 + 1, 0, none⟩) 1 1) 32
  rw [hw5]
  rw [e3] at t4 e4
  rw [e4] at t5
  have b13 := via b1 (via b2 b3)
  have hsch : ∀ W : World, Below w.heap.size w W → (∀ b, b < w.heap.size + 1 + 1 + 1 → W.heap[b]? = w5.heap[b]?) → w.heap.size + 1 + 1 + 1 ≤ W.heap.size → Sch W (.slice (some ⟨w.heap.size + 1 + 1, 0, none⟩) 2 2) S3 := fun W hW hb hs =>
    hS.below (B := w3.heap.size) ⟨hW.os.trans b13.os.symm, hW.tape.trans b13.tape.symm, hW.output.trans b13.output.symm, by omega, fun b hlt => by rw [hb b (by omega), (via b4 b5).block b hlt]⟩ (Nat.le_refl _)
  exact ⟨via b1 (via b2 (via b3 (via b4 b5))), hsch, t4.below b5, t5, by omega, by omega, by omega, by omega⟩

theorem madeT3 : (madeCells (Value.agg #[.int .u64 0, .string ⟨#[]⟩, .slice none 0 0, .slice none 0 0]).cells (3 * 4)).toList = c3L [] := by
  simp only [madeCells, Array.toList_map, Array.toList_range, Value.cells]
  rfl
theorem one0 {n i : Nat} {wr w5 : World} (ho : w5.ownsRow wr.heap.size 32 4 (.slice (some ⟨wr.heap.size, 0, none⟩) 3 3) 3 (madeCells (Value.agg #[.int .u64 0, .string ⟨#[]⟩, .slice none 0 0, .slice none 0 0]).cells (3 * 4)).toList) (hg : wr.grownBy w5 none) :
    OneJ n i wr w5.heap.size wr.heap.size 0 [] (w5.alloc (.cells #[.int .u64 0, .string ⟨#[]⟩, .slice none 0 0, .slice (some ⟨wr.heap.size, 0, none⟩) 3 3] 32)) := by
  rw [madeT3] at ho
  obtain ⟨w6, hw6, hb6, hz6, hT⟩ := TB.make w5 (.int .u64 0) (.string ⟨#[]⟩) (.slice none 0 0) (.slice (some ⟨wr.heap.size, 0, none⟩) 3 3) 32
  rw [hw6]
  have hlt := (own_blk ho (g := wr.heap.size) rfl).1.lt
  have hb5 : Below wr.heap.size wr w5 := (Below.refl _ wr).grown hg (Nat.le_refl _) (fun b e => by cases e)
  exact ⟨via hb5 hb6, hT, own_beneath ho hb6, rfl, ⟨by omega, by omega, by omega, Nat.le_refl _, by omega⟩, fun q hq => absurd hq (by omega)⟩

/-- r of a struct's rows are made. -/
def OneR (n i : Nat) (wr : World) (O G : Nat) (lv jv : Value) (wj : World) : Prop :=
  ∃ (r : Nat) (ns : List Value), r ≤ 3 ∧ jv = .int .i64 r ∧ lv = .int .i64 ((n - 12 * (3 * i + r) : Nat) : Int) ∧ OneJ n i wr O G r ns wj
/-- i structs are made. -/
def BlR (n k : Nat) (w2 wk : World) (Kb : Nat) (lv iv : Value) (wr : World) : Prop :=
  ∃ (i : Nat) (xs : List Value) (kv : Value), i ≤ k ∧ iv = .int .i64 i ∧ lv = .int .i64 ((n - 36 * i : Nat) : Int) ∧ InJ (oneN3 n) w2 wk Kb i xs kv wr

set_option maxRecDepth 100000 in
set_option maxHeartbeats 8000000 in
theorem blong_walk (mv nv : Int) (w : World) (hl : LaidE w) :
    Calls Tryd.prog 3 #[.int .i64 mv, .int .i64 nv] w fun r w' => r = .returned (.bool true) ∧ Below w.heap.size w w' := by
  obtain ⟨iT, hiT, hzT, hsT, hbT⟩ := info_parts (show (Tryd.prog.info? 32).map (fun i => (i.zero, i.size, i.bytes)) = some (some (.agg #[.int .u64 0, .string ⟨#[]⟩, .slice none 0 0, .slice none 0 0]), 4, 72) by kernel_rfl)
  obtain ⟨iU, hiU, hzU, hsU, hbU⟩ := info_parts (show (Tryd.prog.info? 28).map (fun i => (i.zero, i.size, i.bytes)) = some (some (.int .u64 0), 1, 8) by kernel_rfl)
  obtain ⟨k0, hk0, hk1, hk2, hk3, hk4⟩ := rest_nat mv 12 (by omega) (by omega)
  obtain ⟨n, hn0, hn1, hn2, hn3, hn4⟩ := rest_nat nv 241 (by omega) (by omega)
  obtain ⟨k, hk⟩ : ∃ k : Nat, IntKind.i64.wrap (1 + (k0 : Int)) = k ∧ 1 ≤ k ∧ k ≤ 12 := ⟨k0 + 1, by rw [IntWalk.i64_in _ (by omega)]; omega, by omega, by omega⟩
  have hkk := hk.1
  go_enter Tryd.func3, Tryd.ntmps3
  go_wp2_with fail
  ((refine (awake07 _ hl).mono ?_); rintro r2 w2 ⟨rfl, hb2⟩)
  go_wp2_with fail
  have hLL := laidL w2
  unfold LW at hLL
  generalize ((((w2.alloc (.cells #[.int .i64 5, .int .i64 1] 24)).alloc (.cells #[.int .i64 3, .int .i64 0, .int .i64 3, .int .i64 0, .int .i64 3, .int .i64 0] 24)).alloc
    (.cells #[.slice (some ⟨w2.heap.size, 0, none⟩) 1 1, .slice (some ⟨w2.heap.size + 1, 0, none⟩) 3 3] 25)).alloc (.cells #[.int .u64 0, .string ⟨#[]⟩, .slice none 0 0, .slice none 0 0] 32)).alloc
    (.cells #[.int .u64 0, .string ⟨#[]⟩, .slice none 0 0, .slice (some ⟨w2.heap.size + 1 + 1 + 1, 0, none⟩) 1 1] 32) = wk at *
  generalize w2.heap.size + 1 + 1 + 1 + 1 = V at *
  generalize w2.heap.size + 1 + 1 + 1 = Kb at *
  generalize w2.heap.size + 1 + 1 = SB at *
  go_loopw [9, 11] (fun lv iv wr => BlR n k w2 wk Kb lv iv wr) (fun _ iv _ => k - (intOf iv).toNat)
  case atStart => exact ⟨0, [], .slice none 0 0, by omega, rfl, rfl, hLL.bl, Nat.le_refl _, fun _ _ _ => rfl, hLL.tk, own_nil _ _ _ _, KK.nil _ _ _, hLL.le, hLL.tk.lt⟩
  case round =>
    obtain ⟨i, xs, kv, hik, rfl, rfl, hin⟩ := hrel
    by_cases hlt : i < k
    · have hlt' : (i : Int) < (k : Int) := by omega
      have hHLL := hid hLL
      have ⟨_, c0, c1, c2, c3, cf⟩ := hin.tb
      obtain ⟨ak, ck, rfl⟩ := own_shape hin.own
      clear hLL
      go_wp2_with ((refine wpList_make_full _ rfl (.const (.int .i64 3)) (.const (.int .i64 3)) 30 rfl wr.heap.size 32 iT _ 4 Tryd.underlying30 hiT hzT hsT .i64 .i64 3 3 3 rfl rfl rfl rfl (by rw [hbT]; omega) (by unfold maxLen; omega) (Nat.le_refl _) ?_); intro w5 ho5 hg5)
      have hone0 := hid (show OneR n i wr w5.heap.size wr.heap.size (.int .i64 ((n - 36 * i : Nat) : Int)) (.int .i64 0) _ from ⟨0, [], by omega, rfl, by rw [show 12 * (3 * i + 0) = 36 * i by omega], one0 ho5 hg5⟩)
      generalize w5.alloc (.cells #[.int .u64 0, .string ⟨#[]⟩, .slice none 0 0, .slice (some ⟨wr.heap.size, 0, none⟩) 3 3] 32) = wo at *
      generalize w5.heap.size = O at *
      obtain ⟨wi, hwi⟩ : ∃ wi, wi = wr := ⟨_, rfl⟩
      subst hwi
      clear ho5 hg5 c0 c1 c2 c3 cf
      go_loopw [9, 13] (fun lv jv wj => OneR n i wi O wi.heap.size lv jv wj) (fun _ jv _ => 3 - (intOf jv).toNat)
      case atStart => exact hone0.out
      case round =>
        clear hone0
        obtain ⟨r, ns, hr3, rfl, rfl, hj⟩ := hrel
        have ⟨_, d0, d1, d2, d3, df⟩ := hj.tb
        by_cases hr : r < 3
        · have hr' : (r : Int) < 3 := by omega
          obtain ⟨L, hL⟩ : ∃ L, n - 12 * (3 * i + r) = L := ⟨_, rfl⟩
          have HL := hid hL
          rw [hL]
          have hL240 : L ≤ 240 := by omega
          have hcell := hj.cell hr
          have hfz := hj.own.frozenAt (r * 4 + 2)
          have hsO := hj.vr.2.2.1
          have hsG := hj.vr.2.2.2.2
          clear hL
          by_cases h12 : (L : Int) ≤ 12
          · go_wp2_with fail
            refine wp_region_held_drew (S := (fun W => W.cell? ⟨O, 3, none⟩ = some (.slice (some ⟨wi.heap.size, 0, none⟩) 3 3))) (by kernel_rfl) ?_ (fun hHeld => ?_)
            · exact d3
            refine wpAnyH_take (i := 0) (oi := { dst := some 52, op := Op.fieldAddr 32 (Operand.tmp 12) 3, type := 0, pos := "law.go:169", after := #[], guard := none }) (v := ?va0) rfl (by kernel_rfl) (by kernel_rfl) (by kernel_rfl) (fun _ _ _ h => h) (Or.inl ⟨by rfl, ?hya0⟩) (by assumption) ?resta0
            case hya0 => first | (intro w hSw; (try dsimp only at hSw); go_simp; done) | (intro w hSw; (try dsimp only at hSw); go_simp; with_reducible rfl)
            try simp only [Act.put, List.setIfInBounds_toArray, List.set_cons_zero, List.set_cons_succ]
            refine wpAnyH_take (i := 1) (oi := { dst := some 53, op := Op.load 30 (Operand.tmp 52), type := 30, pos := "law.go:169", after := #[{ on := 0, ground := Ground.data }], guard := none }) (v := ?va1) rfl (by kernel_rfl) (by kernel_rfl) (by kernel_rfl) (fun _ _ _ h => h) (Or.inl ⟨by rfl, ?hya1⟩) (by assumption) ?resta1
            case hya1 => first | (intro w hSw; (try dsimp only at hSw); go_simp; done) | (intro w hSw; (try dsimp only at hSw); go_simp; with_reducible rfl)
            try simp only [Act.put, List.setIfInBounds_toArray, List.set_cons_zero, List.set_cons_succ]
            refine wpAnyH_take (i := 2) (oi := { dst := some 54, op := Op.move (Operand.tmp 13), type := 3, pos := "law.go:169", after := #[], guard := none }) (v := ?va2) rfl (by kernel_rfl) (by kernel_rfl) (by kernel_rfl) (fun _ _ _ h => h) (Or.inl ⟨by rfl, ?hya2⟩) (by assumption) ?resta2
            case hya2 => first | (intro w hSw; (try dsimp only at hSw); go_simp; done) | (intro w hSw; (try dsimp only at hSw); go_simp; with_reducible rfl)
            try simp only [Act.put, List.setIfInBounds_toArray, List.set_cons_zero, List.set_cons_succ]
            refine wpAnyH_take (i := 3) (oi := { dst := some 55, op := Op.move (Operand.tmp 14), type := 3, pos := "law.go:169", after := #[], guard := none }) (v := ?va3) rfl (by kernel_rfl) (by kernel_rfl) (by kernel_rfl) (fun _ _ _ h => h) (Or.inl ⟨by rfl, ?hya3⟩) (by assumption) ?resta3
            case hya3 => first | (intro w hSw; (try dsimp only at hSw); go_simp; done) | (intro w hSw; (try dsimp only at hSw); go_simp; with_reducible rfl)
            try simp only [Act.put, List.setIfInBounds_toArray, List.set_cons_zero, List.set_cons_succ]
            refine wpAnyH_ready (rs := [4]) (by kernel_rfl) (by simp) ?_
            refine AllReadyH.cons (o := { dst := some 56, op := Op.makeSlice 29 (Operand.tmp 55) (Operand.tmp 55), type := 29, pos := "law.go:169", after := #[{ on := 3, ground := Ground.data }, { on := 3, ground := Ground.data }], guard := none }) rfl (fun K hK => ?_) AllReadyH.nil
            rw [if_pos (by rfl)]
            refine wp_make_full _ (.tmp 55) (.tmp 55) 29 rfl wr.heap.size 28 iU _ 1 Tryd.underlying29 hiU hzU hsU .i64 .i64 (L : Int) (L : Int) L rfl rfl rfl rfl (by rw [hbU]; omega) (by unfold maxLen; omega) (Nat.le_refl _) ?_
            intro w5 ho5 hg5
            rw [madeU] at ho5
            have e3 := hg5.cell (a := ⟨O, 3, none⟩) d3 (fun e => by cases e)
            have e7 := hg5.cell (a := ⟨wi.heap.size, r * 4 + 2, none⟩) hcell (fun e => by cases e)
            have f7 : w5.frozen? ⟨wi.heap.size, r * 4 + 2, none⟩ = false := (World.frozen?_of_block (a := ⟨wi.heap.size, r * 4 + 2, none⟩) (hg5.block wi.heap.size hsG (fun e => by cases e))).trans hfz
            refine hK.out _ _ ?_ (fun hHeld => ?_)
            · exact e3
            clear hK K
            try simp only [Act.put, List.setIfInBounds_toArray, List.set_cons_zero, List.set_cons_succ]
            refine wpAnyH_take (i := 5) (oi := { dst := some 57, op := Op.indexAddr 30 (Operand.tmp 53) (Operand.tmp 54), type := 0, pos := "law.go:169", after := #[{ on := 1, ground := Ground.data }, { on := 2, ground := Ground.data }, { on := 0, ground := Ground.phase }, { on := 1, ground := Ground.phase }, { on := 2, ground := Ground.phase }, { on := 3, ground := Ground.phase }, { on := 4, ground := Ground.phase }], guard := none }) (v := ?va5) rfl (by kernel_rfl) (by kernel_rfl) (by kernel_rfl) (fun _ _ _ h => h) (Or.inl ⟨by rfl, ?hya5⟩) (by assumption) ?resta5
            case hya5 => first | (intro w hSw; (try dsimp only at hSw); go_simp; done) | (intro w hSw; (try dsimp only at hSw); go_simp; with_reducible rfl)
            try simp only [Act.put, List.setIfInBounds_toArray, List.set_cons_zero, List.set_cons_succ]
            refine wpAnyH_take (i := 6) (oi := { dst := some 58, op := Op.fieldAddr 32 (Operand.tmp 57) 2, type := 0, pos := "law.go:169", after := #[{ on := 5, ground := Ground.data }, { on := 0, ground := Ground.phase }, { on := 1, ground := Ground.phase }, { on := 2, ground := Ground.phase }, { on := 3, ground := Ground.phase }, { on := 4, ground := Ground.phase }], guard := none }) (v := ?va6) rfl (by kernel_rfl) (by kernel_rfl) (by kernel_rfl) (fun _ _ _ h => h) (Or.inl ⟨by rfl, ?hya6⟩) (by assumption) ?resta6
            case hya6 => first | (intro w hSw; (try dsimp only at hSw); go_simp; done) | (intro w hSw; (try dsimp only at hSw); go_simp; with_reducible rfl)
            try simp only [Act.put, List.setIfInBounds_toArray, List.set_cons_zero, List.set_cons_succ]
            refine wpAnyH_ready (rs := [7]) (by kernel_rfl) (by simp) ?_
            refine AllReadyH.cons (o := { dst := none, op := Op.store 29 (Operand.tmp 58) (Operand.tmp 56), type := 0, pos := "law.go:169", after := #[{ on := 6, ground := Ground.data }, { on := 4, ground := Ground.data }, { on := 0, ground := Ground.phase }, { on := 1, ground := Ground.phase }, { on := 2, ground := Ground.phase }, { on := 3, ground := Ground.phase }, { on := 4, ground := Ground.phase }], guard := none }) rfl (fun K hK => ?_) AllReadyH.nil
            go_simp
            refine hK.out _ _ ?_ (fun hHeld => ?_)
            · exact by rw [World.cell?_setCell_other _ _ _ _ (by simp [hj.vr.2.1])]; exact e3
            clear hK K
            try simp only [Act.put, List.setIfInBounds_toArray, List.set_cons_zero, List.set_cons_succ]
            refine wpAnyH_done (by kernel_rfl) ?_ _
            have hrel2 := hid (show OneR n i wi O wi.heap.size (.int .i64 0) (.int .i64 (r + 1 : Nat)) _ from ⟨r + 1, _, by omega, rfl, by have := HL.out; congr 1 <;> omega, hj.next (w4 := wr.drew) (a := L) hr (below_drewN _ wr 1) (by have := HL.out; unfold aN; omega) ho5 hg5⟩)
            have hsub : IntKind.i64.wrap ((L : Int) - (L : Int)) = 0 := by have := HL.out; rw [IntWalk.i64_in _ (by omega)]; omega
            clear ho5 hg5 e3 e7 f7 d0 d1 d2 d3 df hcell hfz
            go_wp2_with fail
            go_roundw
            case rel => exact hrel2.out
            case measure => simp [intOf] <;> omega
          · go_wp2_with fail
            refine wp_region_held_drew (S := (fun W => W.cell? ⟨O, 3, none⟩ = some (.slice (some ⟨wi.heap.size, 0, none⟩) 3 3))) (by kernel_rfl) ?_ (fun hHeld => ?_)
            · exact d3
            refine wpAnyH_take (i := 0) (oi := { dst := some 52, op := Op.fieldAddr 32 (Operand.tmp 12) 3, type := 0, pos := "law.go:169", after := #[], guard := none }) (v := ?vb0) rfl (by kernel_rfl) (by kernel_rfl) (by kernel_rfl) (fun _ _ _ h => h) (Or.inl ⟨by rfl, ?hyb0⟩) (by assumption) ?restb0
            case hyb0 => first | (intro w hSw; (try dsimp only at hSw); go_simp; done) | (intro w hSw; (try dsimp only at hSw); go_simp; with_reducible rfl)
            try simp only [Act.put, List.setIfInBounds_toArray, List.set_cons_zero, List.set_cons_succ]
            refine wpAnyH_take (i := 1) (oi := { dst := some 53, op := Op.load 30 (Operand.tmp 52), type := 30, pos := "law.go:169", after := #[{ on := 0, ground := Ground.data }], guard := none }) (v := ?vb1) rfl (by kernel_rfl) (by kernel_rfl) (by kernel_rfl) (fun _ _ _ h => h) (Or.inl ⟨by rfl, ?hyb1⟩) (by assumption) ?restb1
            case hyb1 => first | (intro w hSw; (try dsimp only at hSw); go_simp; done) | (intro w hSw; (try dsimp only at hSw); go_simp; with_reducible rfl)
            try simp only [Act.put, List.setIfInBounds_toArray, List.set_cons_zero, List.set_cons_succ]
            refine wpAnyH_take (i := 2) (oi := { dst := some 54, op := Op.move (Operand.tmp 13), type := 3, pos := "law.go:169", after := #[], guard := none }) (v := ?vb2) rfl (by kernel_rfl) (by kernel_rfl) (by kernel_rfl) (fun _ _ _ h => h) (Or.inl ⟨by rfl, ?hyb2⟩) (by assumption) ?restb2
            case hyb2 => first | (intro w hSw; (try dsimp only at hSw); go_simp; done) | (intro w hSw; (try dsimp only at hSw); go_simp; with_reducible rfl)
            try simp only [Act.put, List.setIfInBounds_toArray, List.set_cons_zero, List.set_cons_succ]
            refine wpAnyH_take (i := 3) (oi := { dst := some 55, op := Op.move (Operand.tmp 14), type := 3, pos := "law.go:169", after := #[], guard := none }) (v := ?vb3) rfl (by kernel_rfl) (by kernel_rfl) (by kernel_rfl) (fun _ _ _ h => h) (Or.inl ⟨by rfl, ?hyb3⟩) (by assumption) ?restb3
            case hyb3 => first | (intro w hSw; (try dsimp only at hSw); go_simp; done) | (intro w hSw; (try dsimp only at hSw); go_simp; with_reducible rfl)
            try simp only [Act.put, List.setIfInBounds_toArray, List.set_cons_zero, List.set_cons_succ]
            refine wpAnyH_ready (rs := [4]) (by kernel_rfl) (by simp) ?_
            refine AllReadyH.cons (o := { dst := some 56, op := Op.makeSlice 29 (Operand.tmp 55) (Operand.tmp 55), type := 29, pos := "law.go:169", after := #[{ on := 3, ground := Ground.data }, { on := 3, ground := Ground.data }], guard := none }) rfl (fun K hK => ?_) AllReadyH.nil
            rw [if_pos (by rfl)]
            refine wp_make_full _ (.tmp 55) (.tmp 55) 29 rfl wr.heap.size 28 iU _ 1 Tryd.underlying29 hiU hzU hsU .i64 .i64 (12 : Int) (12 : Int) 12 rfl rfl rfl rfl (by rw [hbU]; omega) (by unfold maxLen; omega) (Nat.le_refl _) ?_
            intro w5 ho5 hg5
            rw [madeU] at ho5
            have e3 := hg5.cell (a := ⟨O, 3, none⟩) d3 (fun e => by cases e)
            have e7 := hg5.cell (a := ⟨wi.heap.size, r * 4 + 2, none⟩) hcell (fun e => by cases e)
            have f7 : w5.frozen? ⟨wi.heap.size, r * 4 + 2, none⟩ = false := (World.frozen?_of_block (a := ⟨wi.heap.size, r * 4 + 2, none⟩) (hg5.block wi.heap.size hsG (fun e => by cases e))).trans hfz
            refine hK.out _ _ ?_ (fun hHeld => ?_)
            · exact e3
            clear hK K
            try simp only [Act.put, List.setIfInBounds_toArray, List.set_cons_zero, List.set_cons_succ]
            refine wpAnyH_take (i := 5) (oi := { dst := some 57, op := Op.indexAddr 30 (Operand.tmp 53) (Operand.tmp 54), type := 0, pos := "law.go:169", after := #[{ on := 1, ground := Ground.data }, { on := 2, ground := Ground.data }, { on := 0, ground := Ground.phase }, { on := 1, ground := Ground.phase }, { on := 2, ground := Ground.phase }, { on := 3, ground := Ground.phase }, { on := 4, ground := Ground.phase }], guard := none }) (v := ?vb5) rfl (by kernel_rfl) (by kernel_rfl) (by kernel_rfl) (fun _ _ _ h => h) (Or.inl ⟨by rfl, ?hyb5⟩) (by assumption) ?restb5
            case hyb5 => first | (intro w hSw; (try dsimp only at hSw); go_simp; done) | (intro w hSw; (try dsimp only at hSw); go_simp; with_reducible rfl)
            try simp only [Act.put, List.setIfInBounds_toArray, List.set_cons_zero, List.set_cons_succ]
            refine wpAnyH_take (i := 6) (oi := { dst := some 58, op := Op.fieldAddr 32 (Operand.tmp 57) 2, type := 0, pos := "law.go:169", after := #[{ on := 5, ground := Ground.data }, { on := 0, ground := Ground.phase }, { on := 1, ground := Ground.phase }, { on := 2, ground := Ground.phase }, { on := 3, ground := Ground.phase }, { on := 4, ground := Ground.phase }], guard := none }) (v := ?vb6) rfl (by kernel_rfl) (by kernel_rfl) (by kernel_rfl) (fun _ _ _ h => h) (Or.inl ⟨by rfl, ?hyb6⟩) (by assumption) ?restb6
            case hyb6 => first | (intro w hSw; (try dsimp only at hSw); go_simp; done) | (intro w hSw; (try dsimp only at hSw); go_simp; with_reducible rfl)
            try simp only [Act.put, List.setIfInBounds_toArray, List.set_cons_zero, List.set_cons_succ]
            refine wpAnyH_ready (rs := [7]) (by kernel_rfl) (by simp) ?_
            refine AllReadyH.cons (o := { dst := none, op := Op.store 29 (Operand.tmp 58) (Operand.tmp 56), type := 0, pos := "law.go:169", after := #[{ on := 6, ground := Ground.data }, { on := 4, ground := Ground.data }, { on := 0, ground := Ground.phase }, { on := 1, ground := Ground.phase }, { on := 2, ground := Ground.phase }, { on := 3, ground := Ground.phase }, { on := 4, ground := Ground.phase }], guard := none }) rfl (fun K hK => ?_) AllReadyH.nil
            go_simp
            refine hK.out _ _ ?_ (fun hHeld => ?_)
            · exact by rw [World.cell?_setCell_other _ _ _ _ (by simp [hj.vr.2.1])]; exact e3
            clear hK K
            try simp only [Act.put, List.setIfInBounds_toArray, List.set_cons_zero, List.set_cons_succ]
            refine wpAnyH_done (by kernel_rfl) ?_ _
            have hrel2 := hid (show OneR n i wi O wi.heap.size (.int .i64 ((n - 12 * (3 * i + (r + 1)) : Nat) : Int)) (.int .i64 (r + 1 : Nat)) _ from ⟨r + 1, _, by omega, rfl, by have := HL.out; congr 1 <;> omega, hj.next (w4 := wr.drew) (a := 12) hr (below_drewN _ wr 1) (by have := HL.out; unfold aN; omega) ho5 hg5⟩)
            have hsub : IntKind.i64.wrap ((L : Int) - (12 : Int)) = ((n - 12 * (3 * i + (r + 1)) : Nat) : Int) := by have := HL.out; rw [IntWalk.i64_in _ (by omega)]; omega
            clear ho5 hg5 e3 e7 f7 d0 d1 d2 d3 df hcell hfz
            go_wp2_with fail
            go_roundw
            case rel => exact hrel2.out
            case measure => simp [intOf] <;> omega
        · obtain rfl : r = 3 := by omega
          have hread := hid hj.read
          have hgrow := hid hj.bl
          have ⟨_, d0, d1, d2, d3, df⟩ := hj.tb
          go_wp2_with fail
          refine wp_region_held_drew (S := (fun _ => True)) (by kernel_rfl) ?_ (fun hHeld => ?_)
          · exact trivial
          refine wpAnyH_ready (rs := [0]) (by kernel_rfl) (by simp) ?_
          refine AllReadyH.cons (o := { dst := some 62, op := Op.alloc 4, type := 0, pos := "law.go:172", after := #[], guard := none }) rfl (fun K hK => ?_) AllReadyH.nil
          go_simp
          refine hK.out _ _ ?_ (fun hHeld => ?_)
          · exact trivial
          clear hK K
          try simp only [Act.put, List.setIfInBounds_toArray, List.set_cons_zero, List.set_cons_succ]
          refine wpAnyH_ready (rs := [1, 2]) (by kernel_rfl) (by simp) ?_
          refine AllReadyH.cons (o := { dst := none, op := Op.store 4 (Operand.tmp 62) (Operand.const (Value.bool true)), type := 0, pos := "law.go:172", after := #[{ on := 0, ground := Ground.data }, { on := 2, ground := Ground.gcOnly Departure.appendInPlace }], guard := none }) rfl (fun K hK => ?_) (AllReadyH.cons (o := { dst := none, op := Op.store 4 (Operand.tmp 62) (Operand.const (Value.bool false)), type := 0, pos := "law.go:172", after := #[{ on := 0, ground := Ground.data }, { on := 1, ground := Ground.textOnly Departure.appendInPlace }], guard := none }) rfl (fun K hK => ?_) AllReadyH.nil)
          · go_simp
            refine hK.out _ _ trivial (fun hHeld => ?_)
            clear hK K
            try simp only [Act.put, List.setIfInBounds_toArray, List.set_cons_zero, List.set_cons_succ]
            refine wpAnyH_ready (rs := [2]) (by kernel_rfl) (by simp) ?_
            refine AllReadyH.cons (o := { dst := none, op := Op.store 4 (Operand.tmp 62) (Operand.const (Value.bool false)), type := 0, pos := "law.go:172", after := #[{ on := 0, ground := Ground.data }, { on := 1, ground := Ground.textOnly Departure.appendInPlace }], guard := none }) rfl (fun K hK => ?_) AllReadyH.nil
            go_simp
            refine hK.out _ _ ?_ (fun hHeld => ?_)
            · exact trivial
            clear hK K
            try simp only [Act.put, List.setIfInBounds_toArray, List.set_cons_zero, List.set_cons_succ]
            refine wpAnyH_ready (rs := [3]) (by kernel_rfl) (by simp) ?_
            refine AllReadyH.cons (o := { dst := some 63, op := Op.load 4 (Operand.tmp 62), type := 4, pos := "law.go:172", after := #[{ on := 0, ground := Ground.data }, { on := 0, ground := Ground.phase }, { on := 1, ground := Ground.phase }, { on := 2, ground := Ground.phase }], guard := none }) rfl (fun K hK => ?_) AllReadyH.nil
            go_simp
            refine hK.out _ _ ?_ (fun hHeld => ?_)
            · exact trivial
            clear hK K
            try simp only [Act.put, List.setIfInBounds_toArray, List.set_cons_zero, List.set_cons_succ]
            refine wpAnyH_done (by kernel_rfl) ?_ _
            generalize hw17 : (wr.alloc (.cells #[.bool false] 4)).drew = w17
            have hb17 : Below wr.heap.size wr w17 := hw17 ▸ via (below_alloc wr (.cells #[.bool false] 4)) (below_drewN _ (wr.alloc (.cells #[.bool false] 4)) 1)
            have hbi17 := hgrow.out.trans (hb17.mono hgrow.out.size)
            have hO17 := hj.tb.below hb17
            have hK17 := hin.tb.below hbi17
            have hV17 := (hHLL.out.tv.of_block (hin.bk V hHLL.out.tv.lt hHLL.out.ne) (Nat.lt_of_lt_of_le hHLL.out.tv.lt hin.sz)).below hbi17
            have ⟨_, o0, o1, o2, o3, _⟩ := hO17
            have ⟨_, k0, k1, k2, k3, kf⟩ := hK17
            have ⟨_, v0, v1, v2, v3, vf⟩ := hV17
            clear hw17 d0 d1 d2 d3 df
            go_wp2_with fail
            refine wp_region_kept 12 (fun W => W.cell? ⟨V, 3, none⟩ = some (.slice (some ⟨Kb, 0, none⟩) 1 1) ∧ W.cell? ⟨Kb, 3, none⟩ = some (.slice ak i ck) ∧ W.cell? ⟨O, 0, none⟩ = some (U 0#64) ∧ W.cell? ⟨O, 1, none⟩ = some (.string ⟨#[]⟩) ∧ W.cell? ⟨O, 2, none⟩ = some (.slice none 0 0) ∧ W.cell? ⟨O, 3, none⟩ = some (.slice (some ⟨wi.heap.size, 0, none⟩) 3 3)) (by kernel_rfl) ?_ (fun hHeld => ?_)
            · exact ⟨v3, k3, o0, o1, o2, o3⟩
            have hbd17 : Below w17.heap.size w17 w17.drew := below_drewN _ w17 1
            generalize w17.drew = wd at *
            have hbrd := via hb17 hbd17
            have hbid := via hbi17 hbd17
            have hKd := hK17.below hbd17
            have hVd := hV17.below hbd17
            have hOd := hO17.below hbd17
            clear v0 v1 v2 v3 vf k0 k1 k2 k3 kf o0 o1 o2 o3
            refine wpAnyK_take (i := 0) (oi := { dst := some 76, op := Op.fieldAddr 32 (Operand.tmp 10) 3, type := 0, pos := "law.go:172", after := #[], guard := none }) (v := ?vt0) rfl (by kernel_rfl) (by kernel_rfl) (by kernel_rfl) (by kernel_rfl) (fun _ _ _ h => h) (Or.inl ⟨by rfl, ?hyt0⟩) (by assumption) ?restt0
            case hyt0 => first | (intro w hSw; (try dsimp only at hSw); go_simp; done) | (intro w hSw; (try dsimp only at hSw); go_simp; with_reducible rfl)
            try simp only [Act.put, List.setIfInBounds_toArray, List.set_cons_zero, List.set_cons_succ]
            refine wpAnyK_take (i := 1) (oi := { dst := some 77, op := Op.load 30 (Operand.tmp 76), type := 30, pos := "law.go:172", after := #[{ on := 0, ground := Ground.data }], guard := none }) (v := ?vt1) rfl (by kernel_rfl) (by kernel_rfl) (by kernel_rfl) (by kernel_rfl) (fun _ _ _ h => h) (Or.inl ⟨by rfl, ?hyt1⟩) (by assumption) ?restt1
            case hyt1 => first | (intro w hSw; (try dsimp only at hSw); go_simp; done) | (intro w hSw; (try dsimp only at hSw); go_simp; with_reducible rfl)
            try simp only [Act.put, List.setIfInBounds_toArray, List.set_cons_zero, List.set_cons_succ]
            refine wpAnyK_take (i := 2) (oi := { dst := some 78, op := Op.fieldAddr 32 (Operand.tmp 10) 3, type := 0, pos := "law.go:172", after := #[], guard := none }) (v := ?vt2) rfl (by kernel_rfl) (by kernel_rfl) (by kernel_rfl) (by kernel_rfl) (fun _ _ _ h => h) (Or.inl ⟨by rfl, ?hyt2⟩) (by assumption) ?restt2
            case hyt2 => first | (intro w hSw; (try dsimp only at hSw); go_simp; done) | (intro w hSw; (try dsimp only at hSw); go_simp; with_reducible rfl)
            try simp only [Act.put, List.setIfInBounds_toArray, List.set_cons_zero, List.set_cons_succ]
            refine wpAnyK_take (i := 3) (oi := { dst := some 79, op := Op.load 30 (Operand.tmp 78), type := 30, pos := "law.go:172", after := #[{ on := 2, ground := Ground.data }], guard := none }) (v := ?vt3) rfl (by kernel_rfl) (by kernel_rfl) (by kernel_rfl) (by kernel_rfl) (fun _ _ _ h => h) (Or.inl ⟨by rfl, ?hyt3⟩) (by assumption) ?restt3
            case hyt3 => first | (intro w hSw; (try dsimp only at hSw); go_simp; done) | (intro w hSw; (try dsimp only at hSw); go_simp; with_reducible rfl)
            try simp only [Act.put, List.setIfInBounds_toArray, List.set_cons_zero, List.set_cons_succ]
            refine wpAnyK_take (i := 4) (oi := { dst := some 80, op := Op.indexAddr 30 (Operand.tmp 79) (Operand.const (Value.int IntKind.i64 0)), type := 0, pos := "law.go:172", after := #[{ on := 3, ground := Ground.data }], guard := none }) (v := ?vt4) rfl (by kernel_rfl) (by kernel_rfl) (by kernel_rfl) (by kernel_rfl) (fun _ _ _ h => h) (Or.inl ⟨by rfl, ?hyt4⟩) (by assumption) ?restt4
            case hyt4 => first | (intro w hSw; (try dsimp only at hSw); go_simp; done) | (intro w hSw; (try dsimp only at hSw); go_simp; with_reducible rfl)
            try simp only [Act.put, List.setIfInBounds_toArray, List.set_cons_zero, List.set_cons_succ]
            refine wpAnyK_take (i := 5) (oi := { dst := some 81, op := Op.fieldAddr 32 (Operand.tmp 80) 3, type := 0, pos := "law.go:172", after := #[{ on := 4, ground := Ground.data }], guard := none }) (v := ?vt5) rfl (by kernel_rfl) (by kernel_rfl) (by kernel_rfl) (by kernel_rfl) (fun _ _ _ h => h) (Or.inl ⟨by rfl, ?hyt5⟩) (by assumption) ?restt5
            case hyt5 => first | (intro w hSw; (try dsimp only at hSw); go_simp; done) | (intro w hSw; (try dsimp only at hSw); go_simp; with_reducible rfl)
            try simp only [Act.put, List.setIfInBounds_toArray, List.set_cons_zero, List.set_cons_succ]
            refine wpAnyK_take (i := 6) (oi := { dst := some 82, op := Op.load 30 (Operand.tmp 81), type := 30, pos := "law.go:172", after := #[{ on := 5, ground := Ground.data }], guard := none }) (v := ?vt6) rfl (by kernel_rfl) (by kernel_rfl) (by kernel_rfl) (by kernel_rfl) (fun _ _ _ h => h) (Or.inl ⟨by rfl, ?hyt6⟩) (by assumption) ?restt6
            case hyt6 => first | (intro w hSw; (try dsimp only at hSw); go_simp; done) | (intro w hSw; (try dsimp only at hSw); go_simp; with_reducible rfl)
            try simp only [Act.put, List.setIfInBounds_toArray, List.set_cons_zero, List.set_cons_succ]
            refine wpAnyK_take (i := 7) (oi := { dst := some 83, op := Op.load 32 (Operand.tmp 12), type := 32, pos := "law.go:172", after := #[], guard := none }) (v := ?vt7) rfl (by kernel_rfl) (by kernel_rfl) (by kernel_rfl) (by kernel_rfl) (fun _ _ _ h => h) (Or.inl ⟨by rfl, ?hyt7⟩) (by assumption) ?restt7
            case hyt7 => first | (intro w hSw; (try dsimp only at hSw); go_simp; done) | (intro w hSw; (try dsimp only at hSw); go_simp; with_reducible rfl)
            try simp only [Act.put, List.setIfInBounds_toArray, List.set_cons_zero, List.set_cons_succ]
            refine wpAnyK_ready (rs := [8]) (by kernel_rfl) (by simp) ?_
            refine AllReadyK.cons (o := { dst := some 84, op := Op.buildSlice 30 1 #[(0, Operand.tmp 83)], type := 30, pos := "law.go:172", after := #[{ on := 7, ground := Ground.data }], guard := none }) rfl (fun K hK => ?_) AllReadyK.nil
            go_simp
            have hba := below_alloc wd (.cells #[U 0#64, .string ⟨#[]⟩, .slice none 0 0, .slice (some ⟨wi.heap.size, 0, none⟩) 3 3] 32)
            have hKa := hKd.below hba
            have hVa := hVd.below hba
            have hOa := hOd.below hba
            have ⟨_, va0, va1, va2, va3, _⟩ := hVa
            have ⟨_, ka0, ka1, ka2, ka3, _⟩ := hKa
            have ⟨_, oa0, oa1, oa2, oa3, _⟩ := hOa
            refine hK.out _ _ (.inr ?_) (fun hHeld0 => ?_)
            · exact ⟨va3, ka3, oa0, oa1, oa2, oa3⟩
            have hHeld := hHeld0.resolve_left (by decide)
            clear hHeld0 hK K
            try simp only [Act.put, List.setIfInBounds_toArray, List.set_cons_zero, List.set_cons_succ]
            refine wpAnyK_ready (rs := [9]) (by kernel_rfl) (by simp) ?_
            refine AllReadyK.cons (o := { dst := some 85, op := Op.call { callee := Callee.builtin Builtin.append, args := #[Operand.tmp 82, Operand.tmp 84], argTypes := #[30, 30] }, type := 30, pos := "law.go:172", after := #[{ on := 6, ground := Ground.data }, { on := 8, ground := Ground.data }], guard := none }) rfl (fun K hK => ?_) AllReadyK.nil
            rw [if_pos (by rfl)]
            have hbia := via hbid hba
            have hown6 := own_beneath hin.own hbia
            have hsz6 : wk.heap.size ≤ (wd.alloc (.cells #[U 0#64, .string ⟨#[]⟩, .slice none 0 0, .slice (some ⟨wi.heap.size, 0, none⟩) 3 3] 32)).heap.size := Nat.le_trans hin.sz hbia.size
            refine wp_append_own_at _ (.tmp 82) (.tmp 84) 30 rfl wk.heap.size 32 iT _ 4 72 Tryd.underlying30 hiT hzT hsT hbT rfl (by omega) _ i _ rfl hown6 ⟨wd.heap.size, 0, none⟩ 1 1 [U 0#64, .string ⟨#[]⟩, .slice none 0 0, .slice (some ⟨wi.heap.size, 0, none⟩) 3 3] rfl rfl (news_at _ _ rfl #[U 0#64, .string ⟨#[]⟩, .slice none 0 0, .slice (some ⟨wi.heap.size, 0, none⟩) 3 3] 32) (by simp [Value.oneCell', U]) (by unfold maxLen; omega) (by omega) hsz6 ?_
            intro v7 w7 ho7 hg7 _ hat7
            obtain ⟨g7, c7, rfl, hg7b, hg7l⟩ := ho7.form (by omega)
            have hne7 : ∀ b, b < wk.heap.size → (Value.slice ak i ck).ownBlock ≠ some b := fun b hb e => by have := (own_blk hin.own e).2; omega
            have hneO : (Value.slice ak i ck).ownBlock ≠ some O := fun e => by have := (own_blk hin.own e).1.lt; have := hj.vr.1; omega
            have hK7 := hKa.grown hg7 (hne7 Kb hin.vr.2)
            have hV7 := hVa.grown hg7 (hne7 V hHLL.out.tv.lt)
            have hO7 := hOa.grown hg7 hneO
            have ⟨_, x0, x1, x2, x3, _⟩ := hV7
            have ⟨_, y0, y1, y2, y3, yf⟩ := hK7
            have ⟨_, z0, z1, z2, z3, _⟩ := hO7
            have yf3 := yf 3
            refine hK.out _ _ (.inr ?_) (fun hHeld0 => ?_)
            · exact ⟨x3, y3, z0, z1, z2, z3⟩
            have hHeld := hHeld0.resolve_left (by decide)
            clear hHeld0 hK K
            try simp only [Act.put, List.setIfInBounds_toArray, List.set_cons_zero, List.set_cons_succ]
            refine wpAnyK_ready (rs := [10]) (by kernel_rfl) (by simp) ?_
            refine AllReadyK.cons (o := { dst := some 86, op := Op.indexAddr 30 (Operand.tmp 77) (Operand.const (Value.int IntKind.i64 0)), type := 0, pos := "law.go:172", after := #[{ on := 1, ground := Ground.data }, { on := 0, ground := Ground.phase }, { on := 1, ground := Ground.phase }, { on := 2, ground := Ground.phase }, { on := 3, ground := Ground.phase }, { on := 4, ground := Ground.phase }, { on := 5, ground := Ground.phase }, { on := 6, ground := Ground.phase }, { on := 7, ground := Ground.phase }, { on := 8, ground := Ground.phase }, { on := 9, ground := Ground.phase }], guard := none }) rfl (fun K hK => ?_) AllReadyK.nil
            go_simp
            refine hK.out _ _ (.inr ?_) (fun hHeld0 => ?_)
            · exact ⟨x3, y3, z0, z1, z2, z3⟩
            have hHeld := hHeld0.resolve_left (by decide)
            clear hHeld0 hK K
            try simp only [Act.put, List.setIfInBounds_toArray, List.set_cons_zero, List.set_cons_succ]
            refine wpAnyK_take (i := 11) (oi := { dst := some 87, op := Op.fieldAddr 32 (Operand.tmp 86) 3, type := 0, pos := "law.go:172", after := #[{ on := 10, ground := Ground.data }, { on := 0, ground := Ground.phase }, { on := 1, ground := Ground.phase }, { on := 2, ground := Ground.phase }, { on := 3, ground := Ground.phase }, { on := 4, ground := Ground.phase }, { on := 5, ground := Ground.phase }, { on := 6, ground := Ground.phase }, { on := 7, ground := Ground.phase }, { on := 8, ground := Ground.phase }, { on := 9, ground := Ground.phase }], guard := none }) (v := ?vt11) rfl (by kernel_rfl) (by kernel_rfl) (by kernel_rfl) (by kernel_rfl) (fun _ _ _ h => h) (Or.inl ⟨by rfl, ?hyt11⟩) (by assumption) ?restt11
            case hyt11 => first | (intro w hSw; (try dsimp only at hSw); go_simp; done) | (intro w hSw; (try dsimp only at hSw); go_simp; with_reducible rfl)
            try simp only [Act.put, List.setIfInBounds_toArray, List.set_cons_zero, List.set_cons_succ]
            refine wpAnyK_ready (rs := [12]) (by kernel_rfl) (by simp) ?_
            refine AllReadyK.cons (o := { dst := none, op := Op.store 30 (Operand.tmp 87) (Operand.tmp 85), type := 0, pos := "law.go:172", after := #[{ on := 11, ground := Ground.data }, { on := 9, ground := Ground.data }, { on := 9, ground := Ground.chain }, { on := 0, ground := Ground.phase }, { on := 1, ground := Ground.phase }, { on := 2, ground := Ground.phase }, { on := 3, ground := Ground.phase }, { on := 4, ground := Ground.phase }, { on := 5, ground := Ground.phase }, { on := 6, ground := Ground.phase }, { on := 7, ground := Ground.phase }, { on := 8, ground := Ground.phase }, { on := 9, ground := Ground.phase }], guard := none }) rfl (fun K hK => ?_) AllReadyK.nil
            go_simp
            refine hK.out _ _ (.inl rfl) (fun hHeld0 => ?_)
            clear hHeld0 hK K
            try simp only [Act.put, List.setIfInBounds_toArray, List.set_cons_zero, List.set_cons_succ]
            refine wpAnyK_done (by kernel_rfl) ?_ _
            have hrel2 := hid (show BlR n k w2 wk Kb (.int .i64 ((n - 12 * (3 * i + 3) : Nat) : Int)) (.int .i64 (i + 1 : Nat)) _ from ⟨i + 1, _, _, by omega, rfl, by rw [show n - 36 * (i + 1) = n - 12 * (3 * i + 3) by omega], hin.next hbid (hread.out.below hbrd) rfl hba ho7 hg7 hat7⟩)
            clear x0 x1 x2 x3 y0 y1 y2 y3 yf z0 z1 z2 z3 yf3 va0 va1 va2 va3 ka0 ka1 ka2 ka3 oa0 oa1 oa2 oa3
            go_wp2_with fail
            go_roundw
            case rel => exact hrel2.out
            case measure => simp [intOf] <;> omega
          · go_simp
            refine hK.out _ _ trivial (fun hHeld => ?_)
            clear hK K
            try simp only [Act.put, List.setIfInBounds_toArray, List.set_cons_zero, List.set_cons_succ]
            refine wpAnyH_ready (rs := [1]) (by kernel_rfl) (by simp) ?_
            refine AllReadyH.cons (o := { dst := none, op := Op.store 4 (Operand.tmp 62) (Operand.const (Value.bool true)), type := 0, pos := "law.go:172", after := #[{ on := 0, ground := Ground.data }, { on := 2, ground := Ground.gcOnly Departure.appendInPlace }], guard := none }) rfl (fun K hK => ?_) AllReadyH.nil
            go_simp
            refine hK.out _ _ ?_ (fun hHeld => ?_)
            · exact trivial
            clear hK K
            try simp only [Act.put, List.setIfInBounds_toArray, List.set_cons_zero, List.set_cons_succ]
            refine wpAnyH_ready (rs := [3]) (by kernel_rfl) (by simp) ?_
            refine AllReadyH.cons (o := { dst := some 63, op := Op.load 4 (Operand.tmp 62), type := 4, pos := "law.go:172", after := #[{ on := 0, ground := Ground.data }, { on := 0, ground := Ground.phase }, { on := 1, ground := Ground.phase }, { on := 2, ground := Ground.phase }], guard := none }) rfl (fun K hK => ?_) AllReadyH.nil
            go_simp
            refine hK.out _ _ ?_ (fun hHeld => ?_)
            · exact trivial
            clear hK K
            try simp only [Act.put, List.setIfInBounds_toArray, List.set_cons_zero, List.set_cons_succ]
            refine wpAnyH_done (by kernel_rfl) ?_ _
            generalize hw17 : (wr.alloc (.cells #[.bool true] 4)).drew = w17
            have hb17 : Below wr.heap.size wr w17 := hw17 ▸ via (below_alloc wr (.cells #[.bool true] 4)) (below_drewN _ (wr.alloc (.cells #[.bool true] 4)) 1)
            have hbi17 := hgrow.out.trans (hb17.mono hgrow.out.size)
            have hO17 := hj.tb.below hb17
            have hK17 := hin.tb.below hbi17
            have hV17 := (hHLL.out.tv.of_block (hin.bk V hHLL.out.tv.lt hHLL.out.ne) (Nat.lt_of_lt_of_le hHLL.out.tv.lt hin.sz)).below hbi17
            have ⟨_, o0, o1, o2, o3, _⟩ := hO17
            have ⟨_, k0, k1, k2, k3, kf⟩ := hK17
            have ⟨_, v0, v1, v2, v3, vf⟩ := hV17
            clear hw17 d0 d1 d2 d3 df
            go_wp2_with fail
            refine wp_region_kept 11 (fun W => W.cell? ⟨V, 3, none⟩ = some (.slice (some ⟨Kb, 0, none⟩) 1 1) ∧ W.cell? ⟨Kb, 3, none⟩ = some (.slice ak i ck) ∧ W.cell? ⟨O, 0, none⟩ = some (U 0#64) ∧ W.cell? ⟨O, 1, none⟩ = some (.string ⟨#[]⟩) ∧ W.cell? ⟨O, 2, none⟩ = some (.slice none 0 0) ∧ W.cell? ⟨O, 3, none⟩ = some (.slice (some ⟨wi.heap.size, 0, none⟩) 3 3)) (by kernel_rfl) ?_ (fun hHeld => ?_)
            · exact ⟨v3, k3, o0, o1, o2, o3⟩
            have hbd17 : Below w17.heap.size w17 w17.drew := below_drewN _ w17 1
            generalize w17.drew = wd at *
            have hbrd := via hb17 hbd17
            have hbid := via hbi17 hbd17
            have hKd := hK17.below hbd17
            have hVd := hV17.below hbd17
            have hOd := hO17.below hbd17
            clear v0 v1 v2 v3 vf k0 k1 k2 k3 kf o0 o1 o2 o3
            refine wpAnyK_take (i := 0) (oi := { dst := some 64, op := Op.fieldAddr 32 (Operand.tmp 10) 3, type := 0, pos := "law.go:172", after := #[], guard := none }) (v := ?vw0) rfl (by kernel_rfl) (by kernel_rfl) (by kernel_rfl) (by kernel_rfl) (fun _ _ _ h => h) (Or.inl ⟨by rfl, ?hyw0⟩) (by assumption) ?restw0
            case hyw0 => first | (intro w hSw; (try dsimp only at hSw); go_simp; done) | (intro w hSw; (try dsimp only at hSw); go_simp; with_reducible rfl)
            try simp only [Act.put, List.setIfInBounds_toArray, List.set_cons_zero, List.set_cons_succ]
            refine wpAnyK_take (i := 1) (oi := { dst := some 65, op := Op.load 30 (Operand.tmp 64), type := 30, pos := "law.go:172", after := #[{ on := 0, ground := Ground.data }], guard := none }) (v := ?vw1) rfl (by kernel_rfl) (by kernel_rfl) (by kernel_rfl) (by kernel_rfl) (fun _ _ _ h => h) (Or.inl ⟨by rfl, ?hyw1⟩) (by assumption) ?restw1
            case hyw1 => first | (intro w hSw; (try dsimp only at hSw); go_simp; done) | (intro w hSw; (try dsimp only at hSw); go_simp; with_reducible rfl)
            try simp only [Act.put, List.setIfInBounds_toArray, List.set_cons_zero, List.set_cons_succ]
            refine wpAnyK_take (i := 2) (oi := { dst := some 66, op := Op.indexAddr 30 (Operand.tmp 65) (Operand.const (Value.int IntKind.i64 0)), type := 0, pos := "law.go:172", after := #[{ on := 1, ground := Ground.data }], guard := none }) (v := ?vw2) rfl (by kernel_rfl) (by kernel_rfl) (by kernel_rfl) (by kernel_rfl) (fun _ _ _ h => h) (Or.inl ⟨by rfl, ?hyw2⟩) (by assumption) ?restw2
            case hyw2 => first | (intro w hSw; (try dsimp only at hSw); go_simp; done) | (intro w hSw; (try dsimp only at hSw); go_simp; with_reducible rfl)
            try simp only [Act.put, List.setIfInBounds_toArray, List.set_cons_zero, List.set_cons_succ]
            refine wpAnyK_take (i := 3) (oi := { dst := some 67, op := Op.fieldAddr 32 (Operand.tmp 66) 3, type := 0, pos := "law.go:172", after := #[{ on := 2, ground := Ground.data }], guard := none }) (v := ?vw3) rfl (by kernel_rfl) (by kernel_rfl) (by kernel_rfl) (by kernel_rfl) (fun _ _ _ h => h) (Or.inl ⟨by rfl, ?hyw3⟩) (by assumption) ?restw3
            case hyw3 => first | (intro w hSw; (try dsimp only at hSw); go_simp; done) | (intro w hSw; (try dsimp only at hSw); go_simp; with_reducible rfl)
            try simp only [Act.put, List.setIfInBounds_toArray, List.set_cons_zero, List.set_cons_succ]
            refine wpAnyK_take (i := 4) (oi := { dst := some 68, op := Op.load 30 (Operand.tmp 67), type := 30, pos := "law.go:172", after := #[{ on := 3, ground := Ground.data }], guard := none }) (v := ?vw4) rfl (by kernel_rfl) (by kernel_rfl) (by kernel_rfl) (by kernel_rfl) (fun _ _ _ h => h) (Or.inl ⟨by rfl, ?hyw4⟩) (by assumption) ?restw4
            case hyw4 => first | (intro w hSw; (try dsimp only at hSw); go_simp; done) | (intro w hSw; (try dsimp only at hSw); go_simp; with_reducible rfl)
            try simp only [Act.put, List.setIfInBounds_toArray, List.set_cons_zero, List.set_cons_succ]
            refine wpAnyK_take (i := 5) (oi := { dst := some 69, op := Op.load 32 (Operand.tmp 12), type := 32, pos := "law.go:172", after := #[], guard := none }) (v := ?vw5) rfl (by kernel_rfl) (by kernel_rfl) (by kernel_rfl) (by kernel_rfl) (fun _ _ _ h => h) (Or.inl ⟨by rfl, ?hyw5⟩) (by assumption) ?restw5
            case hyw5 => first | (intro w hSw; (try dsimp only at hSw); go_simp; done) | (intro w hSw; (try dsimp only at hSw); go_simp; with_reducible rfl)
            try simp only [Act.put, List.setIfInBounds_toArray, List.set_cons_zero, List.set_cons_succ]
            refine wpAnyK_take (i := 6) (oi := { dst := some 70, op := Op.call { callee := Callee.builtin Builtin.len, args := #[Operand.tmp 68], argTypes := #[30] }, type := 3, pos := "law.go:172", after := #[{ on := 4, ground := Ground.data }], guard := none }) (v := ?vw6) rfl (by kernel_rfl) (by kernel_rfl) (by kernel_rfl) (by kernel_rfl) (fun _ _ _ h => h) (Or.inl ⟨by rfl, ?hyw6⟩) (by assumption) ?restw6
            case hyw6 => first | (intro w hSw; (try dsimp only at hSw); go_simp; done) | (intro w hSw; (try dsimp only at hSw); go_simp; with_reducible rfl)
            try simp only [Act.put, List.setIfInBounds_toArray, List.set_cons_zero, List.set_cons_succ]
            refine wpAnyK_ready (rs := [7]) (by kernel_rfl) (by simp) ?_
            refine AllReadyK.cons (o := { dst := some 71, op := Op.buildSlice 30 1 #[(0, Operand.const (Value.agg #[Value.int IntKind.u64 0, Value.string { data := #[] }, Value.slice none 0 0, Value.slice none 0 0]))], type := 30, pos := "law.go:172", after := #[], guard := none }) rfl (fun K hK => ?_) AllReadyK.nil
            go_simp
            have hba := below_alloc wd (.cells #[.int .u64 0, .string ⟨#[]⟩, .slice none 0 0, .slice none 0 0] 32)
            have hKa := hKd.below hba
            have hVa := hVd.below hba
            have hOa := hOd.below hba
            have ⟨_, va0, va1, va2, va3, _⟩ := hVa
            have ⟨_, ka0, ka1, ka2, ka3, _⟩ := hKa
            have ⟨_, oa0, oa1, oa2, oa3, _⟩ := hOa
            refine hK.out _ _ (.inr ?_) (fun hHeld0 => ?_)
            · exact ⟨va3, ka3, oa0, oa1, oa2, oa3⟩
            have hHeld := hHeld0.resolve_left (by decide)
            clear hHeld0 hK K
            try simp only [Act.put, List.setIfInBounds_toArray, List.set_cons_zero, List.set_cons_succ]
            refine wpAnyK_ready (rs := [8]) (by kernel_rfl) (by simp) ?_
            refine AllReadyK.cons (o := { dst := some 72, op := Op.call { callee := Callee.builtin Builtin.append, args := #[Operand.tmp 68, Operand.tmp 71], argTypes := #[30, 30] }, type := 30, pos := "law.go:172", after := #[{ on := 4, ground := Ground.data }, { on := 7, ground := Ground.data }, { on := 0, ground := Ground.phase }, { on := 1, ground := Ground.phase }, { on := 2, ground := Ground.phase }, { on := 3, ground := Ground.phase }, { on := 4, ground := Ground.phase }, { on := 5, ground := Ground.phase }, { on := 6, ground := Ground.phase }, { on := 7, ground := Ground.phase }], guard := none }) rfl (fun K hK => ?_) AllReadyK.nil
            rw [if_pos (by rfl)]
            have hbia := via hbid hba
            have hown6 := own_beneath hin.own hbia
            have hsz6 : wk.heap.size ≤ (wd.alloc (.cells #[.int .u64 0, .string ⟨#[]⟩, .slice none 0 0, .slice none 0 0] 32)).heap.size := Nat.le_trans hin.sz hbia.size
            refine wp_append_own_at _ (.tmp 68) (.tmp 71) 30 rfl wk.heap.size 32 iT _ 4 72 Tryd.underlying30 hiT hzT hsT hbT rfl (by omega) _ i _ rfl hown6 ⟨wd.heap.size, 0, none⟩ 1 1 [.int .u64 0, .string ⟨#[]⟩, .slice none 0 0, .slice none 0 0] rfl rfl (news_at _ _ rfl #[.int .u64 0, .string ⟨#[]⟩, .slice none 0 0, .slice none 0 0] 32) (by simp [Value.oneCell', U]) (by unfold maxLen; omega) (by omega) hsz6 ?_
            intro v7 w7 ho7 hg7 _ hat7
            obtain ⟨g7, c7, rfl, hg7b, hg7l⟩ := ho7.form (by omega)
            have hne7 : ∀ b, b < wk.heap.size → (Value.slice ak i ck).ownBlock ≠ some b := fun b hb e => by have := (own_blk hin.own e).2; omega
            have hneO : (Value.slice ak i ck).ownBlock ≠ some O := fun e => by have := (own_blk hin.own e).1.lt; have := hj.vr.1; omega
            have hK7 := hKa.grown hg7 (hne7 Kb hin.vr.2)
            have hV7 := hVa.grown hg7 (hne7 V hHLL.out.tv.lt)
            have hO7 := hOa.grown hg7 hneO
            have ⟨_, x0, x1, x2, x3, _⟩ := hV7
            have ⟨_, y0, y1, y2, y3, yf⟩ := hK7
            have ⟨_, z0, z1, z2, z3, _⟩ := hO7
            have yf3 := yf 3
            refine hK.out _ _ (.inr ?_) (fun hHeld0 => ?_)
            · exact ⟨x3, y3, z0, z1, z2, z3⟩
            have hHeld := hHeld0.resolve_left (by decide)
            clear hHeld0 hK K
            try simp only [Act.put, List.setIfInBounds_toArray, List.set_cons_zero, List.set_cons_succ]
            refine wpAnyK_ready (rs := [9]) (by kernel_rfl) (by simp) ?_
            refine AllReadyK.cons (o := { dst := some 73, op := Op.indexAddr 30 (Operand.tmp 65) (Operand.const (Value.int IntKind.i64 0)), type := 0, pos := "law.go:172", after := #[{ on := 1, ground := Ground.data }, { on := 0, ground := Ground.phase }, { on := 1, ground := Ground.phase }, { on := 2, ground := Ground.phase }, { on := 3, ground := Ground.phase }, { on := 4, ground := Ground.phase }, { on := 5, ground := Ground.phase }, { on := 6, ground := Ground.phase }, { on := 7, ground := Ground.phase }, { on := 8, ground := Ground.phase }], guard := none }) rfl (fun K hK => ?_) AllReadyK.nil
            go_simp
            refine hK.out _ _ (.inr ?_) (fun hHeld0 => ?_)
            · exact ⟨x3, y3, z0, z1, z2, z3⟩
            have hHeld := hHeld0.resolve_left (by decide)
            clear hHeld0 hK K
            try simp only [Act.put, List.setIfInBounds_toArray, List.set_cons_zero, List.set_cons_succ]
            refine wpAnyK_take (i := 10) (oi := { dst := some 74, op := Op.fieldAddr 32 (Operand.tmp 73) 3, type := 0, pos := "law.go:172", after := #[{ on := 9, ground := Ground.data }, { on := 0, ground := Ground.phase }, { on := 1, ground := Ground.phase }, { on := 2, ground := Ground.phase }, { on := 3, ground := Ground.phase }, { on := 4, ground := Ground.phase }, { on := 5, ground := Ground.phase }, { on := 6, ground := Ground.phase }, { on := 7, ground := Ground.phase }, { on := 8, ground := Ground.phase }], guard := none }) (v := ?vw10) rfl (by kernel_rfl) (by kernel_rfl) (by kernel_rfl) (by kernel_rfl) (fun _ _ _ h => h) (Or.inl ⟨by rfl, ?hyw10⟩) (by assumption) ?restw10
            case hyw10 => first | (intro w hSw; (try dsimp only at hSw); go_simp; done) | (intro w hSw; (try dsimp only at hSw); go_simp; with_reducible rfl)
            try simp only [Act.put, List.setIfInBounds_toArray, List.set_cons_zero, List.set_cons_succ]
            refine wpAnyK_ready (rs := [11]) (by kernel_rfl) (by simp) ?_
            refine AllReadyK.cons (o := { dst := none, op := Op.store 30 (Operand.tmp 74) (Operand.tmp 72), type := 0, pos := "law.go:172", after := #[{ on := 10, ground := Ground.data }, { on := 8, ground := Ground.data }, { on := 8, ground := Ground.chain }, { on := 0, ground := Ground.phase }, { on := 1, ground := Ground.phase }, { on := 2, ground := Ground.phase }, { on := 3, ground := Ground.phase }, { on := 4, ground := Ground.phase }, { on := 5, ground := Ground.phase }, { on := 6, ground := Ground.phase }, { on := 7, ground := Ground.phase }, { on := 8, ground := Ground.phase }], guard := none }) rfl (fun K hK => ?_) AllReadyK.nil
            go_simp
            refine hK.out _ _ (.inl rfl) (fun hHeld0 => ?_)
            clear hHeld0 hK K
            try simp only [Act.put, List.setIfInBounds_toArray, List.set_cons_zero, List.set_cons_succ]
            refine wpAnyK_done (by kernel_rfl) ?_ _
            obtain ⟨w8, hw8⟩ : ∃ w8, w8 = w7.setCell ⟨Kb, 3, none⟩ (.slice (some ⟨g7, 0, none⟩) (i + 1) c7) := ⟨_, rfl⟩
            have hgK : g7 ≠ Kb := fun e => by have := (own_blk ho7 (g := g7) rfl).2; have := hin.vr.2; omega
            have ho8 : w8.ownsRow wk.heap.size 32 4 (.slice (some ⟨g7, 0, none⟩) (i + 1) c7) (i + 1) _ := hw8 ▸ own_keep ho7 (fun g e => Below.heap_setCell _ _ _ _ (by
              have e2 : g7 = g := by simpa [Value.ownBlock] using e
              show g ≠ Kb
              rw [← e2]; exact hgK))
            have hlx : xs.length = i * 4 := hin.own.1
            have hc8 := hid fun (j : Nat) (hj4 : j < 4) => show w8.cell? ⟨g7, i * 4 + j, none⟩ = [Value.int .u64 0, .string ⟨#[]⟩, .slice none 0 0, .slice none 0 0][j]? from by
              have := ho8.cellAt (i * 4 + j) (by omega)
              rw [List.getElem?_append_right (by omega), hlx, Nat.add_sub_cancel_left] at this
              exact this
            have e0 : w8.cell? ⟨g7, i * 4, none⟩ = some (.int .u64 0) := hc8.out 0 (by omega)
            have e1 : w8.cell? ⟨g7, i * 4 + 1, none⟩ = some (.string ⟨#[]⟩) := hc8.out 1 (by omega)
            have e2 : w8.cell? ⟨g7, i * 4 + 2, none⟩ = some (.slice none 0 0) := hc8.out 2 (by omega)
            have e3 : w8.cell? ⟨g7, i * 4 + 3, none⟩ = some (.slice none 0 0) := hc8.out 3 (by omega)
            have f0 := ho8.frozenAt (i * 4)
            have f1 := ho8.frozenAt (i * 4 + 1)
            have f2 := ho8.frozenAt (i * 4 + 2)
            have f3 := ho8.frozenAt (i * 4 + 3)
            have hput := hid (hin.put4 hbid (hread.out.below hbrd) rfl hba ho7 hg7 hat7)
            rw [← hw8] at hput ⊢
            have hrel2 := hid (show BlR n k w2 wk Kb (.int .i64 ((n - 12 * (3 * i + 3) : Nat) : Int)) (.int .i64 (i + 1 : Nat)) _ from ⟨i + 1, _, _, by omega, rfl, by rw [show n - 36 * (i + 1) = n - 12 * (3 * i + 3) by omega], hput.out⟩)
            clear hw8 hput ho8 ho7 hlx hg7 hat7
            clear x0 x1 x2 x3 y0 y1 y2 y3 yf z0 z1 z2 z3 yf3 va0 va1 va2 va3 ka0 ka1 ka2 ka3 oa0 oa1 oa2 oa3
            go_wp2_with fail
            go_roundw
            case rel => exact hrel2.out
            case measure => simp [intOf] <;> omega
    · obtain rfl : i = k := by omega
      have hV := (hLL.tv.of_block (hin.bk V hLL.tv.lt hLL.ne) (Nat.lt_of_lt_of_le hLL.tv.lt hin.sz))
      have hS : Sch wr (.slice (some ⟨SB, 0, none⟩) 2 2) S3 := hLL.sch wr hin.bl (fun b hb => hin.bk b (by have := hin.vr.2; omega) (by omega)) (by have := hin.vr.2; have := hin.sz; omega)
      have hB := via hb2 hin.bl
      have hlng := lng_build n i hk.2.2
      have hrd := hin.done hk.2.2
      obtain ⟨z, hz⟩ : ∃ z, z = 2 + 3 * i + min n (36 * i) := ⟨_, rfl⟩
      rw [← hz] at hlng
      obtain ⟨lf, hlf⟩ : ∃ lf, lf = n - 36 * i := ⟨_, rfl⟩
      have hw1 : IntKind.i64.wrap (3 * (i : Int)) = ((3 * i : Nat) : Int) := by rw [IntWalk.i64_in _ (by omega)]; omega
      have hw2 : IntKind.i64.wrap (2 + ((3 * i : Nat) : Int)) = ((2 + 3 * i : Nat) : Int) := by rw [IntWalk.i64_in _ (by omega)]; omega
      have hw3 : IntKind.i64.wrap (((2 + 3 * i : Nat) : Int) + (n : Int)) = ((2 + 3 * i + n : Nat) : Int) := by rw [IntWalk.i64_in _ (by omega)]; omega
      have hw4 : IntKind.i64.wrap (((2 + 3 * i + n : Nat) : Int) - (lf : Int)) = (z : Int) := by rw [IntWalk.i64_in _ (by omega)]; omega
      rw [← hlf]
      obtain ⟨p1, hp1⟩ : ∃ p1, 3 * i = p1 := ⟨_, rfl⟩
      rw [hp1] at hw1 hw2 hw3 hw4
      obtain ⟨p2, hp2⟩ : ∃ p2, 2 + p1 = p2 := ⟨_, rfl⟩
      rw [hp2] at hw2 hw3 hw4
      obtain ⟨p3, hp3⟩ : ∃ p3, p2 + n = p3 := ⟨_, rfl⟩
      rw [hp3] at hw3 hw4
      have hz700 : z ≤ 700 := by omega
      have hz0 : 0 < z := by omega
      have ⟨_, v0, v1, v2, v3, _⟩ := hV
      have Hl := hid fun W (hW : Below w.heap.size w W) => LaidE.below hl hW (LaidE.pos hl)
      have hbuild := hid (build_any S3 (.slice (some ⟨SB, 0, none⟩) 2 2) 1 0 (lngV n i) _ wr hS hrd)
      unfold BuildP at hbuild
      clear hz hlf hp1 hp2 hp3 hin hLL hV hS hrd
      by_cases hz200 : z ≤ 200
      · rw [if_pos hz200] at hlng
        obtain ⟨hE, hlen, hfst⟩ := hlng
        rw [hE] at hbuild
        have hzd : (z : Int) ≤ 200 := by omega
        have hri := ref_int (by omega : z ≤ 1000) (lo_ref _ _) (hi_ref _ _)
        have Hlen := hid hlen
        obtain ⟨x, hx⟩ : ∃ x, x = refV ((z : Nat) : Int) 0 := ⟨_, rfl⟩
        rw [← hx] at hri hfst
        have Hfst := hid hfst
        have hzz : ((z : Int) == (z : Int)) = true := by simp
        clear hE hlen hfst hx
        go_wp2_with fail
        ((refine hbuild.out.mono ?_); rintro r5 w5 ⟨wv, rfl, hrow, hb5⟩)
        have hB5 := via hB hb5
        obtain ⟨wa, wc, rfl, -⟩ := hrow.open
        obtain ⟨bw, offw, rfl, hbw, hcw⟩ := words_first hrow Hfst.out
        rw [Hlen.out]
        rw [show ErrV 0 = .nilIface from rfl]
        clear hbuild hrow v0 v1 v2 v3
        go_wp2_with fail
        ((refine (top_nil _).mono ?_); rintro r7 w7 ⟨rfl, hb7⟩)
        replace hcw := (hb7.cell hbw).trans hcw
        go_wp2_with fail
        go_returns
        exact ⟨rfl, via hB5 hb7⟩
      · rw [if_neg hz200] at hlng
        obtain ⟨hE, hnil⟩ := hlng
        rw [hE, errV_ne (show (21 : Int) ≠ 0 by decide), hnil] at hbuild
        have hzd : (200 : Int) < (z : Int) := by omega
        clear hE hnil
        go_wp2_with fail
        ((refine hbuild.out.mono ?_); rintro r5 w5 ⟨wv, rfl, hrow, hb5⟩)
        have hB5 := via hB hb5
        obtain ⟨wa, wc, rfl, -⟩ := hrow.open
        have htop := hid (top_err 21 w5 (Hl.out w5 hB5))
        rw [errV_ne (show (21 : Int) ≠ 0 by decide)] at htop
        clear hbuild hrow v0 v1 v2 v3
        go_wp2_with fail
        ((refine htop.out.mono ?_); rintro r7 w7 ⟨rfl, hb7⟩)
        go_wp2_with fail
        go_returns
        exact ⟨rfl, via hB5 hb7⟩
theorem law_BuildLong (mv nv : Int) (w : World) (hl : LaidE w) :
    Calls Tryd.prog 3 #[.int .i64 mv, .int .i64 nv] w fun r w' => r = .returned (.bool true) ∧ Below w.heap.size w w' :=
  blong_walk mv nv w hl
end SLBLong

end Go.Proofs.YtblbhlgihlgncaaDoor

