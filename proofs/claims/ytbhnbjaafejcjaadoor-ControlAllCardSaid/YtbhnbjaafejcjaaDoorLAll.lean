/- All topics' words are told as the document says. -/
import Derived.Test.YtbhnbjaafejcjaaDoorCfg6
import Derived.Test.YtbhnbjaafejcjaaDoorL1Ctl
set_option linter.unusedVariables false
namespace Go.Proofs.YtbhnbjaafejcjaaDoor
open Go.RowKit

/-- The row of words that is written, and what is kept. -/
structure AllIn (w3 : World) (t g : Nat) (W : World) : Prop where
  row : ∃ ys : List (BitVec 64), W.ownsRow w3.heap.size 41 1 (.slice (some ⟨g, 0, none⟩) (11 + 10 * t) (11 + 10 * t)) (11 + 10 * t) (ys.map U)
  bl : Below w3.heap.size w3 W
theorem AllIn.below {w3 W W' : World} {t g : Nat} (h : AllIn w3 t g W) (hb : Below W.heap.size W W') : AllIn w3 t g W' := by
  obtain ⟨⟨ys, hy⟩, hl⟩ := h
  exact ⟨⟨ys, own_beneath hy hb⟩, hl.trans (hb.mono hl.size)⟩
theorem AllIn.word {w3 W : World} {t g : Nat} (h : AllIn w3 t g W) {o : Nat} (ho : o < 11 + 10 * t) : ∃ y : BitVec 64, W.cell? ⟨g, o, none⟩ = some (U y) ∧ W.frozen? ⟨g, o, none⟩ = false ∧ ∀ v : BitVec 64, AllIn w3 t g (W.setCell ⟨g, o, none⟩ (U v)) := by
  obtain ⟨⟨ys, hy⟩, hl⟩ := h
  have hlen : ys.length = 11 + 10 * t := by have := hy.1; simpa using this
  have hc := hy.cellAt o (by omega)
  rw [List.getElem?_map, List.getElem?_eq_getElem (by omega)] at hc
  refine ⟨ys[o], hc, hy.frozenAt o, fun v => ⟨⟨ys.set o v, ?_⟩, hl.setCell (own_blk hy (g := g) rfl).2 _⟩⟩
  have := own_set2 hy o (U v)
  rw [← List.map_set] at this
  exact this
def AllS (w3 : World) (t g B b o : Nat) (x : BitVec 64) (W : World) : Prop :=
  W.cell? ⟨B, 0, none⟩ = some (.int .i64 (t : Int)) ∧ W.cell? ⟨B, 1, none⟩ = some (.int .i64 4) ∧ W.cell? ⟨B, 2, none⟩ = some (.int .i64 1) ∧ W.cell? ⟨B, 3, none⟩ = some (.int .i64 1) ∧ W.cell? ⟨B, 4, none⟩ = some (.int .i64 4) ∧ W.cell? ⟨B, 5, none⟩ = some (.int .i64 1) ∧ W.cell? ⟨B, 6, none⟩ = some (.int .i64 6) ∧ W.cell? ⟨B, 7, none⟩ = some (.int .i64 0) ∧ W.cell? ⟨B, 8, none⟩ = some (.int .i64 1) ∧ W.cell? ⟨b, o, none⟩ = some (U x) ∧ AllIn w3 t g W
theorem AllIn.all {w3 W : World} {t g B b o : Nat} {x : BitVec 64} (h : AllIn w3 t g W) (hc : CBox w3 B t) (hx : w3.cell? ⟨b, o, none⟩ = some (U x)) (hlt : b < w3.heap.size) : AllS w3 t g B b o x W := by
  obtain ⟨_, k0, k1, k2, k3, k4, k5, k6, k7, k8⟩ := hc.below h.bl
  exact ⟨k0, k1, k2, k3, k4, k5, k6, k7, k8, (h.bl.cell hlt).trans hx, h⟩
theorem AllS.last {w3 W : World} {t g B b o : Nat} {x : BitVec 64} (h : AllS w3 t g B b o x W) : AllIn w3 t g W := h.2.2.2.2.2.2.2.2.2.2
theorem AllIn.wrow {w3 W : World} {t g : Nat} (h : AllIn w3 t g W) : ∃ F, WRow W g 0 (11 + 10 * t) F := by
  obtain ⟨⟨ys, hy⟩, hl⟩ := h
  have hlen : ys.length = 11 + 10 * t := by have := hy.1; simpa using this
  refine ⟨fun k => ys.getD k 0, (own_blk hy (g := g) rfl).1.lt, fun k hk => ?_⟩
  have hc := hy.cellAt k (by omega)
  rw [List.getElem?_map, List.getElem?_eq_getElem (by omega)] at hc
  simp only [Nat.zero_add, List.getD_eq_getElem?_getD, List.getElem?_eq_getElem (show k < ys.length by omega), Option.getD_some]
  exact hc
theorem topicsC_len (F : Nat → BitVec 64) (T : Nat) : ∀ t, (topicsC F T t).length = 5 * t
  | 0 => rfl
  | t + 1 => by rw [topicsC, List.length_append, topicsC_len F T t]; simp [unCs]; omega
theorem topicsC_get (F : Nat → BitVec 64) (T : Nat) : ∀ t j c, j < t → c < 5 → (topicsC F T t)[j * 5 + c]? = (unCs (F (6 + T + 9 * j)))[c]?
  | 0, j, c, h, _ => by omega
  | t + 1, j, c, h, hc => by
    rw [topicsC]
    by_cases hj : j < t
    · rw [List.getElem?_append_left (by rw [topicsC_len]; omega)]; exact topicsC_get F T t j c hj hc
    · obtain rfl : j = t := by omega
      rw [List.getElem?_append_right (by rw [topicsC_len]; omega), topicsC_len]
      congr 1; omega
/-- What was told, and where it lies. -/
structure Told (w : World) (g t : Nat) (F : Nat → BitVec 64) : Prop where
  lt : g < w.heap.size
  at_ : ∀ j c, j < t → c < 5 → w.cell? ⟨g, j * 5 + c, none⟩ = (unCs (F (6 + t + 9 * j)))[c]?
theorem Told.below {w w' : World} {g t : Nat} {F : Nat → BitVec 64} (h : Told w g t F) (hb : Below w.heap.size w w') : Told w' g t F := ⟨Nat.lt_of_lt_of_le h.lt hb.size, fun j c h1 h2 => (hb.cell h.lt).trans (h.at_ j c h1 h2)⟩
theorem told_of {w : World} {base t : Nat} {v : Value} {F : Nat → BitVec 64} (h : w.ownsRow base 57 5 v t (topicsC F t t)) (ht : 1 ≤ t) : ∃ g c, v = .slice (some ⟨g, 0, none⟩) t c ∧ Told w g t F := by
  rcases h.2 with ⟨_, h0⟩ | ⟨g, cap, cur, rfl, rest⟩
  · have := topicsC_len F t t; rw [h0] at this; simp at this; omega
  · refine ⟨g, cap, rfl, (own_blk h (g := g) rfl).1.lt, fun j c h1 h2 => ?_⟩
    rw [← topicsC_get F t t j c h1 h2]
    exact h.cellAt _ (by omega)
def AllRel2 (w7 : World) (t : Nat) (i : Value) (wr : World) : Prop := ∃ j : Nat, j ≤ t ∧ i = .int .i64 j ∧ Below w7.heap.size w7 wr
def AllRel (w3 : World) (t g : Nat) (i : Value) (wr : World) : Prop :=
  ∃ j : Nat, j ≤ t ∧ i = .int .i64 j ∧ AllIn w3 t g wr

set_option maxRecDepth 100000 in
set_option maxHeartbeats 4000000 in
theorem all_walk (n : Int) (t : Nat) (hn : 1 + n % 8 = (t : Int)) (v : Value) (k : Nat) (ls : List (BitVec 64)) (sh : Bool) (w : World) (hr : Row w 1 v k (ls.map U)) :
    Calls Tryd.prog 9 #[.int .i64 n, v, .bool sh] w fun r w' => r = .returned (.bool true) ∧ Below w.heap.size w w' := by
  have h1 : 1 ≤ t := by omega
  have h8 : t ≤ 8 := by omega
  go_enter Tryd.func9, Tryd.ntmps9
  go_wp2_with fail
  ((refine (awake13 _).mono ?_); rintro r1 w1 ⟨rfl, hb1⟩)
  go_wp2_with fail
  have hbx : Bx (w1.alloc (.cells #[.int .i64 t, .int .i64 4, .int .i64 1, .int .i64 1, .int .i64 1, .int .i64 4, .int .i64 1, .int .i64 6, .int .i64 0] 3)) w1.heap.size _ := Bx.mk' w1 _ 3 _ rfl
  ((refine (of_any w1.heap.size t _ (hbx.at_ 0) (hbx.at_ 1) (hbx.at_ 2) (hbx.at_ 3) (hbx.at_ 4) (hbx.at_ 5) (hbx.at_ 6) (hbx.at_ 7) (hbx.at_ 8) hbx.lt).mono ?_); rintro r2 w2 ⟨rfl, h2⟩)
  have hb2 : Below w.heap.size w w2 := hb1.trans ((via (below_al w1 _) h2).mono hb1.size)
  clear hbx h2 hb1
  unfold cfgV
  obtain ⟨w3, hw3, hb3, hbox⟩ := CBox.make w2 t
  have ⟨lt0, k0, k1, k2, k3, k4, k5, k6, k7, k8⟩ := hbox
  have hM := fun W => rmake_any t W h1 h8
  unfold cfgV at hM
  have hP := hid fun W (i : Int) h0 h2 => rcontrol_any t i W (by omega) (by omega) h0 h2
  unfold cfgV at hP
  have hbw : Below w.heap.size w w3 := hb2.trans (hb3.mono hb2.size)
  have hle : w.heap.size ≤ w2.heap.size := hb2.size
  go_wp2_with fail
  clear k0 k1 k2 k3 k4 k5 k6 k7 k8 hw3 hb2 hb3
  ((refine (hM _).mono ?_); rintro r3 w4 ⟨Bm, g, rfl, h4, hBm, ys, hown⟩)
  clear hM
  have hg : w3.heap.size ≤ g := (own_blk hown rfl).2
  go_wp2_with fail
  clear hBm
  have hk := hr.most
  have hrel0 := hid (show AllRel w3 t g (.int .i64 0) w4 from ⟨0, Nat.zero_le _, rfl, ⟨ys, hown⟩, h4⟩)
  obtain ⟨av, capv, rfl, _, _, hr2⟩ := hr.open
  clear hown h4
  go_loopw [10] (fun i wr => AllRel w3 t g i wr) (fun i _ => t - (intOf i).toNat)
  case atStart => exact hrel0.out
  case round =>
    clear hrel0
    obtain ⟨j, hj, rfl, hin⟩ := hrel
    have hbox4 := hbox.below hin.bl
    have ⟨_, k0, k1, k2, k3, k4, k5, k6, k7, k8⟩ := hbox4
    by_cases hjk : j < k
    · by_cases hjt : j < t
      · obtain ⟨b, off, rfl, hlb, hcell⟩ := hr2 (by omega)
        obtain ⟨x, hx⟩ : ∃ x, w3.cell? ⟨b, off + j, none⟩ = some (U x) := by
          rw [hbw.cell hlb, hcell j (by omega)]
          have : j < ls.length := by have := hr.len; simp at this; omega
          exact ⟨ls[j], by simp [this]⟩
        clear hcell hr2 hr
        have hlb3 : b < w3.heap.size := Nat.lt_of_lt_of_le hlb hbw.size
        have hjk2 : (j : Int) < (k : Int) := by omega
        have hz : (0 : Int) ≤ 6 + (t : Int) + (j : Int) * 9 := by omega
        have hz2 : 6 + (t : Int) + (j : Int) * 9 < 11 + 10 * (t : Int) := by omega
        have hz3 : (6 + (t : Int) + (j : Int) * 9).toNat = 6 + t + j * 9 := by omega
        go_wp2_with fail
        clear k0 k1 k2 k3 k4 k5 k6 k7 k8 hbox4
        refine wp_region_held_drew (S := (fun W => W.cell? ⟨w2.heap.size, 0, none⟩ = some (.int .i64 (t : Int)) ∧ W.cell? ⟨w2.heap.size, 1, none⟩ = some (.int .i64 4) ∧ W.cell? ⟨w2.heap.size, 2, none⟩ = some (.int .i64 1) ∧ W.cell? ⟨w2.heap.size, 3, none⟩ = some (.int .i64 1) ∧ W.cell? ⟨w2.heap.size, 4, none⟩ = some (.int .i64 4) ∧ W.cell? ⟨w2.heap.size, 5, none⟩ = some (.int .i64 1) ∧ W.cell? ⟨w2.heap.size, 6, none⟩ = some (.int .i64 6) ∧ W.cell? ⟨w2.heap.size, 7, none⟩ = some (.int .i64 0) ∧ W.cell? ⟨w2.heap.size, 8, none⟩ = some (.int .i64 1) ∧ W.cell? ⟨b, off + j, none⟩ = some (U x) ∧ AllIn w3 t g W)) (by kernel_rfl) ?_ (fun hHeld => ?_)
        · exact (hin.below (below_drewN _ _ 1)).all hbox hx hlb3
        refine wpAnyH_take (i := 0) (oi := { dst := some 37, op := Op.move (Operand.tmp 9), type := 36, pos := "law.go:83", after := #[], guard := none }) (v := ?vq0) rfl (by kernel_rfl) (by kernel_rfl) (by kernel_rfl) (fun _ _ _ h => h) (Or.inl ⟨by rfl, ?hyq0⟩) (by assumption) ?restq0
        case hyq0 => first | (intro w hSw; (try dsimp only at hSw); go_simp; done) | (intro w hSw; (try dsimp only at hSw); go_simp; with_reducible rfl)
        try simp only [Act.put, List.setIfInBounds_toArray, List.set_cons_zero, List.set_cons_succ]
        refine wpAnyH_take (i := 1) (oi := { dst := some 38, op := Op.load 66 (Operand.tmp 8), type := 66, pos := "law.go:83", after := #[], guard := none }) (v := ?vq1) rfl (by kernel_rfl) (by kernel_rfl) (by kernel_rfl) (fun _ _ _ h => h) (Or.inl ⟨by rfl, ?hyq1⟩) (by assumption) ?restq1
        case hyq1 => first | (intro w hSw; (try dsimp only at hSw); go_simp; done) | (intro w hSw; (try dsimp only at hSw); go_simp; with_reducible rfl)
        try simp only [Act.put, List.setIfInBounds_toArray, List.set_cons_zero, List.set_cons_succ]
        refine wpAnyH_take (i := 2) (oi := { dst := some 39, op := Op.move (Operand.tmp 10), type := 3, pos := "law.go:83", after := #[], guard := none }) (v := ?vq2) rfl (by kernel_rfl) (by kernel_rfl) (by kernel_rfl) (fun _ _ _ h => h) (Or.inl ⟨by rfl, ?hyq2⟩) (by assumption) ?restq2
        case hyq2 => first | (intro w hSw; (try dsimp only at hSw); go_simp; done) | (intro w hSw; (try dsimp only at hSw); go_simp; with_reducible rfl)
        try simp only [Act.put, List.setIfInBounds_toArray, List.set_cons_zero, List.set_cons_succ]
        refine wpAnyH_take (i := 4) (oi := { dst := some 41, op := Op.move (Operand.tmp 1), type := 36, pos := "law.go:83", after := #[], guard := none }) (v := ?vq4) rfl (by kernel_rfl) (by kernel_rfl) (by kernel_rfl) (fun _ _ _ h => h) (Or.inl ⟨by rfl, ?hyq4⟩) (by assumption) ?restq4
        case hyq4 => first | (intro w hSw; (try dsimp only at hSw); go_simp; done) | (intro w hSw; (try dsimp only at hSw); go_simp; with_reducible rfl)
        try simp only [Act.put, List.setIfInBounds_toArray, List.set_cons_zero, List.set_cons_succ]
        refine wpAnyH_take (i := 5) (oi := { dst := some 42, op := Op.move (Operand.tmp 10), type := 3, pos := "law.go:83", after := #[], guard := none }) (v := ?vq5) rfl (by kernel_rfl) (by kernel_rfl) (by kernel_rfl) (fun _ _ _ h => h) (Or.inl ⟨by rfl, ?hyq5⟩) (by assumption) ?restq5
        case hyq5 => first | (intro w hSw; (try dsimp only at hSw); go_simp; done) | (intro w hSw; (try dsimp only at hSw); go_simp; with_reducible rfl)
        try simp only [Act.put, List.setIfInBounds_toArray, List.set_cons_zero, List.set_cons_succ]
        refine wpAnyH_take (i := 6) (oi := { dst := some 43, op := Op.indexAddr 36 (Operand.tmp 41) (Operand.tmp 42), type := 0, pos := "law.go:83", after := #[{ on := 4, ground := Ground.data }, { on := 5, ground := Ground.data }], guard := none }) (v := ?vq6) rfl (by kernel_rfl) (by kernel_rfl) (by kernel_rfl) (fun _ _ _ h => h) (Or.inl ⟨by rfl, ?hyq6⟩) (by assumption) ?restq6
        case hyq6 => first | (intro w hSw; (try dsimp only at hSw); go_simp; done) | (intro w hSw; (try dsimp only at hSw); go_simp; with_reducible rfl)
        try simp only [Act.put, List.setIfInBounds_toArray, List.set_cons_zero, List.set_cons_succ]
        refine wpAnyH_take (i := 7) (oi := { dst := some 44, op := Op.load 41 (Operand.tmp 43), type := 41, pos := "law.go:83", after := #[{ on := 6, ground := Ground.data }], guard := none }) (v := ?vq7) rfl (by kernel_rfl) (by kernel_rfl) (by kernel_rfl) (fun _ _ _ h => h) (Or.inl ⟨by rfl, ?hyq7⟩) (by assumption) ?restq7
        case hyq7 => first | (intro w hSw; (try dsimp only at hSw); go_simp; done) | (intro w hSw; (try dsimp only at hSw); go_simp; with_reducible rfl)
        try simp only [Act.put, List.setIfInBounds_toArray, List.set_cons_zero, List.set_cons_succ]
        refine wpAnyH_ready (rs := [3]) (by kernel_rfl) (by simp) ?_
        refine AllReadyH.cons (o := { dst := some 40, op := Op.call { callee := Callee.value (Operand.func 34), args := #[Operand.tmp 38, Operand.tmp 39], argTypes := #[66, 3] }, type := 3, pos := "law.go:83", after := #[{ on := 1, ground := Ground.data }, { on := 2, ground := Ground.data }], guard := none }) rfl (fun K hK => ?_) AllReadyH.nil
        go_simp
        ((refine (hP.out _ j (by omega) (by omega)).mono ?_); rintro r5 w10 ⟨rfl, hb5⟩)
        refine hK.out _ _ ?_ (fun hHeld => ?_)
        · exact ((AllS.last hHeld).below hb5).all hbox hx hlb3
        clear hK K
        try simp only [Act.put, List.setIfInBounds_toArray, List.set_cons_zero, List.set_cons_succ]
        refine wpAnyH_take (i := 8) (oi := { dst := some 45, op := Op.indexAddr 36 (Operand.tmp 37) (Operand.tmp 40), type := 0, pos := "law.go:83", after := #[{ on := 0, ground := Ground.data }, { on := 3, ground := Ground.data }, { on := 0, ground := Ground.phase }, { on := 1, ground := Ground.phase }, { on := 2, ground := Ground.phase }, { on := 3, ground := Ground.phase }, { on := 4, ground := Ground.phase }, { on := 5, ground := Ground.phase }, { on := 6, ground := Ground.phase }, { on := 7, ground := Ground.phase }], guard := none }) (v := ?vq8) rfl (by kernel_rfl) (by kernel_rfl) (by kernel_rfl) (fun _ _ _ h => h) (Or.inl ⟨by rfl, ?hyq8⟩) (by assumption) ?restq8
        case hyq8 => first | (intro w hSw; (try dsimp only at hSw); go_simp; done) | (intro w hSw; (try dsimp only at hSw); go_simp; with_reducible rfl)
        try simp only [Act.put, List.setIfInBounds_toArray, List.set_cons_zero, List.set_cons_succ]
        refine wpAnyH_ready (rs := [9]) (by kernel_rfl) (by simp) ?_
        refine AllReadyH.cons (o := { dst := none, op := Op.store 41 (Operand.tmp 45) (Operand.tmp 44), type := 0, pos := "law.go:83", after := #[{ on := 8, ground := Ground.data }, { on := 7, ground := Ground.data }, { on := 3, ground := Ground.chain }, { on := 0, ground := Ground.phase }, { on := 1, ground := Ground.phase }, { on := 2, ground := Ground.phase }, { on := 3, ground := Ground.phase }, { on := 4, ground := Ground.phase }, { on := 5, ground := Ground.phase }, { on := 6, ground := Ground.phase }, { on := 7, ground := Ground.phase }], guard := none }) rfl (fun K hK => ?_) AllReadyH.nil
        obtain ⟨y1, d0, d1, d2⟩ := (AllS.last hHeld).word (show 6 + t + j * 9 < 11 + 10 * t by omega)
        go_simp
        refine hK.out _ _ ?_ (fun hHeld => ?_)
        · exact (d2 _).all hbox hx hlb3
        clear hK K
        try simp only [Act.put, List.setIfInBounds_toArray, List.set_cons_zero, List.set_cons_succ]
        refine wpAnyH_done (by kernel_rfl) ?_ _
        have hrel2 := hid (show AllRel w3 t g (.int .i64 (j + 1 : Nat)) _ from ⟨j + 1, by omega, rfl, AllS.last hHeld⟩)
        clear hHeld hin d0 d1 d2 hb5
        go_wp2_with fail
        exact ⟨hrel2.out, by simp [intOf] <;> omega⟩
      · skip
        have hCA := hid fun (F : Nat → BitVec 64) wx h => controls_any t g 0 (11 + 10 * t) F wx h1 h8 h
        have hRA := hid fun (F : Nat → BitVec 64) wx h => rcontrols_any t g 0 (11 + 10 * t) F wx h1 h8 h
        have hCS := hid fun (o L c : Nat) wx h => controls_short t g o L c wx h1 h8 h
        have hRS := hid fun (o L c : Nat) wx h => rcontrols_short t g o L c wx h1 h8 h
        have hCZ := hid fun sv wx => controls_zero sv wx
        unfold cfgV at hCA hRA hCS hRS
        unfold cfgZ at hCZ
        have hIn := hid hin
        clear hin hr hr2
        cases sh
        · go_wp2_with fail
          clear k0 k1 k2 k3 k4 k5 k6 k7 k8
          obtain ⟨F, hF⟩ := hIn.out.wrow
          ((refine (hCA.out F _ hF).mono ?_); rintro ra wa ⟨va, rfl, ha, hoa⟩)
          have hFa := hF.below ha
          obtain ⟨ga, ca, rfl, hta⟩ := told_of hoa h1
          have ⟨_, k0, k1, k2, k3, k4, k5, k6, k7, k8⟩ := hbox4.below ha
          clear hoa hF
          go_wp2_with fail
          clear k0 k1 k2 k3 k4 k5 k6 k7 k8
          ((refine (hRA.out F _ hFa).mono ?_); rintro rb wb ⟨vb, rfl, hb, hob⟩)
          obtain ⟨gb, cb, rfl, htb⟩ := told_of hob h1
          replace hta := hta.below hb
          clear hob hFa
          have hfin := hid (show Below w.heap.size w wb from via (via (hbw.trans (hIn.out.bl.mono hbw.size)) ha) hb)
          clear ha hb hIn hbox4 hbox hCA hRA hCS hRS hP
          go_wp2_with fail
          have hrel0 := hid (show AllRel2 wb t (.int .i64 0) wb from ⟨0, Nat.zero_le _, rfl, Below.refl _ _⟩)
          go_loopw [13] (fun i wr => AllRel2 wb t i wr) (fun i _ => t - (intOf i).toNat)
          case atStart => exact hrel0.out
          case round =>
            clear hrel0
            obtain ⟨j2, hj2, rfl, hbl2⟩ := hrel
            by_cases hjt2 : j2 < t
            · have hA := hta.below hbl2
              have hB := htb.below hbl2
              have a0 := hA.at_ j2 0 hjt2 (by omega)
              have a1 := hA.at_ j2 1 hjt2 (by omega)
              have a2 := hA.at_ j2 2 hjt2 (by omega)
              have a3 := hA.at_ j2 3 hjt2 (by omega)
              have a4 := hA.at_ j2 4 hjt2 (by omega)
              have b0 := hB.at_ j2 0 hjt2 (by omega)
              have b1 := hB.at_ j2 1 hjt2 (by omega)
              have b2 := hB.at_ j2 2 hjt2 (by omega)
              have b3 := hB.at_ j2 3 hjt2 (by omega)
              have b4 := hB.at_ j2 4 hjt2 (by omega)
              clear hA hB hta htb
              generalize F (6 + t + 9 * j2) = x2 at *
              simp only [unCs, List.getElem?_cons_zero, List.getElem?_cons_succ, Nat.add_zero] at a0 a1 a2 a3 a4 b0 b1 b2 b3 b4
              go_wp2_with fail
              go_quiet (fail)
              clear a0 a1 a2 a3 a4 b0 b1 b2 b3 b4
              go_wp2_with fail
              exact ⟨⟨j2 + 1, by omega, rfl, hbl2.trans ((below_drewN wb.heap.size _ _).mono (Nat.le_refl _))⟩, by simp [intOf] <;> omega⟩
            · have hb9 := hfin.out.trans (hbl2.mono hfin.out.size)
              clear hbl2 hta htb hfin
              go_wp2_with fail
              ((refine (hCZ.out _ _).mono ?_); rintro rz wz ⟨rfl, hz⟩)
              have hb10 := via hb9 hz
              clear hz hb9
              go_wp2_with fail
              go_ret
              exact ⟨rfl, hb10⟩
        · have hl1 : (1 : Int) ≤ 11 + 10 * (t : Int) := by omega
          have hne : 11 + 10 * t - 1 ≠ 11 + 10 * t := by omega
          have hb4 : Below w.heap.size w wr := hbw.trans (hIn.out.bl.mono hbw.size)
          go_wp2_with fail
          clear k0 k1 k2 k3 k4 k5 k6 k7 k8
          ((refine (hCS.out _ _ _ _ (by omega)).mono ?_); rintro ra wa ⟨rfl, ha⟩)
          have ⟨_, k0, k1, k2, k3, k4, k5, k6, k7, k8⟩ := hbox4.below ha
          have hb5 := via hb4 ha
          go_wp2_with fail
          clear k0 k1 k2 k3 k4 k5 k6 k7 k8
          ((refine (hRS.out _ _ _ _ (by omega)).mono ?_); rintro rb wb ⟨rfl, hb⟩)
          have hb6 := via hb5 hb
          clear ha hb hIn hbox4 hbox hCA hRA hCS hRS hP hb4 hb5
          go_wp2_with fail
          have hrel0 := hid (show AllRel2 wb t (.int .i64 0) wb from ⟨0, Nat.zero_le _, rfl, Below.refl _ _⟩)
          go_loopw [13] (fun i wr => AllRel2 wb 0 i wr) (fun i _ => t - (intOf i).toNat)
          case atStart => exact ⟨0, Nat.zero_le _, rfl, Below.refl _ _⟩
          case round =>
            clear hrel0
            obtain ⟨j2, hj2, rfl, hbl2⟩ := hrel
            obtain rfl : j2 = 0 := by omega
            have hb9 := hb6.trans (hbl2.mono hb6.size)
            clear hbl2 hb6
            go_wp2_with fail
            ((refine (hCZ.out _ _).mono ?_); rintro rz wz ⟨rfl, hz⟩)
            have hb10 := via hb9 hz
            clear hz hb9
            go_wp2_with fail
            go_ret
            exact ⟨rfl, hb10⟩
    · skip
      have hCA := hid fun (F : Nat → BitVec 64) wx h => controls_any t g 0 (11 + 10 * t) F wx h1 h8 h
      have hRA := hid fun (F : Nat → BitVec 64) wx h => rcontrols_any t g 0 (11 + 10 * t) F wx h1 h8 h
      have hCS := hid fun (o L c : Nat) wx h => controls_short t g o L c wx h1 h8 h
      have hRS := hid fun (o L c : Nat) wx h => rcontrols_short t g o L c wx h1 h8 h
      have hCZ := hid fun sv wx => controls_zero sv wx
      unfold cfgV at hCA hRA hCS hRS
      unfold cfgZ at hCZ
      have hIn := hid hin
      clear hin hr hr2
      cases sh
      · go_wp2_with fail
        clear k0 k1 k2 k3 k4 k5 k6 k7 k8
        obtain ⟨F, hF⟩ := hIn.out.wrow
        ((refine (hCA.out F _ hF).mono ?_); rintro ra wa ⟨va, rfl, ha, hoa⟩)
        have hFa := hF.below ha
        obtain ⟨ga, ca, rfl, hta⟩ := told_of hoa h1
        have ⟨_, k0, k1, k2, k3, k4, k5, k6, k7, k8⟩ := hbox4.below ha
        clear hoa hF
        go_wp2_with fail
        clear k0 k1 k2 k3 k4 k5 k6 k7 k8
        ((refine (hRA.out F _ hFa).mono ?_); rintro rb wb ⟨vb, rfl, hb, hob⟩)
        obtain ⟨gb, cb, rfl, htb⟩ := told_of hob h1
        replace hta := hta.below hb
        clear hob hFa
        have hfin := hid (show Below w.heap.size w wb from via (via (hbw.trans (hIn.out.bl.mono hbw.size)) ha) hb)
        clear ha hb hIn hbox4 hbox hCA hRA hCS hRS hP
        go_wp2_with fail
        have hrel0 := hid (show AllRel2 wb t (.int .i64 0) wb from ⟨0, Nat.zero_le _, rfl, Below.refl _ _⟩)
        go_loopw [13] (fun i wr => AllRel2 wb t i wr) (fun i _ => t - (intOf i).toNat)
        case atStart => exact hrel0.out
        case round =>
          clear hrel0
          obtain ⟨j2, hj2, rfl, hbl2⟩ := hrel
          by_cases hjt2 : j2 < t
          · have hA := hta.below hbl2
            have hB := htb.below hbl2
            have a0 := hA.at_ j2 0 hjt2 (by omega)
            have a1 := hA.at_ j2 1 hjt2 (by omega)
            have a2 := hA.at_ j2 2 hjt2 (by omega)
            have a3 := hA.at_ j2 3 hjt2 (by omega)
            have a4 := hA.at_ j2 4 hjt2 (by omega)
            have b0 := hB.at_ j2 0 hjt2 (by omega)
            have b1 := hB.at_ j2 1 hjt2 (by omega)
            have b2 := hB.at_ j2 2 hjt2 (by omega)
            have b3 := hB.at_ j2 3 hjt2 (by omega)
            have b4 := hB.at_ j2 4 hjt2 (by omega)
            clear hA hB hta htb
            generalize F (6 + t + 9 * j2) = x2 at *
            simp only [unCs, List.getElem?_cons_zero, List.getElem?_cons_succ, Nat.add_zero] at a0 a1 a2 a3 a4 b0 b1 b2 b3 b4
            go_wp2_with fail
            go_quiet (fail)
            clear a0 a1 a2 a3 a4 b0 b1 b2 b3 b4
            go_wp2_with fail
            exact ⟨⟨j2 + 1, by omega, rfl, hbl2.trans ((below_drewN wb.heap.size _ _).mono (Nat.le_refl _))⟩, by simp [intOf] <;> omega⟩
          · have hb9 := hfin.out.trans (hbl2.mono hfin.out.size)
            clear hbl2 hta htb hfin
            go_wp2_with fail
            ((refine (hCZ.out _ _).mono ?_); rintro rz wz ⟨rfl, hz⟩)
            have hb10 := via hb9 hz
            clear hz hb9
            go_wp2_with fail
            go_ret
            exact ⟨rfl, hb10⟩
      · have hl1 : (1 : Int) ≤ 11 + 10 * (t : Int) := by omega
        have hne : 11 + 10 * t - 1 ≠ 11 + 10 * t := by omega
        have hb4 : Below w.heap.size w wr := hbw.trans (hIn.out.bl.mono hbw.size)
        go_wp2_with fail
        clear k0 k1 k2 k3 k4 k5 k6 k7 k8
        ((refine (hCS.out _ _ _ _ (by omega)).mono ?_); rintro ra wa ⟨rfl, ha⟩)
        have ⟨_, k0, k1, k2, k3, k4, k5, k6, k7, k8⟩ := hbox4.below ha
        have hb5 := via hb4 ha
        go_wp2_with fail
        clear k0 k1 k2 k3 k4 k5 k6 k7 k8
        ((refine (hRS.out _ _ _ _ (by omega)).mono ?_); rintro rb wb ⟨rfl, hb⟩)
        have hb6 := via hb5 hb
        clear ha hb hIn hbox4 hbox hCA hRA hCS hRS hP hb4 hb5
        go_wp2_with fail
        have hrel0 := hid (show AllRel2 wb t (.int .i64 0) wb from ⟨0, Nat.zero_le _, rfl, Below.refl _ _⟩)
        go_loopw [13] (fun i wr => AllRel2 wb 0 i wr) (fun i _ => t - (intOf i).toNat)
        case atStart => exact ⟨0, Nat.zero_le _, rfl, Below.refl _ _⟩
        case round =>
          clear hrel0
          obtain ⟨j2, hj2, rfl, hbl2⟩ := hrel
          obtain rfl : j2 = 0 := by omega
          have hb9 := hb6.trans (hbl2.mono hb6.size)
          clear hbl2 hb6
          go_wp2_with fail
          ((refine (hCZ.out _ _).mono ?_); rintro rz wz ⟨rfl, hz⟩)
          have hb10 := via hb9 hz
          clear hz hb9
          go_wp2_with fail
          go_ret
          exact ⟨rfl, hb10⟩

theorem law_ControlAll (n : Int) (v : Value) (k : Nat) (ls : List (BitVec 64)) (sh : Bool) (w : World) (hl : LaidE w) (hr : Row w 1 v k (ls.map U)) :
    Calls Tryd.prog 9 #[.int .i64 n, v, .bool sh] w fun r w' => r = .returned (.bool true) ∧ Below w.heap.size w w' :=
  all_walk n (1 + n % 8).toNat (by omega) v k ls sh w hr
end Go.Proofs.YtbhnbjaafejcjaaDoor

