/- The document's Made: a right schema of plain numbers. -/
import Derived.Test.YtmcpanjpjnlleaaDoorNext
import Derived.Deep.AppendLies
set_option linter.unusedVariables false
namespace Go.Proofs.YtmcpanjpjnlleaaDoor
open Go.RowKit

/-- The first k fields of a type, and the numbers that are left. -/
def fieldsTo (n : Nat) (r : List Int) : Nat → Fields × List Int
  | 0 => ([], r)
  | k + 1 =>
    let q := fieldsTo n r k
    let kd : Int := 1 + nxt q.2 5
    if kd < 4 then (q.1 ++ [(kd, 0)], q.2.tail) else (q.1 ++ [(kd, (nxt q.2.tail n : Int))], q.2.tail.tail)
/-- The first k types. -/
def typesTo (n : Nat) (r : List Int) : Nat → Schema × List Int
  | 0 => ([], r)
  | k + 1 =>
    let q := typesTo n r k
    let f := fieldsTo n q.2.tail (1 + nxt q.2 4)
    (q.1 ++ [f.1], f.2)
def madeS (l : List Int) : Schema := (typesTo (1 + nxt l 4) l.tail (1 + nxt l 4)).1

theorem fieldsTo_ok (n : Nat) (hn : 1 ≤ n) (r : List Int) : ∀ k, (fieldsTo n r k).1.length = k ∧ (fieldsTo n r k).1.all (fOk n) = true
  | 0 => ⟨rfl, rfl⟩
  | k + 1 => by
    obtain ⟨h1, h2⟩ := fieldsTo_ok n hn r k
    have h5 := nxt_lt (fieldsTo n r k).2 5 (by omega)
    have ht := nxt_lt (fieldsTo n r k).2.tail n hn
    simp only [fieldsTo]
    split
    · refine ⟨by simp [h1], ?_⟩
      rw [List.all_append, h2]
      simp only [List.all_cons, List.all_nil, Bool.and_true, Bool.true_and]
      exact decide_eq_true ⟨by omega, by omega, Int.le_refl _, show (0 : Int) < (n : Int) by omega, fun _ => rfl⟩
    · refine ⟨by simp [h1], ?_⟩
      rw [List.all_append, h2]
      simp only [List.all_cons, List.all_nil, Bool.and_true, Bool.true_and]
      exact decide_eq_true ⟨by omega, by omega, by simp only; omega, by simp only; omega, fun h => by simp only at h; omega⟩

theorem typesTo_ok (n : Nat) (hn : 1 ≤ n) (r : List Int) : ∀ k, (typesTo n r k).1.length = k ∧ ∀ l ∈ (typesTo n r k).1, 1 ≤ l.length ∧ l.length ≤ 4 ∧ l.all (fOk n) = true
  | 0 => ⟨rfl, fun l h => by simp [typesTo] at h⟩
  | k + 1 => by
    obtain ⟨h1, h2⟩ := typesTo_ok n hn r k
    have h4 := nxt_lt (typesTo n r k).2 4 (by omega)
    obtain ⟨g1, g2⟩ := fieldsTo_ok n hn (typesTo n r k).2.tail (1 + nxt (typesTo n r k).2 4)
    refine ⟨by simp [typesTo, h1], fun l hl => ?_⟩
    simp only [typesTo, List.mem_append, List.mem_singleton] at hl
    rcases hl with hl | rfl
    · exact h2 l hl
    · exact ⟨by omega, by omega, g2⟩

/-- What is made is right, of 1 to 4 types of 1 to 4 fields. -/
theorem madeS_ok (l : List Int) : rightB (madeS l) = true ∧ 1 ≤ (madeS l).length ∧ (madeS l).length ≤ 4 ∧ ∀ f ∈ madeS l, 1 ≤ f.length ∧ f.length ≤ 4 := by
  have h4 := nxt_lt l 4 (by omega)
  obtain ⟨h1, h2⟩ := typesTo_ok (1 + nxt l 4) (by omega) l.tail (1 + nxt l 4)
  have hl : (madeS l).length = 1 + nxt l 4 := h1
  refine ⟨?_, by omega, by omega, fun f hf => ⟨(h2 f hf).1, (h2 f hf).2.1⟩⟩
  rw [rightB, hl, show decide (1 ≤ 1 + nxt l 4 ∧ 1 + nxt l 4 ≤ 8) = true from decide_eq_true (by omega), Bool.true_and, List.all_eq_true]
  intro f hf
  obtain ⟨g1, g2, g3⟩ := h2 f hf
  rw [lOk, g3, Bool.and_true]
  exact decide_eq_true (by omega)

theorem news_at (w : World) (g : Nat) (hg : w.heap.size = g) (cs : Array Value) (t : TypeId) : ∀ j u, cs.toList[j]? = some u → (w.alloc (.cells cs t)).cell? ((⟨g, 0, none⟩ : Addr).add j) = some u := by
  subst hg
  exact World.news_of_block (heap_alloc_new w _)

theorem infoF : (Tryd.prog.info? 55).map (fun i => (i.zero, i.size, i.bytes)) = some (some (.agg #[.int .i64 0, .int .i64 0]), 2, 16) := by kernel_rfl
theorem infoFs : (Tryd.prog.info? 56).map (fun i => (i.zero, i.size, i.bytes)) = some (some (.slice none 0 0), 1, 24) := by kernel_rfl

/-- The rows of a schema, of the call's own. -/
def OwnS (w : World) (base : Nat) (v : Value) (s : Schema) : Prop :=
  ∃ vs, w.ownsRow base 56 1 v s.length vs ∧ ∀ (i : Nat) (l : Fields), s[i]? = some l → ∃ u, vs[i]? = some u ∧ w.ownsRow base 55 2 u l.length (fldsC l)

theorem OwnS.sch {w : World} {base : Nat} {v : Value} {s : Schema} (h : OwnS w base v s) : Sch w v s := by
  obtain ⟨vs, h1, h2⟩ := h
  exact ⟨vs, Row.of_owns h1, fun i l hl => by
    obtain ⟨u, hu, ho⟩ := h2 i l hl
    exact ⟨u, hu, Row.of_owns ho⟩⟩
theorem OwnS.keep {w w' : World} {base : Nat} {v : Value} {s : Schema} {t : TypeId} {row : Option Nat} (h : OwnS w base v s) (hg : w.grownBy w' row) (hr : ∀ g, row = some g → BlkT w g t) (h1 : t ≠ 56) (h2 : t ≠ 55) : OwnS w' base v s := by
  obtain ⟨vs, g1, g2⟩ := h
  exact ⟨vs, own_grown g1 hg hr h1, fun i l hl => by
    obtain ⟨u, hu, ho⟩ := g2 i l hl
    exact ⟨u, hu, own_grown ho hg hr h2⟩⟩
theorem OwnS.below {w w' : World} {base : Nat} {v : Value} {s : Schema} (h : OwnS w base v s) (hb : Below w.heap.size w w') : OwnS w' base v s := by
  obtain ⟨vs, g1, g2⟩ := h
  exact ⟨vs, own_beneath g1 hb, fun i l hl => by
    obtain ⟨u, hu, ho⟩ := g2 i l hl
    exact ⟨u, hu, own_beneath ho hb⟩⟩
theorem RS.keep {w0 w w' : World} {B : Nat} {v : Value} {l r : List Int} {t : TypeId} {row : Option Nat} (h : RS w0 w B v l r) (hg : w.grownBy w' row) (hr : ∀ g, row = some g → BlkT w g t ∧ w0.heap.size ≤ g) (hne : t ≠ 85) : RS w0 w' B v l r := by
  obtain ⟨⟨k, hk, hd, hc⟩, c0, fz, bt, hB, lt, bl⟩ := h
  have hblk : w'.heap[B]? = w.heap[B]? := hg.block B lt fun e => blk_ne (hr B e.symm).1 bt hne rfl
  refine ⟨⟨k, hk, hd, (World.cell?_of_block hblk).trans hc⟩, (World.cell?_of_block hblk).trans c0, ?_, bt.keep hblk, hB, Nat.lt_of_lt_of_le lt hg.size, bl.grown hg bl.size fun g e => (hr g e).2⟩
  simp only [World.frozen?, hblk]; exact fz
theorem RS.below {w0 w w' : World} {B : Nat} {v : Value} {l r : List Int} (h : RS w0 w B v l r) (hb : Below w.heap.size w w') : RS w0 w' B v l r := by
  obtain ⟨⟨k, hk, hd, hc⟩, c0, fz, bt, hB, lt, bl⟩ := h
  exact ⟨⟨k, hk, hd, (hb.cell lt).trans hc⟩, (hb.cell lt).trans c0, (hb.frozen lt).trans fz, bt.below hb lt, hB, Nat.lt_of_lt_of_le lt hb.size, bl.trans (hb.mono bl.size)⟩

def MadeP (l : List Int) (w : World) (e : Ending) (w' : World) : Prop := ∃ u, e = .returned u ∧ Below w.heap.size w w' ∧ OwnS w' w.heap.size u (madeS l)

def MadeRel (w : World) (v : Value) (l : List Int) (N : Nat) (sv i : Value) (wr : World) : Prop :=
  ∃ t : Nat, t ≤ N ∧ i = .int .i64 t ∧ OwnS wr w.heap.size sv (typesTo N l.tail t).1 ∧ RS w wr w.heap.size v l (typesTo N l.tail t).2
def MadeRel2 (w wo : World) (v : Value) (l : List Int) (N K : Nat) (r : List Int) (fv i : Value) (wr : World) : Prop :=
  ∃ j : Nat, j ≤ K ∧ i = .int .i64 j ∧ wr.ownsRow wo.heap.size 55 2 fv j (fldsC (fieldsTo N r j).1) ∧ RS w wr w.heap.size v l (fieldsTo N r j).2 ∧ wo.grownBy wr (some w.heap.size)

set_option maxHeartbeats 4000000 in
set_option maxRecDepth 100000 in
theorem made_any (l : List Int) (v : Value) (w : World) (hr : Row w 1 v l.length (l.map (Value.int .i64))) (hb : ∀ z ∈ l, -9223372036854775808 ≤ z ∧ z ≤ 9223372036854775807) :
    Calls Tryd.prog 26 #[v] w (MadeP l w) := by
  obtain ⟨i0, hi0, hz0, hz1, hz2⟩ := info_parts infoF
  obtain ⟨i1, hi1, hy0, hy1, hy2⟩ := info_parts infoFs
  obtain ⟨a, cap, rfl, _⟩ := hr.open
  obtain ⟨v, hv⟩ : ∃ v, v = Value.slice a l.length cap := ⟨_, rfl⟩
  rw [← hv] at hr
  have hnext := fun (wx : World) (r : List Int) (n : Nat) (h : RS w wx w.heap.size v l r) (h1 : 1 ≤ n) (h8 : n ≤ 8) => next_any w wx w.heap.size v l r n hr hb h h1 h8
  have h0 : RS w (w.alloc (.cells #[.slice a l.length cap, .int .i64 0] 85)) w.heap.size v l l := by
    subst hv
    exact ⟨⟨0, Nat.zero_le _, rfl, by simp⟩, by simp, by simp, BlkT.new _ _ _, Nat.le_refl _, by simp, below_alloc _ _⟩
  have Hn := hid hnext
  clear hnext hr hb hv
  obtain ⟨N, hN⟩ : ∃ N, N = 1 + nxt l 4 := ⟨_, rfl⟩
  have hN4 := nxt_lt l 4 (by omega)
  have hNb : 1 ≤ N ∧ N ≤ 4 := by omega
  have Hmade := hid (show madeS l = (typesTo N l.tail N).1 by rw [madeS, hN])
  have HN := hid (show .int .i64 (1 + (nxt l 4 : Int)) = Value.int .i64 (N : Int) by rw [hN, Int.natCast_add]; rfl)
  clear hN
  go_enter Tryd.func26, Tryd.ntmps26
  go_wp2_with fail
  ((refine (Hn.out _ _ 4 h0 (by omega) (by omega)).mono ?_); rintro e1 w1 ⟨rfl, hrs, hg⟩)
  clear h0 hg
  go_wp2_with fail
  rw [HN.out]
  have hrel0 := hid (show MadeRel w v l N (.slice none 0 0) (.int .i64 0) w1 from ⟨0, Nat.zero_le _, rfl, ⟨[], own_nil _ _ _ _, fun i l h => by simp [typesTo] at h⟩, hrs⟩)
  clear hrs HN hN4
  go_loopw [5, 6] (fun sv i wr => MadeRel w v l N sv i wr) (fun _ i _ => N - (intOf i).toNat)
  case atStart => exact hrel0.out
  case round =>
    clear hrel0
    obtain ⟨t, ht, rfl, hown, hrs⟩ := hrel
    by_cases hlt : t < N
    · go_wp2_with fail
      ((refine (Hn.out _ _ 4 hrs (by omega) (by omega)).mono ?_); rintro e2 w2 ⟨rfl, hrs2, hg2⟩)
      have hown2 := hown.keep hg2 (fun g e => by obtain rfl : w.heap.size = g := Option.some.inj e; exact hrs.bt) (by decide) (by decide)
      have hK4 := nxt_lt (typesTo N l.tail t).2 4 (by omega)
      obtain ⟨K, hK⟩ : ∃ K, K = 1 + nxt (typesTo N l.tail t).2 4 := ⟨_, rfl⟩
      have HK := hid (show .int .i64 (1 + (nxt (typesTo N l.tail t).2 4 : Int)) = Value.int .i64 (K : Int) by rw [hK, Int.natCast_add]; rfl)
      have Hnext := hid (show typesTo N l.tail (t + 1) = ((typesTo N l.tail t).1 ++ [(fieldsTo N (typesTo N l.tail t).2.tail K).1], (fieldsTo N (typesTo N l.tail t).2.tail K).2) by rw [hK]; rfl)
      have hKb : 1 ≤ K ∧ K ≤ 4 := by omega
      have hlenS := hid (typesTo_ok N (by omega) l.tail t).1
      have hw2 : w.heap.size ≤ w2.heap.size := hrs2.bl.size
      have hbt2 := hrs2.bt
      clear hown hrs hg2 hK
      go_wp2_with fail
      rw [HK.out]
      clear HK hK4
      generalize (typesTo N l.tail t).2.tail = r at *
      generalize (typesTo N l.tail t).1 = S at *
      have hrel0 := hid (show MadeRel2 w w2 v l N K r (.slice none 0 0) (.int .i64 0) w2 from ⟨0, Nat.zero_le _, rfl, own_nil _ _ _ _, hrs2, World.grownBy.refl _ _⟩)
      clear hrs2
      go_loopw [8, 9] (fun fv i wr => MadeRel2 w w2 v l N K r fv i wr) (fun _ i _ => K - (intOf i).toNat)
      case atStart => exact hrel0.out
      case round =>
        clear hrel0
        obtain ⟨j, hj, rfl, hf, hrs, hgo⟩ := hrel
        by_cases hjl : j < K
        · go_wp2_with fail
          ((refine (Hn.out _ _ 5 hrs (by omega) (by omega)).mono ?_); rintro e3 w3 ⟨rfl, hrs3, hg3⟩)
          have hx5 := nxt_lt (fieldsTo N r j).2 5 (by omega)
          have hf3 := own_grown hf hg3 (t := 85) (fun g e => by obtain rfl : w.heap.size = g := Option.some.inj e; exact hrs.bt) (by decide)
          have hgo3 := grown_more hgo hg3 (fun g e => .inr e)
          by_cases hk4 : (1 : Int) + nxt (fieldsTo N r j).2 5 < 4
          · have Hst := hid (show fieldsTo N r (j + 1) = ((fieldsTo N r j).1 ++ [((1 : Int) + nxt (fieldsTo N r j).2 5, 0)], (fieldsTo N r j).2.tail) by simp only [fieldsTo]; rw [if_pos hk4])
            generalize nxt (fieldsTo N r j).2 5 = x5 at *
            generalize (fieldsTo N r j).2.tail = r3 at *
            generalize (fieldsTo N r j).1 = fs at *
            clear hf hrs hgo hg3
            have hb4 := below_alloc w3 (.cells #[.int .i64 (1 + (x5 : Int)), .int .i64 0] 55)
            have hb5 := hb4.trans ((below_alloc (w3.alloc (.cells #[.int .i64 (1 + (x5 : Int)), .int .i64 0] 55)) (.cells #[.int .i64 (1 + (x5 : Int)), .int .i64 0] 55)).mono hb4.size)
            have hf5 := own_beneath hf3 hb5
            have hrs5 := hrs3.below hb5
            have hgo5 := grown_below hgo3 hb5
            clear hf3 hrs3 hgo3 hb4 hb5
            go_wp2_with (at_builtin; go_must (refine wpList_append_own _ rfl (.tmp 41) (.tmp 43) 56 rfl w2.heap.size 55 i0 _ 2 16 Tryd.underlying56 hi0 hz0 hz1 hz2 rfl (by omega) _ j _ rfl hf5 ⟨w3.heap.size + 1, 0, none⟩ 1 1 [.int .i64 (1 + (x5 : Int)), .int .i64 0] rfl rfl (news_at _ _ (by simp) #[.int .i64 (1 + (x5 : Int)), .int .i64 0] 55) (by simp [Value.oneCell']) (by unfold maxLen; omega) (by omega) hgo5.size ?_); intro v6 w6 hf6 hg6 _)
            have hrel2 := hid (show MadeRel2 w w2 v l N K r v6 (.int .i64 (j + 1 : Nat)) w6 from ⟨j + 1, by omega, rfl, by
                have h := hf6
                rw [show fldsC fs ++ [Value.int .i64 (1 + (x5 : Int)), .int .i64 0] = fldsC (fs ++ [((1 : Int) + x5, 0)]) by rw [fldsC_append]; rfl] at h
                rw [Hst.out]; exact h, by
                rw [Hst.out]
                exact hrs5.keep hg6 (fun g e => ⟨(own_blk hf5 e).1, Nat.le_trans hw2 (own_blk hf5 e).2⟩) (by decide), grown_more hgo5 hg6 (fun g e => .inl (own_blk hf5 e).2)⟩)
            clear hf5 hrs5 hgo5 hf6 hg6
            go_roundw
            case rel => exact hrel2.out
            case measure => simp [intOf] <;> omega
          · have Hst := hid (show fieldsTo N r (j + 1) = ((fieldsTo N r j).1 ++ [((1 : Int) + nxt (fieldsTo N r j).2 5, (nxt (fieldsTo N r j).2.tail N : Int))], (fieldsTo N r j).2.tail.tail) by simp only [fieldsTo]; rw [if_neg hk4])
            have hx4 : ¬ ((1 : Int) + nxt (fieldsTo N r j).2 5 < 4) := hk4
            generalize nxt (fieldsTo N r j).2 5 = x5 at *
            generalize (fieldsTo N r j).2.tail = r3 at *
            generalize (fieldsTo N r j).1 = fs at *
            clear hf hrs hgo hg3 hk4
            have hb4 := below_alloc w3 (.cells #[.int .i64 (1 + (x5 : Int)), .int .i64 0] 55)
            have hf4 := own_beneath hf3 hb4
            have hrs4 := hrs3.below hb4
            have hgo4 := grown_below hgo3 hb4
            have hD : BlkT (w3.alloc (.cells #[.int .i64 (1 + (x5 : Int)), .int .i64 0] 55)) w3.heap.size 55 := BlkT.new _ _ _
            have hwD := hgo3.size
            have hBD : w.heap.size ≠ w3.heap.size := by have := hrs3.lt; omega
            have hrb := hrs4.bt
            go_wp2_with fail
            ((refine (Hn.out _ _ N hrs4 (by omega) (by omega)).mono ?_); rintro e5 w5 ⟨rfl, hrs5, hg5⟩)
            have hf5 := own_grown hf4 hg5 (t := 85) (fun g e => by obtain rfl : w.heap.size = g := Option.some.inj e; exact hrb) (by decide)
            have hgo5 := grown_more hgo4 hg5 (fun g e => .inr e)
            have hDb : w5.heap[w3.heap.size]? = (w3.alloc (.cells #[.int .i64 (1 + (x5 : Int)), .int .i64 0] 55)).heap[w3.heap.size]? := hg5.block _ (by simp) (fun e => hBD (Option.some.inj e).symm)
            have hc0 : w5.cell? ⟨w3.heap.size, 0, none⟩ = some (.int .i64 (1 + (x5 : Int))) := (World.cell?_of_block hDb).trans (by simp)
            have hc1 : w5.cell? ⟨w3.heap.size, 1, none⟩ = some (.int .i64 0) := (World.cell?_of_block hDb).trans (by simp)
            have hfz1 : w5.frozen? ⟨w3.heap.size, 1, none⟩ = false := by
              rw [show w5.frozen? ⟨w3.heap.size, 1, none⟩ = (w3.alloc (.cells #[.int .i64 (1 + (x5 : Int)), .int .i64 0] 55)).frozen? ⟨w3.heap.size, 1, none⟩ from by simp only [World.frozen?, hDb]]
              simp
            have hlt5 : w3.heap.size < w5.heap.size := by have := hg5.size; simp at this; omega
            have hN5 := nxt_lt r3 N (by omega)
            generalize nxt r3 N = y at *
            have hf6 : (w5.setCell ⟨w3.heap.size, 1, none⟩ (.int .i64 (y : Int))).ownsRow w2.heap.size 55 2 _ j (fldsC fs) := own_keep hf5 (fun g e => Below.heap_setCell _ _ _ _ (by have := (own_blk hf3 e).1.lt; show g ≠ w3.heap.size; omega))
            have hgo6 := grown_set hgo5 (p := ⟨w3.heap.size, 1, none⟩) (.inl hwD) (.int .i64 (y : Int))
            have hrs6 : RS w (w5.setCell ⟨w3.heap.size, 1, none⟩ (.int .i64 (y : Int))) w.heap.size v l r3.tail :=
              hrs5.keep (row := some w3.heap.size) (t := 55) (grown_set (World.grownBy.refl _ _) (.inr rfl) _) (fun g e => by obtain rfl : w3.heap.size = g := Option.some.inj e; exact ⟨hD.keep hDb, by omega⟩) (by decide)
            have hsz6 : (w5.setCell ⟨w3.heap.size, 1, none⟩ (.int .i64 (y : Int))).heap.size = w5.heap.size := by simp
            have hb7 := below_alloc (w5.setCell ⟨w3.heap.size, 1, none⟩ (.int .i64 (y : Int))) (.cells #[.int .i64 (1 + (x5 : Int)), .int .i64 y] 55)
            have hf7 := own_beneath hf6 hb7
            have hrs7 := hrs6.below hb7
            have hgo7 := grown_below hgo6 hb7
            clear hf3 hf4 hrs4 hgo4 hD hg5 hDb hrs5 hf5 hgo5 hf6 hrs6 hgo6 hb7 hrs3 hgo3 hb4 hrb
            go_wp2_with (at_builtin; go_must (refine wpList_append_own _ rfl (.tmp 41) (.tmp 43) 56 rfl w2.heap.size 55 i0 _ 2 16 Tryd.underlying56 hi0 hz0 hz1 hz2 rfl (by omega) _ j _ rfl hf7 ⟨w5.heap.size, 0, none⟩ 1 1 [.int .i64 (1 + (x5 : Int)), .int .i64 y] rfl rfl (news_at _ _ (by simp) #[.int .i64 (1 + (x5 : Int)), .int .i64 y] 55) (by simp [Value.oneCell']) (by unfold maxLen; omega) (by omega) hgo7.size ?_); intro v6 w6 hf8 hg8 _)
            have hrel2 := hid (show MadeRel2 w w2 v l N K r v6 (.int .i64 (j + 1 : Nat)) w6 from ⟨j + 1, by omega, rfl, by
                have h := hf8
                rw [show fldsC fs ++ [Value.int .i64 (1 + (x5 : Int)), .int .i64 y] = fldsC (fs ++ [((1 : Int) + x5, (y : Int))]) by rw [fldsC_append]; rfl] at h
                rw [Hst.out]; exact h, by
                rw [Hst.out]
                exact hrs7.keep hg8 (fun g e => ⟨(own_blk hf7 e).1, Nat.le_trans hw2 (own_blk hf7 e).2⟩) (by decide), grown_more hgo7 hg8 (fun g e => .inl (own_blk hf7 e).2)⟩)
            clear hf7 hrs7 hgo7 hf8 hg8
            go_roundw
            case rel => exact hrel2.out
            case measure => simp [intOf] <;> omega
        · obtain rfl : j = K := by omega
          obtain ⟨af, cf, rfl⟩ := own_shape hf
          obtain ⟨a5, c5, rfl⟩ : ∃ a5 c5, u5 = .slice a5 S.length c5 := by
            obtain ⟨vs, h, _⟩ := hown2
            exact own_shape h
          obtain ⟨vs, ho1, ho2⟩ := hown2.keep hgo (fun g e => by obtain rfl : w.heap.size = g := Option.some.inj e; exact hbt2) (by decide) (by decide)
          have hjS : S.length = t := hlenS.out
          have hFl := (fieldsTo_ok N (by omega) r j).1
          have Hadd := hid (fun (S : Schema) (F : Fields) (i : Nat) (h : i = S.length) => show (S ++ [F])[i]? = some F from by rw [h, List.getElem?_append_right (Nat.le_refl _)]; simp)
          generalize (fieldsTo N r j).1 = F at *
          generalize (fieldsTo N r j).2 = rest at *
          have hb7 := below_alloc wr (.cells #[.slice af j cf] 56)
          have ho7 := own_beneath ho1 hb7
          have hf7 := own_beneath hf hb7
          have hrs7 := hrs.below hb7
          have ho27 : ∀ (i : Nat) (l : Fields), S[i]? = some l → ∃ u, vs[i]? = some u ∧ (wr.alloc (.cells #[.slice af j cf] 56)).ownsRow w.heap.size 55 2 u l.length (fldsC l) := fun i l hl => by
            obtain ⟨u, hu, h⟩ := ho2 i l hl
            exact ⟨u, hu, own_beneath h hb7⟩
          have Ho27 := hid ho27
          have HSl := hid hjS
          have HFl := hid hFl
          have hSb : S.length ≤ 4 := by omega
          clear ho1 ho2 ho27 hf hrs hgo hown2 hb7 hjS hFl hjl
          go_wp2_with (at_builtin; go_must (refine wpList_append_own _ rfl (.tmp 45) (.tmp 47) 29 rfl w.heap.size 56 i1 _ 1 24 Tryd.underlying29 hi1 hy0 hy1 hy2 rfl (by omega) _ S.length _ rfl ho7 ⟨wr.heap.size, 0, none⟩ 1 1 [.slice af j cf] rfl rfl (news_at _ _ rfl #[.slice af j cf] 56) (by simp [Value.oneCell']) (by unfold maxLen; omega) (by omega) hrs7.bl.size ?_); intro v6 w6 ho8 hg8 _)
          have hrel2 := hid (show MadeRel w v l N v6 (.int .i64 (t + 1 : Nat)) w6 from ⟨t + 1, by omega, rfl, by
              rw [Hnext.out]
              refine ⟨vs ++ [.slice af j cf], by rw [List.length_append]; exact ho8, fun i l' hl' => ?_⟩
              by_cases hi : i < S.length
              · rw [List.getElem?_append_left hi] at hl'
                obtain ⟨u, hu, h⟩ := Ho27.out i l' hl'
                exact ⟨u, by rw [List.getElem?_append_left (List.getElem?_eq_some_iff.1 hu).1]; exact hu, own_row h ho7 hg8 (by decide)⟩
              · have hi2 : i = S.length := by
                  have := (List.getElem?_eq_some_iff.1 hl').1
                  simp at this; omega
                subst hi2
                rw [Hadd.out S F _ rfl] at hl'
                obtain rfl := Option.some.inj hl'
                have hvl : vs.length = S.length := by have := ho7.1; simpa using this
                refine ⟨.slice af j cf, by rw [← hvl, List.getElem?_append_right (Nat.le_refl _)]; simp, ?_⟩
                rw [HFl.out]
                exact own_base (own_row hf7 ho7 hg8 (by decide)) hw2, by
              rw [Hnext.out]
              exact hrs7.keep hg8 (fun g e => ⟨(own_blk ho7 e).1, (own_blk ho7 e).2⟩) (by decide)⟩)
          clear ho7 hf7 hrs7 ho8 hg8
          go_roundw
          case rel => exact hrel2.out
          case measure => simp [intOf] <;> omega
    · obtain rfl : t = N := by omega
      have hend := hid (show MadeP l w (.returned u5) wr from ⟨_, rfl, hrs.bl, by rw [Hmade.out]; exact hown⟩)
      clear hown hrs
      go_wp2_with fail
      go_ret
      exact hend.out
end Go.Proofs.YtmcpanjpjnlleaaDoor

