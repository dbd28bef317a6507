/- The document's row of numbers: next. -/
import Derived.Test.YtblbhlgihlgncaaDoorGc
import Derived.Test.YtblbhlgihlgncaaDoorGa
import Derived.Deep.QuietTactic
import Derived.BigQuiet
import Derived.IntWalk
import Derived.Deep.AppendLies
import Derived.Test.YtblbhlgihlgncaaDoorGd
set_option linter.unusedVariables false
set_option linter.unusedSimpArgs false
namespace Go.Proofs.YtblbhlgihlgncaaDoor
section SNext
open Go.RowKit

/-- The next number, by its rest. -/
def nxt (r : List Int) (n : Nat) : Nat := (r.headD 0 % (n : Int)).toNat

theorem nxt_lt (r : List Int) (n : Nat) (h : 1 ≤ n) : nxt r n < n := by
  unfold nxt
  have := Int.emod_lt_of_pos (r.headD 0) (show (0 : Int) < n by omega)
  have := Int.emod_nonneg (r.headD 0) (show (n : Int) ≠ 0 by omega)
  omega

theorem nxt_go (x : Int) (n : Nat) (h : 1 ≤ n) (h8 : n ≤ 65536) (hx : -9223372036854775808 ≤ x ∧ x ≤ 9223372036854775807) : (wrap64 (x.tmod n + n)).tmod n = x % (n : Int) := by
  have h1 := Int.tmod_lt_of_pos x (show (0 : Int) < n by omega)
  have h2 := Int.lt_tmod_of_pos x (show (0 : Int) < n by omega)
  have hw : wrap64 (x.tmod n + n) = x.tmod n + n := by simp only [wrap64]; omega
  rw [hw, Int.tmod_eq_emod_of_nonneg (by omega), Int.add_emod_right, Int.tmod_eq_emod]
  split
  · simp
  · rw [Int.natAbs_natCast, Int.sub_emod, Int.emod_self]; simp

/-- The document's row, in a box: the slice, and where it stands. -/
structure RS (w0 w : World) (B : Nat) (v : Value) (l r : List Int) : Prop where
  k : ∃ k : Nat, k ≤ l.length ∧ r = l.drop k ∧ w.cell? ⟨B, 1, none⟩ = some (.int .i64 k)
  c0 : w.cell? ⟨B, 0, none⟩ = some v
  fz : w.frozen? ⟨B, 1, none⟩ = false
  bt : BlkT w B 109
  hB : w0.heap.size ≤ B
  lt : B < w.heap.size
  bl : Below w0.heap.size w0 w

def NextP (w0 w : World) (B : Nat) (v : Value) (l r : List Int) (n : Nat) (e : Ending) (w' : World) : Prop :=
  e = .returned (.int .i64 (nxt r n)) ∧ RS w0 w' B v l r.tail ∧ w.grownBy w' (some B)

theorem grown_drewN (w : World) (k : Nat) (o : Option Nat) : w.grownBy (w.drewN k) o := ⟨rfl, rfl, rfl, Nat.le_refl _, fun _ _ _ => rfl⟩

set_option maxHeartbeats 1000000 in
theorem next_any (w0 w : World) (B : Nat) (v : Value) (l r : List Int) (n : Nat) (hr : Row w0 1 v l.length (l.map (Value.int .i64))) (hb : ∀ z ∈ l, -9223372036854775808 ≤ z ∧ z ≤ 9223372036854775807)
    (h : RS w0 w B v l r) (h1 : 1 ≤ n) (h8 : n ≤ 8) :
    Calls Tryd.prog 47 #[.pointer (some ⟨B, 0, none⟩), .int .i64 n] w (NextP w0 w B v l r n) := by
  obtain ⟨⟨k, hk, rfl, hc1⟩, hc0, hfz, hbt, hB, hlt, hbl⟩ := h
  have hrow := hr.below hbl (Nat.le_refl _)
  obtain ⟨a, cap, rfl, hnc, hcm, hcell⟩ := hrow.open
  have hmost := hr.most
  unfold maxLen at hmost
  obtain ⟨m, hm⟩ : ∃ m, m = l.length := ⟨_, rfl⟩
  rw [← hm] at hk hnc hmost hcell hc0
  have Hm := hid hm
  rw [← hm]
  clear hm
  by_cases hkm : k < m
  · obtain ⟨x, hx⟩ := get_lt (l := l) (i := k) (by rw [← Hm.out]; exact hkm)
    have hxb := hb x (List.mem_of_getElem? hx)
    obtain ⟨b, off, rfl, hbb, hcc⟩ := hcell (by omega)
    have hck : w.cell? ⟨b, off + k, none⟩ = some (.int .i64 x) := by rw [hcc k (by omega), List.getElem?_map, hx]; rfl
    have hbB : b < w0.heap.size := by
      obtain ⟨b', off', cap', e, _, _, hl, _⟩ := hr.cons (by rw [← Hm.out]; omega)
      simp only [Value.slice.injEq, Option.some.injEq, Addr.mk.injEq] at e
      omega
    have hne : b ≠ B := by omega
    have hw1 : IntKind.i64.wrap ((k : Int) + 1 - 1) = k := IntWalk.i64_in _ (by omega) |>.trans (by omega)
    have hdr : l.drop k = x :: l.drop (k + 1) := by
      rw [List.drop_eq_getElem_cons (by rw [← Hm.out]; exact hkm)]
      congr 1
      exact Option.some.inj ((List.getElem?_eq_getElem _).symm.trans hx)
    have Hend := hid (show NextP w0 w B (.slice (some ⟨b, off, none⟩) m cap) l (l.drop k) n = NextP w0 w B (.slice (some ⟨b, off, none⟩) m cap) l (x :: l.drop (k + 1)) n by rw [hdr])
    have Hg := hid (nxt_go x n h1 (by omega) hxb)
    rw [Hend.out]
    clear Hend hdr hx hr hrow hb hcell hcc hxb
    go_enter Tryd.func47, Tryd.ntmps47
    go_wp2_with fail
    go_quiet (fail)
    go_wp2_with fail
    go_quiet (fail)
    go_wp2_with fail
    go_ret
    refine ⟨by rw [Hg.out, nxt, List.headD_cons, Int.toNat_of_nonneg (Int.emod_nonneg _ (by omega))]; rfl, ⟨⟨k + 1, by rw [← Hm.out]; omega, rfl, ?_⟩, ?_, ?_, ?_, hB, ?_, ?_⟩, ?_⟩
    · simp [go_sem, hc1]
    · simp [go_sem, hc0]
    · simp [go_sem, hfz]
    · exact hbt.setCell _ _
    · simpa using hlt
    · exact ((hbl.trans (below_drewN _ _ _)).setCell hB _).trans (below_drewN _ _ _)
    · exact grown_below (grown_set (grown_drewN w _ _) (.inr rfl) _) (below_drewN _ _ _)
  · obtain rfl : k = m := by omega
    have Hend := hid (show NextP w0 w B (.slice a k cap) l (l.drop k) n = NextP w0 w B (.slice a k cap) l [] n by rw [List.drop_of_length_le (by rw [Hm.out]; exact Nat.le_refl _)])
    rw [Hend.out]
    clear Hend hr hrow hb hcell
    go_enter Tryd.func47, Tryd.ntmps47
    go_wp2_with fail
    go_quiet (fail)
    go_wp2_with fail
    go_ret
    exact ⟨by simp [nxt], ⟨⟨k, by rw [← Hm.out]; exact Nat.le_refl _, by rw [List.drop_of_length_le (by rw [Hm.out]; exact Nat.le_refl _)]; rfl, hc1⟩, hc0, hfz, hbt, hB, hlt, hbl.trans (below_drewN _ _ _)⟩, grown_drewN w _ _⟩
end SNext

section SMade
open Go.RowKit

/-- The first k fields of a type, and the numbers that are left. -/
def fieldsTo (n : Nat) (r : List Int) : Nat → Fields × List Int
  | 0 => ([], r)
  | k + 1 =>
    let q := fieldsTo n r k
    let kd : Int := 1 + nxt q.2 5
    if kd < 4 then (q.1 ++ [(kd, 0)], q.2.tail) else (q.1 ++ [(kd, (nxt q.2.tail n : Int))], q.2.tail.tail)
/-- The first k types. -/
def typesTo (n : Nat) (r : List Int) : Nat → Schema × List Int
  | 0 => ([], r)
  | k + 1 =>
    let q := typesTo n r k
    let f := fieldsTo n q.2.tail (1 + nxt q.2 4)
    (q.1 ++ [f.1], f.2)
def madeS (l : List Int) : Schema := (typesTo (1 + nxt l 4) l.tail (1 + nxt l 4)).1

theorem fieldsTo_ok (n : Nat) (hn : 1 ≤ n) (r : List Int) : ∀ k, (fieldsTo n r k).1.length = k ∧ (fieldsTo n r k).1.all (fOk n) = true
  | 0 => ⟨rfl, rfl⟩
  | k + 1 => by
    obtain ⟨h1, h2⟩ := fieldsTo_ok n hn r k
    have h5 := nxt_lt (fieldsTo n r k).2 5 (by omega)
    have ht := nxt_lt (fieldsTo n r k).2.tail n hn
    simp only [fieldsTo]
    split
    · refine ⟨by simp [h1], ?_⟩
      rw [List.all_append, h2]
      simp only [List.all_cons, List.all_nil, Bool.and_true, Bool.true_and]
      exact decide_eq_true ⟨by omega, by omega, Int.le_refl _, show (0 : Int) < (n : Int) by omega, fun _ => rfl⟩
    · refine ⟨by simp [h1], ?_⟩
      rw [List.all_append, h2]
      simp only [List.all_cons, List.all_nil, Bool.and_true, Bool.true_and]
      exact decide_eq_true ⟨by omega, by omega, by simp only; omega, by simp only; omega, fun h => by simp only at h; omega⟩

theorem typesTo_ok (n : Nat) (hn : 1 ≤ n) (r : List Int) : ∀ k, (typesTo n r k).1.length = k ∧ ∀ l ∈ (typesTo n r k).1, 1 ≤ l.length ∧ l.length ≤ 4 ∧ l.all (fOk n) = true
  | 0 => ⟨rfl, fun l h => by simp [typesTo] at h⟩
  | k + 1 => by
    obtain ⟨h1, h2⟩ := typesTo_ok n hn r k
    have h4 := nxt_lt (typesTo n r k).2 4 (by omega)
    obtain ⟨g1, g2⟩ := fieldsTo_ok n hn (typesTo n r k).2.tail (1 + nxt (typesTo n r k).2 4)
    refine ⟨by simp [typesTo, h1], fun l hl => ?_⟩
    simp only [typesTo, List.mem_append, List.mem_singleton] at hl
    rcases hl with hl | rfl
    · exact h2 l hl
    · exact ⟨by omega, by omega, g2⟩

/-- What is made is right, of 1 to 4 types of 1 to 4 fields. -/
theorem madeS_ok (l : List Int) : rightB (madeS l) = true ∧ 1 ≤ (madeS l).length ∧ (madeS l).length ≤ 4 ∧ ∀ f ∈ madeS l, 1 ≤ f.length ∧ f.length ≤ 4 := by
  have h4 := nxt_lt l 4 (by omega)
  obtain ⟨h1, h2⟩ := typesTo_ok (1 + nxt l 4) (by omega) l.tail (1 + nxt l 4)
  have hl : (madeS l).length = 1 + nxt l 4 := h1
  refine ⟨?_, by omega, by omega, fun f hf => ⟨(h2 f hf).1, (h2 f hf).2.1⟩⟩
  rw [rightB, hl, show decide (1 ≤ 1 + nxt l 4 ∧ 1 + nxt l 4 ≤ 8) = true from decide_eq_true (by omega), Bool.true_and, List.all_eq_true]
  intro f hf
  obtain ⟨g1, g2, g3⟩ := h2 f hf
  rw [lOk, g3, Bool.and_true]
  exact decide_eq_true (by omega)

theorem news_at (w : World) (g : Nat) (hg : w.heap.size = g) (cs : Array Value) (t : TypeId) : ∀ j u, cs.toList[j]? = some u → (w.alloc (.cells cs t)).cell? ((⟨g, 0, none⟩ : Addr).add j) = some u := by
  subst hg
  exact World.news_of_block (heap_alloc_new w _)

theorem infoF : (Tryd.prog.info? 24).map (fun i => (i.zero, i.size, i.bytes)) = some (some (.agg #[.int .i64 0, .int .i64 0]), 2, 16) := by kernel_rfl
theorem infoFs : (Tryd.prog.info? 25).map (fun i => (i.zero, i.size, i.bytes)) = some (some (.slice none 0 0), 1, 24) := by kernel_rfl

/-- The rows of a schema, of the call's own. -/
def OwnS (w : World) (base : Nat) (v : Value) (s : Schema) : Prop :=
  ∃ vs, w.ownsRow base 25 1 v s.length vs ∧ ∀ (i : Nat) (l : Fields), s[i]? = some l → ∃ u, vs[i]? = some u ∧ w.ownsRow base 24 2 u l.length (fldsC l)

theorem OwnS.sch {w : World} {base : Nat} {v : Value} {s : Schema} (h : OwnS w base v s) : Sch w v s := by
  obtain ⟨vs, h1, h2⟩ := h
  exact ⟨vs, Row.of_owns h1, fun i l hl => by
    obtain ⟨u, hu, ho⟩ := h2 i l hl
    exact ⟨u, hu, Row.of_owns ho⟩⟩
theorem OwnS.keep {w w' : World} {base : Nat} {v : Value} {s : Schema} {t : TypeId} {row : Option Nat} (h : OwnS w base v s) (hg : w.grownBy w' row) (hr : ∀ g, row = some g → BlkT w g t) (h1 : t ≠ 25) (h2 : t ≠ 24) : OwnS w' base v s := by
  obtain ⟨vs, g1, g2⟩ := h
  exact ⟨vs, own_grown g1 hg hr h1, fun i l hl => by
    obtain ⟨u, hu, ho⟩ := g2 i l hl
    exact ⟨u, hu, own_grown ho hg hr h2⟩⟩
theorem OwnS.below {w w' : World} {base : Nat} {v : Value} {s : Schema} (h : OwnS w base v s) (hb : Below w.heap.size w w') : OwnS w' base v s := by
  obtain ⟨vs, g1, g2⟩ := h
  exact ⟨vs, own_beneath g1 hb, fun i l hl => by
    obtain ⟨u, hu, ho⟩ := g2 i l hl
    exact ⟨u, hu, own_beneath ho hb⟩⟩
theorem RS.keep {w0 w w' : World} {B : Nat} {v : Value} {l r : List Int} {t : TypeId} {row : Option Nat} (h : RS w0 w B v l r) (hg : w.grownBy w' row) (hr : ∀ g, row = some g → BlkT w g t ∧ w0.heap.size ≤ g) (hne : t ≠ 109) : RS w0 w' B v l r := by
  obtain ⟨⟨k, hk, hd, hc⟩, c0, fz, bt, hB, lt, bl⟩ := h
  have hblk : w'.heap[B]? = w.heap[B]? := hg.block B lt fun e => blk_ne (hr B e.symm).1 bt hne rfl
  refine ⟨⟨k, hk, hd, (World.cell?_of_block hblk).trans hc⟩, (World.cell?_of_block hblk).trans c0, ?_, bt.keep hblk, hB, Nat.lt_of_lt_of_le lt hg.size, bl.grown hg bl.size fun g e => (hr g e).2⟩
  simp only [World.frozen?, hblk]; exact fz
theorem RS.below {w0 w w' : World} {B : Nat} {v : Value} {l r : List Int} (h : RS w0 w B v l r) (hb : Below w.heap.size w w') : RS w0 w' B v l r := by
  obtain ⟨⟨k, hk, hd, hc⟩, c0, fz, bt, hB, lt, bl⟩ := h
  exact ⟨⟨k, hk, hd, (hb.cell lt).trans hc⟩, (hb.cell lt).trans c0, (hb.frozen lt).trans fz, bt.below hb lt, hB, Nat.lt_of_lt_of_le lt hb.size, bl.trans (hb.mono bl.size)⟩

def MadeP (l : List Int) (w : World) (e : Ending) (w' : World) : Prop := ∃ u, e = .returned u ∧ Below w.heap.size w w' ∧ OwnS w' w.heap.size u (madeS l)

def MadeRel (w : World) (v : Value) (l : List Int) (N : Nat) (sv i : Value) (wr : World) : Prop :=
  ∃ t : Nat, t ≤ N ∧ i = .int .i64 t ∧ OwnS wr w.heap.size sv (typesTo N l.tail t).1 ∧ RS w wr w.heap.size v l (typesTo N l.tail t).2
def MadeRel2 (w wo : World) (v : Value) (l : List Int) (N K : Nat) (r : List Int) (fv i : Value) (wr : World) : Prop :=
  ∃ j : Nat, j ≤ K ∧ i = .int .i64 j ∧ wr.ownsRow wo.heap.size 24 2 fv j (fldsC (fieldsTo N r j).1) ∧ RS w wr w.heap.size v l (fieldsTo N r j).2 ∧ wo.grownBy wr (some w.heap.size)

set_option maxHeartbeats 4000000 in
set_option maxRecDepth 100000 in
theorem made_any (l : List Int) (v : Value) (w : World) (hr : Row w 1 v l.length (l.map (Value.int .i64))) (hb : ∀ z ∈ l, -9223372036854775808 ≤ z ∧ z ≤ 9223372036854775807) :
    Calls Tryd.prog 25 #[v] w (MadeP l w) := by
  obtain ⟨i0, hi0, hz0, hz1, hz2⟩ := info_parts infoF
  obtain ⟨i1, hi1, hy0, hy1, hy2⟩ := info_parts infoFs
  obtain ⟨a, cap, rfl, _⟩ := hr.open
  obtain ⟨v, hv⟩ : ∃ v, v = Value.slice a l.length cap := ⟨_, rfl⟩
  rw [← hv] at hr
  have hnext := fun (wx : World) (r : List Int) (n : Nat) (h : RS w wx w.heap.size v l r) (h1 : 1 ≤ n) (h8 : n ≤ 8) => next_any w wx w.heap.size v l r n hr hb h h1 h8
  have h0 : RS w (w.alloc (.cells #[.slice a l.length cap, .int .i64 0] 109)) w.heap.size v l l := by
    subst hv
    exact ⟨⟨0, Nat.zero_le _, rfl, by simp⟩, by simp, by simp, BlkT.new _ _ _, Nat.le_refl _, by simp, below_alloc _ _⟩
  have Hn := hid hnext
  clear hnext hr hb hv
  obtain ⟨N, hN⟩ : ∃ N, N = 1 + nxt l 4 := ⟨_, rfl⟩
  have hN4 := nxt_lt l 4 (by omega)
  have hNb : 1 ≤ N ∧ N ≤ 4 := by omega
  have Hmade := hid (show madeS l = (typesTo N l.tail N).1 by rw [madeS, hN])
  have HN := hid (show .int .i64 (1 + (nxt l 4 : Int)) = Value.int .i64 (N : Int) by rw [hN, Int.natCast_add]; rfl)
  clear hN
  go_enter Tryd.func25, Tryd.ntmps25
  go_wp2_with fail
  ((refine (Hn.out _ _ 4 h0 (by omega) (by omega)).mono ?_); rintro e1 w1 ⟨rfl, hrs, hg⟩)
  clear h0 hg
  go_wp2_with fail
  rw [HN.out]
  have hrel0 := hid (show MadeRel w v l N (.slice none 0 0) (.int .i64 0) w1 from ⟨0, Nat.zero_le _, rfl, ⟨[], own_nil _ _ _ _, fun i l h => by simp [typesTo] at h⟩, hrs⟩)
  clear hrs HN hN4
  go_loopw [5, 6] (fun sv i wr => MadeRel w v l N sv i wr) (fun _ i _ => N - (intOf i).toNat)
  case atStart => exact hrel0.out
  case round =>
    clear hrel0
    obtain ⟨t, ht, rfl, hown, hrs⟩ := hrel
    by_cases hlt : t < N
    · go_wp2_with fail
      ((refine (Hn.out _ _ 4 hrs (by omega) (by omega)).mono ?_); rintro e2 w2 ⟨rfl, hrs2, hg2⟩)
      have hown2 := hown.keep hg2 (fun g e => by obtain rfl : w.heap.size = g := Option.some.inj e; exact hrs.bt) (by decide) (by decide)
      have hK4 := nxt_lt (typesTo N l.tail t).2 4 (by omega)
      obtain ⟨K, hK⟩ : ∃ K, K = 1 + nxt (typesTo N l.tail t).2 4 := ⟨_, rfl⟩
      have HK := hid (show .int .i64 (1 + (nxt (typesTo N l.tail t).2 4 : Int)) = Value.int .i64 (K : Int) by rw [hK, Int.natCast_add]; rfl)
      have Hnext := hid (show typesTo N l.tail (t + 1) = ((typesTo N l.tail t).1 ++ [(fieldsTo N (typesTo N l.tail t).2.tail K).1], (fieldsTo N (typesTo N l.tail t).2.tail K).2) by rw [hK]; rfl)
      have hKb : 1 ≤ K ∧ K ≤ 4 := by omega
      have hlenS := hid (typesTo_ok N (by omega) l.tail t).1
      have hw2 : w.heap.size ≤ w2.heap.size := hrs2.bl.size
      have hbt2 := hrs2.bt
      clear hown hrs hg2 hK
      go_wp2_with fail
      rw [HK.out]
      clear HK hK4
      generalize (typesTo N l.tail t).2.tail = r at *
      generalize (typesTo N l.tail t).1 = S at *
      have hrel0 := hid (show MadeRel2 w w2 v l N K r (.slice none 0 0) (.int .i64 0) w2 from ⟨0, Nat.zero_le _, rfl, own_nil _ _ _ _, hrs2, World.grownBy.refl _ _⟩)
      clear hrs2
      go_loopw [8, 9] (fun fv i wr => MadeRel2 w w2 v l N K r fv i wr) (fun _ i _ => K - (intOf i).toNat)
      case atStart => exact hrel0.out
      case round =>
        clear hrel0
        obtain ⟨j, hj, rfl, hf, hrs, hgo⟩ := hrel
        by_cases hjl : j < K
        · go_wp2_with fail
          ((refine (Hn.out _ _ 5 hrs (by omega) (by omega)).mono ?_); rintro e3 w3 ⟨rfl, hrs3, hg3⟩)
          have hx5 := nxt_lt (fieldsTo N r j).2 5 (by omega)
          have hf3 := own_grown hf hg3 (t := 109) (fun g e => by obtain rfl : w.heap.size = g := Option.some.inj e; exact hrs.bt) (by decide)
          have hgo3 := grown_more hgo hg3 (fun g e => .inr e)
          by_cases hk4 : (1 : Int) + nxt (fieldsTo N r j).2 5 < 4
          · have Hst := hid (show fieldsTo N r (j + 1) = ((fieldsTo N r j).1 ++ [((1 : Int) + nxt (fieldsTo N r j).2 5, 0)], (fieldsTo N r j).2.tail) by simp only [fieldsTo]; rw [if_pos hk4])
            generalize nxt (fieldsTo N r j).2 5 = x5 at *
            generalize (fieldsTo N r j).2.tail = r3 at *
            generalize (fieldsTo N r j).1 = fs at *
            clear hf hrs hgo hg3
            have hb4 := below_alloc w3 (.cells #[.int .i64 (1 + (x5 : Int)), .int .i64 0] 24)
            have hb5 := hb4.trans ((below_alloc (w3.alloc (.cells #[.int .i64 (1 + (x5 : Int)), .int .i64 0] 24)) (.cells #[.int .i64 (1 + (x5 : Int)), .int .i64 0] 24)).mono hb4.size)
            have hf5 := own_beneath hf3 hb5
            have hrs5 := hrs3.below hb5
            have hgo5 := grown_below hgo3 hb5
            clear hf3 hrs3 hgo3 hb4 hb5
            go_wp2_with (at_builtin; go_must (refine wpList_append_own _ rfl (.tmp 41) (.tmp 43) 25 rfl w2.heap.size 24 i0 _ 2 16 Tryd.underlying25 hi0 hz0 hz1 hz2 rfl (by omega) _ j _ rfl hf5 ⟨w3.heap.size + 1, 0, none⟩ 1 1 [.int .i64 (1 + (x5 : Int)), .int .i64 0] rfl rfl (news_at _ _ (by simp) #[.int .i64 (1 + (x5 : Int)), .int .i64 0] 24) (by simp [Value.oneCell']) (by unfold maxLen; omega) (by omega) hgo5.size ?_); intro v6 w6 hf6 hg6 _)
            have hrel2 := hid (show MadeRel2 w w2 v l N K r v6 (.int .i64 (j + 1 : Nat)) w6 from ⟨j + 1, by omega, rfl, by
                have h := hf6
                rw [show fldsC fs ++ [Value.int .i64 (1 + (x5 : Int)), .int .i64 0] = fldsC (fs ++ [((1 : Int) + x5, 0)]) by rw [fldsC_append]; rfl] at h
                rw [Hst.out]; exact h, by
                rw [Hst.out]
                exact hrs5.keep hg6 (fun g e => ⟨(own_blk hf5 e).1, Nat.le_trans hw2 (own_blk hf5 e).2⟩) (by decide), grown_more hgo5 hg6 (fun g e => .inl (own_blk hf5 e).2)⟩)
            clear hf5 hrs5 hgo5 hf6 hg6
            go_roundw
            case rel => exact hrel2.out
            case measure => simp [intOf] <;> omega
          · have Hst := hid (show fieldsTo N r (j + 1) = ((fieldsTo N r j).1 ++ [((1 : Int) + nxt (fieldsTo N r j).2 5, (nxt (fieldsTo N r j).2.tail N : Int))], (fieldsTo N r j).2.tail.tail) by simp only [fieldsTo]; rw [if_neg hk4])
            have hx4 : ¬ ((1 : Int) + nxt (fieldsTo N r j).2 5 < 4) := hk4
            generalize nxt (fieldsTo N r j).2 5 = x5 at *
            generalize (fieldsTo N r j).2.tail = r3 at *
            generalize (fieldsTo N r j).1 = fs at *
            clear hf hrs hgo hg3 hk4
            have hb4 := below_alloc w3 (.cells #[.int .i64 (1 + (x5 : Int)), .int .i64 0] 24)
            have hf4 := own_beneath hf3 hb4
            have hrs4 := hrs3.below hb4
            have hgo4 := grown_below hgo3 hb4
            have hD : BlkT (w3.alloc (.cells #[.int .i64 (1 + (x5 : Int)), .int .i64 0] 24)) w3.heap.size 24 := BlkT.new _ _ _
            have hwD := hgo3.size
            have hBD : w.heap.size ≠ w3.heap.size := by have := hrs3.lt; omega
            have hrb := hrs4.bt
            go_wp2_with fail
            ((refine (Hn.out _ _ N hrs4 (by omega) (by omega)).mono ?_); rintro e5 w5 ⟨rfl, hrs5, hg5⟩)
            have hf5 := own_grown hf4 hg5 (t := 109) (fun g e => by obtain rfl : w.heap.size = g := Option.some.inj e; exact hrb) (by decide)
            have hgo5 := grown_more hgo4 hg5 (fun g e => .inr e)
            have hDb : w5.heap[w3.heap.size]? = (w3.alloc (.cells #[.int .i64 (1 + (x5 : Int)), .int .i64 0] 24)).heap[w3.heap.size]? := hg5.block _ (by simp) (fun e => hBD (Option.some.inj e).symm)
            have hc0 : w5.cell? ⟨w3.heap.size, 0, none⟩ = some (.int .i64 (1 + (x5 : Int))) := (World.cell?_of_block hDb).trans (by simp)
            have hc1 : w5.cell? ⟨w3.heap.size, 1, none⟩ = some (.int .i64 0) := (World.cell?_of_block hDb).trans (by simp)
            have hfz1 : w5.frozen? ⟨w3.heap.size, 1, none⟩ = false := by
              rw [show w5.frozen? ⟨w3.heap.size, 1, none⟩ = (w3.alloc (.cells #[.int .i64 (1 + (x5 : Int)), .int .i64 0] 24)).frozen? ⟨w3.heap.size, 1, none⟩ from by simp only [World.frozen?, hDb]]
              simp
            have hlt5 : w3.heap.size < w5.heap.size := by have := hg5.size; simp at this; omega
            have hN5 := nxt_lt r3 N (by omega)
            generalize nxt r3 N = y at *
            have hf6 : (w5.setCell ⟨w3.heap.size, 1, none⟩ (.int .i64 (y : Int))).ownsRow w2.heap.size 24 2 _ j (fldsC fs) := own_keep hf5 (fun g e => Below.heap_setCell _ _ _ _ (by have := (own_blk hf3 e).1.lt; show g ≠ w3.heap.size; omega))
            have hgo6 := grown_set hgo5 (p := ⟨w3.heap.size, 1, none⟩) (.inl hwD) (.int .i64 (y : Int))
            have hrs6 : RS w (w5.setCell ⟨w3.heap.size, 1, none⟩ (.int .i64 (y : Int))) w.heap.size v l r3.tail :=
              hrs5.keep (row := some w3.heap.size) (t := 24) (grown_set (World.grownBy.refl _ _) (.inr rfl) _) (fun g e => by obtain rfl : w3.heap.size = g := Option.some.inj e; exact ⟨hD.keep hDb, by omega⟩) (by decide)
            have hsz6 : (w5.setCell ⟨w3.heap.size, 1, none⟩ (.int .i64 (y : Int))).heap.size = w5.heap.size := by simp
            have hb7 := below_alloc (w5.setCell ⟨w3.heap.size, 1, none⟩ (.int .i64 (y : Int))) (.cells #[.int .i64 (1 + (x5 : Int)), .int .i64 y] 24)
            have hf7 := own_beneath hf6 hb7
            have hrs7 := hrs6.below hb7
            have hgo7 := grown_below hgo6 hb7
            clear hf3 hf4 hrs4 hgo4 hD hg5 hDb hrs5 hf5 hgo5 hf6 hrs6 hgo6 hb7 hrs3 hgo3 hb4 hrb
            go_wp2_with (at_builtin; go_must (refine wpList_append_own _ rfl (.tmp 41) (.tmp 43) 25 rfl w2.heap.size 24 i0 _ 2 16 Tryd.underlying25 hi0 hz0 hz1 hz2 rfl (by omega) _ j _ rfl hf7 ⟨w5.heap.size, 0, none⟩ 1 1 [.int .i64 (1 + (x5 : Int)), .int .i64 y] rfl rfl (news_at _ _ (by simp) #[.int .i64 (1 + (x5 : Int)), .int .i64 y] 24) (by simp [Value.oneCell']) (by unfold maxLen; omega) (by omega) hgo7.size ?_); intro v6 w6 hf8 hg8 _)
            have hrel2 := hid (show MadeRel2 w w2 v l N K r v6 (.int .i64 (j + 1 : Nat)) w6 from ⟨j + 1, by omega, rfl, by
                have h := hf8
                rw [show fldsC fs ++ [Value.int .i64 (1 + (x5 : Int)), .int .i64 y] = fldsC (fs ++ [((1 : Int) + x5, (y : Int))]) by rw [fldsC_append]; rfl] at h
                rw [Hst.out]; exact h, by
                rw [Hst.out]
                exact hrs7.keep hg8 (fun g e => ⟨(own_blk hf7 e).1, Nat.le_trans hw2 (own_blk hf7 e).2⟩) (by decide), grown_more hgo7 hg8 (fun g e => .inl (own_blk hf7 e).2)⟩)
            clear hf7 hrs7 hgo7 hf8 hg8
            go_roundw
            case rel => exact hrel2.out
            case measure => simp [intOf] <;> omega
        · obtain rfl : j = K := by omega
          obtain ⟨af, cf, rfl⟩ := own_shape hf
          obtain ⟨a5, c5, rfl⟩ : ∃ a5 c5, u5 = .slice a5 S.length c5 := by
            obtain ⟨vs, h, _⟩ := hown2
            exact own_shape h
          obtain ⟨vs, ho1, ho2⟩ := hown2.keep hgo (fun g e => by obtain rfl : w.heap.size = g := Option.some.inj e; exact hbt2) (by decide) (by decide)
          have hjS : S.length = t := hlenS.out
          have hFl := (fieldsTo_ok N (by omega) r j).1
          have Hadd := hid (fun (S : Schema) (F : Fields) (i : Nat) (h : i = S.length) => show (S ++ [F])[i]? = some F from by rw [h, List.getElem?_append_right (Nat.le_refl _)]; simp)
          generalize (fieldsTo N r j).1 = F at *
          generalize (fieldsTo N r j).2 = rest at *
          have hb7 := below_alloc wr (.cells #[.slice af j cf] 25)
          have ho7 := own_beneath ho1 hb7
          have hf7 := own_beneath hf hb7
          have hrs7 := hrs.below hb7
          have ho27 : ∀ (i : Nat) (l : Fields), S[i]? = some l → ∃ u, vs[i]? = some u ∧ (wr.alloc (.cells #[.slice af j cf] 25)).ownsRow w.heap.size 24 2 u l.length (fldsC l) := fun i l hl => by
            obtain ⟨u, hu, h⟩ := ho2 i l hl
            exact ⟨u, hu, own_beneath h hb7⟩
          have Ho27 := hid ho27
          have HSl := hid hjS
          have HFl := hid hFl
          have hSb : S.length ≤ 4 := by omega
          clear ho1 ho2 ho27 hf hrs hgo hown2 hb7 hjS hFl hjl
          go_wp2_with (at_builtin; go_must (refine wpList_append_own _ rfl (.tmp 45) (.tmp 47) 27 rfl w.heap.size 25 i1 _ 1 24 Tryd.underlying27 hi1 hy0 hy1 hy2 rfl (by omega) _ S.length _ rfl ho7 ⟨wr.heap.size, 0, none⟩ 1 1 [.slice af j cf] rfl rfl (news_at _ _ rfl #[.slice af j cf] 25) (by simp [Value.oneCell']) (by unfold maxLen; omega) (by omega) hrs7.bl.size ?_); intro v6 w6 ho8 hg8 _)
          have hrel2 := hid (show MadeRel w v l N v6 (.int .i64 (t + 1 : Nat)) w6 from ⟨t + 1, by omega, rfl, by
              rw [Hnext.out]
              refine ⟨vs ++ [.slice af j cf], by rw [List.length_append]; exact ho8, fun i l' hl' => ?_⟩
              by_cases hi : i < S.length
              · rw [List.getElem?_append_left hi] at hl'
                obtain ⟨u, hu, h⟩ := Ho27.out i l' hl'
                exact ⟨u, by rw [List.getElem?_append_left (List.getElem?_eq_some_iff.1 hu).1]; exact hu, own_row h ho7 hg8 (by decide)⟩
              · have hi2 : i = S.length := by
                  have := (List.getElem?_eq_some_iff.1 hl').1
                  simp at this; omega
                subst hi2
                rw [Hadd.out S F _ rfl] at hl'
                obtain rfl := Option.some.inj hl'
                have hvl : vs.length = S.length := by have := ho7.1; simpa using this
                refine ⟨.slice af j cf, by rw [← hvl, List.getElem?_append_right (Nat.le_refl _)]; simp, ?_⟩
                rw [HFl.out]
                exact own_base (own_row hf7 ho7 hg8 (by decide)) hw2, by
              rw [Hnext.out]
              exact hrs7.keep hg8 (fun g e => ⟨(own_blk ho7 e).1, (own_blk ho7 e).2⟩) (by decide)⟩)
          clear ho7 hf7 hrs7 ho8 hg8
          go_roundw
          case rel => exact hrel2.out
          case measure => simp [intOf] <;> omega
    · obtain rfl : t = N := by omega
      have hend := hid (show MadeP l w (.returned u5) wr from ⟨_, rfl, hrs.bl, by rw [Hmade.out]; exact hown⟩)
      clear hown hrs
      go_wp2_with fail
      go_ret
      exact hend.out
end SMade

section SMadeT0
open Go.RowKit

/-- A tree's box. -/
structure TB (w : World) (B : Nat) (x0 x1 x2 x3 : Value) : Prop where
  lt : B < w.heap.size
  c0 : w.cell? ⟨B, 0, none⟩ = some x0
  c1 : w.cell? ⟨B, 1, none⟩ = some x1
  c2 : w.cell? ⟨B, 2, none⟩ = some x2
  c3 : w.cell? ⟨B, 3, none⟩ = some x3
  fz : ∀ j, w.frozen? ⟨B, j, none⟩ = false
theorem TB.of_block {w w' : World} {B : Nat} {x0 x1 x2 x3 : Value} (h : TB w B x0 x1 x2 x3) (hb : w'.heap[B]? = w.heap[B]?) (hs : B < w'.heap.size) : TB w' B x0 x1 x2 x3 := by
  have e : ∀ j, w'.cell? ⟨B, j, none⟩ = w.cell? ⟨B, j, none⟩ := fun j => World.cell?_of_block (a := ⟨B, j, none⟩) hb
  have e2 : ∀ j, w'.frozen? ⟨B, j, none⟩ = w.frozen? ⟨B, j, none⟩ := fun j => World.frozen?_of_block (a := ⟨B, j, none⟩) hb
  exact ⟨hs, by rw [e]; exact h.c0, by rw [e]; exact h.c1, by rw [e]; exact h.c2, by rw [e]; exact h.c3, fun j => by rw [e2]; exact h.fz j⟩
theorem TB.below {w w' : World} {B : Nat} {x0 x1 x2 x3 : Value} (h : TB w B x0 x1 x2 x3) (hb : Below w.heap.size w w') : TB w' B x0 x1 x2 x3 := h.of_block (hb.block B h.lt) (Nat.lt_of_lt_of_le h.lt hb.size)
theorem TB.grown {w w' : World} {B : Nat} {row : Option Nat} {x0 x1 x2 x3 : Value} (h : TB w B x0 x1 x2 x3) (hb : w.grownBy w' row) (hr : row ≠ some B) : TB w' B x0 x1 x2 x3 := h.of_block (hb.block B h.lt (fun e => hr e.symm)) (Nat.lt_of_lt_of_le h.lt hb.size)
theorem TB.far {w : World} {B b o : Nat} {x0 x1 x2 x3 : Value} (h : TB w B x0 x1 x2 x3) (hb : b ≠ B) (u : Value) : TB (w.setCell ⟨b, o, none⟩ u) B x0 x1 x2 x3 := h.of_block (Below.heap_setCell _ _ _ _ (fun e => hb e.symm)) (by simpa [World.setCell] using h.lt)
theorem TB.key {w : World} {B j : Nat} (u : Value) (i : Nat) (hi : i ≠ j) : (w.setCell ⟨B, j, none⟩ u).cell? ⟨B, i, none⟩ = w.cell? ⟨B, i, none⟩ := by simp [go_sem]
theorem TB.set0 {w : World} {B : Nat} {x0 x1 x2 x3 : Value} (h : TB w B x0 x1 x2 x3) (u : Value) : TB (w.setCell ⟨B, 0, none⟩ u) B u x1 x2 x3 :=
  ⟨by simpa [World.setCell] using h.lt, World.cell?_setCell_same w _ _ h.c0, by rw [TB.key u 1 (by omega)]; exact h.c1, by rw [TB.key u 2 (by omega)]; exact h.c2, by rw [TB.key u 3 (by omega)]; exact h.c3, fun i => by rw [World.frozen?_setCell]; exact h.fz i⟩
theorem TB.set1 {w : World} {B : Nat} {x0 x1 x2 x3 : Value} (h : TB w B x0 x1 x2 x3) (u : Value) : TB (w.setCell ⟨B, 1, none⟩ u) B x0 u x2 x3 :=
  ⟨by simpa [World.setCell] using h.lt, by rw [TB.key u 0 (by omega)]; exact h.c0, World.cell?_setCell_same w _ _ h.c1, by rw [TB.key u 2 (by omega)]; exact h.c2, by rw [TB.key u 3 (by omega)]; exact h.c3, fun i => by rw [World.frozen?_setCell]; exact h.fz i⟩
theorem TB.set2 {w : World} {B : Nat} {x0 x1 x2 x3 : Value} (h : TB w B x0 x1 x2 x3) (u : Value) : TB (w.setCell ⟨B, 2, none⟩ u) B x0 x1 u x3 :=
  ⟨by simpa [World.setCell] using h.lt, by rw [TB.key u 0 (by omega)]; exact h.c0, by rw [TB.key u 1 (by omega)]; exact h.c1, World.cell?_setCell_same w _ _ h.c2, by rw [TB.key u 3 (by omega)]; exact h.c3, fun i => by rw [World.frozen?_setCell]; exact h.fz i⟩
theorem TB.set3 {w : World} {B : Nat} {x0 x1 x2 x3 : Value} (h : TB w B x0 x1 x2 x3) (u : Value) : TB (w.setCell ⟨B, 3, none⟩ u) B x0 x1 x2 u :=
  ⟨by simpa [World.setCell] using h.lt, by rw [TB.key u 0 (by omega)]; exact h.c0, by rw [TB.key u 1 (by omega)]; exact h.c1, by rw [TB.key u 2 (by omega)]; exact h.c2, World.cell?_setCell_same w _ _ h.c3, fun i => by rw [World.frozen?_setCell]; exact h.fz i⟩
theorem TB.make (w : World) (x0 x1 x2 x3 : Value) (T : TypeId) : ∃ w1, w.alloc (.cells #[x0, x1, x2, x3] T) = w1 ∧ Below w.heap.size w w1 ∧ w1.heap.size = w.heap.size + 1 ∧ TB w1 w.heap.size x0 x1 x2 x3 :=
  ⟨_, rfl, below_alloc _ _, by simp, by simp, by simp, by simp, by simp, by simp, fun j => by simp [go_sem]⟩

/-- A rest of a row of numbers. -/
def Suf (u : Value) (l : List Int) (v : Value) (m : List Int) : Prop := (∀ W, Row W 1 u l.length (l.map (Value.int .i64)) → Row W 1 v m.length (m.map (Value.int .i64))) ∧ ∀ z ∈ m, z ∈ l
theorem Suf.refl (u : Value) (l : List Int) : Suf u l u l := ⟨fun _ h => h, fun _ h => h⟩
theorem Suf.trans {u v x : Value} {l m n : List Int} (h : Suf u l v m) (k : Suf v m x n) : Suf u l x n := ⟨fun W hW => k.1 W (h.1 W hW), fun z hz => h.2 z (k.2 z hz)⟩
theorem Suf.tail (b off n cap : Nat) (z : Int) (l : List Int) (hn : n = l.length) : Suf (.slice (some ⟨b, off, none⟩) (n + 1) cap) (z :: l) (.slice (if cap = 1 then some ⟨b, off, none⟩ else some ⟨b, off + 1, none⟩) n (cap - 1)) l := by
  subst hn
  refine ⟨fun W h => ?_, fun x hx => List.mem_cons_of_mem _ hx⟩
  obtain ⟨h1, h2, a, c, e, h4, h5, h6, h7⟩ := h
  simp only [Value.slice.injEq] at e
  obtain ⟨ea, -, ec⟩ := e
  subst ec
  obtain ⟨b', off', e2, hlt, hc⟩ := h7 (by simp)
  rw [← ea] at e2
  simp only [Option.some.injEq, Addr.mk.injEq, and_true] at e2
  obtain ⟨rfl, rfl⟩ := e2
  simp only [List.length_cons] at h2 h4
  refine ⟨by simp, by omega, _, cap - 1, rfl, by omega, by omega, (fun h => by split at h <;> cases h), fun h0 => ⟨b, off + 1, ?_, hlt, fun j hj => ?_⟩⟩
  · rw [if_neg (by omega)]
  have := hc (j + 1) (by simp; omega)
  rw [show off + 1 + j = off + (j + 1) by omega, this]
  simp

/-- The struct so far: i fields are made. -/
structure OutI (s : Schema) (D : Nat) (t : Int) (w w2 : World) (R V : Nat) (i : Nat) (ks : List (Node (St D))) (xs : List Value) (vk : Value) (wr : World) : Prop where
  kl : ks.length = i
  bl : Below w.heap.size w wr
  sz : w2.heap.size ≤ wr.heap.size
  tv : TB wr V (.int .u64 0) (.string ⟨#[]⟩) (.slice none 0 0) vk
  tr : TB wr R (.int .u64 0) (.string ⟨#[]⟩) (.slice none 0 0) (.slice none 0 0)
  own : wr.ownsRow w2.heap.size 32 4 vk i xs
  kk : KK (RdF D) (fun b => b < w2.heap.size ∨ vk.ownBlock = some b) wr xs ks
  fit : ∀ (j : Nat) (k : Node (St D)), ks[j]? = some k → FitF s D t j k
  vr : w.heap.size ≤ R ∧ R < V ∧ V < w2.heap.size

/-- A field is made. -/
structure FieldI (s : Schema) (D : Nat) (t : Int) (i : Nat) (wi w5 : World) (B : Nat) (k : Node (St D)) (x0 x1 x2 x3 : Value) : Prop where
  bl : Below wi.heap.size wi w5
  tb : TB w5 B x0 x1 x2 x3
  rd : KW (fun b => b < wi.heap.size) w5 fun W => RdF D W [x0, x1, x2, x3] k
  fit : FitF s D t i k

theorem OutI.next {s : Schema} {D : Nat} {t : Int} {w w2 : World} {R V i : Nat} {ks : List (Node (St D))} {xs : List Value} {vk : Value} {wi w5 w7 : World} {B : Nat} {k : Node (St D)} {x0 x1 x2 x3 : Value} {T : TypeId} {v' : Value}
    (h : OutI s D t w w2 R V i ks xs vk wi) (hf : FieldI s D t i wi w5 B k x0 x1 x2 x3)
    (ho : w7.ownsRow w2.heap.size 32 4 v' (i + 1) (xs ++ [x0, x1, x2, x3])) (hg : (w5.alloc (.cells #[x0, x1, x2, x3] T)).grownBy w7 vk.ownBlock)
    (hat : v'.ownBlock = vk.ownBlock ∨ v'.ownBlock = some (w5.alloc (.cells #[x0, x1, x2, x3] T)).heap.size) :
    OutI s D t w w2 R V (i + 1) (ks ++ [k]) (xs ++ [x0, x1, x2, x3]) v' (w7.setCell ⟨V, 3, none⟩ v') := by
  obtain ⟨hv1, hv2, hv3⟩ := h.vr
  have b5 : Below w5.heap.size w5 (w5.alloc (.cells #[x0, x1, x2, x3] T)) := below_alloc _ _
  have bi5 := via hf.bl b5
  have hrow : ∀ b, vk.ownBlock = some b → w2.heap.size ≤ b ∧ b < wi.heap.size := fun b e => ⟨(own_blk h.own e).2, (own_blk h.own e).1.lt⟩
  have hs5 : wi.heap.size ≤ (w5.alloc (.cells #[x0, x1, x2, x3] T)).heap.size := bi5.size
  have hsz := h.sz
  have hwi := h.bl.size
  have hg7 := hg.size
  have hG : ∀ b, b < (w5.alloc (.cells #[x0, x1, x2, x3] T)).heap.size → (b < w2.heap.size ∨ v'.ownBlock = some b) → (b < w2.heap.size ∨ vk.ownBlock = some b) := fun b hb e => by
    rcases e with e | e
    · exact .inl e
    · rcases hat with e2 | e2
      · exact .inr (e2 ▸ e)
      · rw [e2] at e; have := Option.some.inj e; omega
  refine ⟨by simp [h.kl], ?_, ?_, ?_, ?_, ?_, ?_, ?_, h.vr⟩
  · have hb7 : Below w.heap.size w w7 := (h.bl.trans (bi5.mono hwi)).grown hg (by omega) fun b e => by have := (hrow b e).1; omega
    exact hb7.setCell (by show w.heap.size ≤ V; omega) _
  · show w2.heap.size ≤ (w7.setCell ⟨V, 3, none⟩ v').heap.size
    simp [World.setCell]; omega
  · exact ((h.tv.below bi5).grown hg fun e => by have := (hrow _ e).1; omega).set3 _
  · exact ((h.tr.below bi5).grown hg fun e => by have := (hrow _ e).1; omega).far (by omega) _
  · refine own_keep ho fun g e => Below.heap_setCell _ _ _ _ ?_
    have := (own_blk ho e).2
    show g ≠ V; omega
  · refine KK.set (p := ⟨V, 3, none⟩) (hp := .inl hv3) (u := v') (KK.add ?_ _ _ rfl ?_)
    · exact (h.kk.below bi5).grown hg (fun b e => .inr e) hG
    · refine (hf.rd.below b5).grown hg (fun b e => (hrow b e).2) fun b hb e => ?_
      rcases hG b hb e with e2 | e2
      · show b < wi.heap.size; omega
      · exact (hrow b e2).2
  · intro j x hx
    by_cases hj : j < ks.length
    · rw [List.getElem?_append_left hj] at hx; exact h.fit j x hx
    · have hj2 : j = ks.length := by
        have := (List.getElem?_eq_some_iff.1 hx).1
        rw [List.length_append] at this; simp at this; omega
      subst hj2
      rw [List.getElem?_append_right (Nat.le_refl _)] at hx
      simp at hx
      subst hx
      rw [h.kl]; exact hf.fit

/-- The structs of a field so far. -/
structure InI (s : Schema) (D : Nat) (ty : Int) (wi wk : World) (B : Nat) (j : Nat) (ks : List (St D)) (xs : List Value) (kv : Value) (wr : World) : Prop where
  kl : ks.length = j
  bl : Below wi.heap.size wi wr
  sz : wk.heap.size ≤ wr.heap.size
  bk : ∀ b, b < wk.heap.size → b ≠ B → wr.heap[b]? = wk.heap[b]?
  tb : TB wr B (.int .u64 0) (.string ⟨#[]⟩) (.slice none 0 0) kv
  own : wr.ownsRow wk.heap.size 32 4 kv j xs
  kk : KK (RdS D) (fun b => b < wk.heap.size ∨ kv.ownBlock = some b) wr xs ks
  fit : ∀ x ∈ ks, FitT s D ty x
  vr : wi.heap.size ≤ B ∧ B < wk.heap.size

theorem InI.next {s : Schema} {D : Nat} {ty : Int} {wi wk : World} {B j : Nat} {ks : List (St D)} {xs : List Value} {kv : Value} {wr w5 w6 w7 : World} {k : St D} {x0 x1 x2 x3 : Value} {v' : Value}
    (h : InI s D ty wi wk B j ks xs kv wr) (hb5 : Below wr.heap.size wr w5) (hrd : KW (fun b => b < wr.heap.size) w5 fun W => RdS D W [x0, x1, x2, x3] k) (hfit : FitT s D ty k)
    (h6 : Below w5.heap.size w5 w6)
    (ho : w7.ownsRow wk.heap.size 32 4 v' (j + 1) (xs ++ [x0, x1, x2, x3])) (hg : w6.grownBy w7 kv.ownBlock)
    (hat : v'.ownBlock = kv.ownBlock ∨ v'.ownBlock = some w6.heap.size) :
    InI s D ty wi wk B (j + 1) (ks ++ [k]) (xs ++ [x0, x1, x2, x3]) v' (w7.setCell ⟨B, 3, none⟩ v') := by
  obtain ⟨hv1, hv2⟩ := h.vr
  have bi5 := via hb5 h6
  have hrow : ∀ b, kv.ownBlock = some b → wk.heap.size ≤ b ∧ b < wr.heap.size := fun b e => ⟨(own_blk h.own e).2, (own_blk h.own e).1.lt⟩
  have hs5 : wr.heap.size ≤ w6.heap.size := bi5.size
  have hsz := h.sz
  have hwi := h.bl.size
  have hg7 := hg.size
  have hG : ∀ b, b < w6.heap.size → (b < wk.heap.size ∨ v'.ownBlock = some b) → (b < wk.heap.size ∨ kv.ownBlock = some b) := fun b hb e => by
    rcases e with e | e
    · exact .inl e
    · rcases hat with e2 | e2
      · exact .inr (e2 ▸ e)
      · rw [e2] at e; have := Option.some.inj e; omega
  refine ⟨by simp [h.kl], ?_, ?_, ?_, ?_, ?_, ?_, ?_, h.vr⟩
  · have hb7 : Below wi.heap.size wi w7 := (h.bl.trans (bi5.mono hwi)).grown hg (by omega) fun b e => by have := (hrow b e).1; omega
    exact hb7.setCell (by show wi.heap.size ≤ B; omega) _
  · show wk.heap.size ≤ (w7.setCell ⟨B, 3, none⟩ v').heap.size
    simp [World.setCell]; omega
  · intro b hb hne
    rw [Below.heap_setCell _ _ _ _ (show b ≠ B from hne), hg.block b (by omega) (fun e => by have := (hrow b e.symm).1; omega), bi5.block b (by omega)]
    exact h.bk b hb hne
  · exact ((h.tb.below bi5).grown hg fun e => by have := (hrow _ e).1; omega).set3 _
  · refine own_keep ho fun g e => Below.heap_setCell _ _ _ _ ?_
    have := (own_blk ho e).2
    show g ≠ B; omega
  · refine KK.set (p := ⟨B, 3, none⟩) (hp := .inl hv2) (u := v') (KK.add ?_ _ _ rfl ?_)
    · exact (h.kk.below bi5).grown hg (fun b e => .inr e) hG
    · refine (hrd.below h6).grown hg (fun b e => (hrow b e).2) fun b hb e => ?_
      rcases hG b hb e with e2 | e2
      · show b < wr.heap.size; omega
      · exact (hrow b e2).2
  · intro x hx
    rcases List.mem_append.1 hx with hx | hx
    · exact h.fit x hx
    · rw [List.mem_singleton.1 hx]; exact hfit

/-- The row of structs is read. -/
theorem InI.read {s : Schema} {D : Nat} {ty : Int} {wi wk : World} {B j : Nat} {ks : List (St D)} {xs : List Value} {kv : Value} {wr : World} (h : InI s D ty wi wk B j ks xs kv wr) (hj : j ≤ 2) :
    KW (fun b => b < wi.heap.size) wr fun W => RdF D W [.int .u64 0, .string ⟨#[]⟩, .slice none 0 0, kv] ⟨0#64, ⟨#[]⟩, [], ks⟩ := by
  obtain ⟨hv1, hv2⟩ := h.vr
  have h1 : KK (RdS D) (fun b => b < wi.heap.size) wr xs ks := h.kk.mono fun b _ e => .inl (by omega)
  have h2 := h1.kids h.own h.kl.symm fun g e => by have := (own_blk h.own e).2; show ¬ g < wi.heap.size; omega
  intro W hW
  exact RdN.mk' (t := ⟨0#64, ⟨#[]⟩, [], ks⟩) ⟨by show (⟨#[]⟩ : ByteArray).size ≤ 1000; decide, by simp, by show ks.length ≤ 1000; rw [h.kl]; omega⟩ (Row.nil W 1) (h2 W hW)

theorem OutI.done {s : Schema} {D : Nat} {t : Int} {w w2 : World} {V N : Nat} {ks : List (Node (St D))} {xs : List Value} {vk : Value} {wr w9 : World} (h : OutI s D t w w2 w.heap.size V N ks xs vk wr)
    (hN : N = (typeL s t).length) (hn : N ≤ 1000) (hk : ∀ b, b ≠ w.heap.size → w9.heap[b]? = wr.heap[b]?) (hs : w9.heap.size = wr.heap.size) :
    KW (fun b => b < w.heap.size) w9 (fun W => RdS (D + 1) W [.int .u64 0, .string ⟨#[]⟩, .slice none 0 0, vk] (⟨0#64, ⟨#[]⟩, [], ks⟩ : Node (Node (St D)))) ∧ FitT s (D + 1) t (⟨0#64, ⟨#[]⟩, [], ks⟩ : Node (Node (St D))) := by
  obtain ⟨hv1, hv2, hv3⟩ := h.vr
  have hne : ∀ g, vk.ownBlock = some g → g ≠ w.heap.size ∧ ¬ g < w2.heap.size := fun g e => by have := (own_blk h.own e).2; omega
  have ho : w9.ownsRow w2.heap.size 32 4 vk N xs := own_keep h.own fun g e => hk g (hne g e).1
  have h1 : KK (RdF D) (fun b => b < w2.heap.size) w9 xs ks := h.kk.step (by omega) fun b hb hg => ⟨fun e => hg (.inl e), hk b fun e => hg (.inl (by omega))⟩
  have h2 := h1.kids ho h.kl.symm fun g e => (hne g e).2
  refine ⟨fun W hW => ?_, rfl, rfl, rfl, ?_, fun i k e => h.fit i k e⟩
  · have h3 := h2 W fun b hb hg => hW b hb fun e => hg (by omega)
    exact RdN.mk' (t := (⟨0#64, ⟨#[]⟩, [], ks⟩ : Node (Node (St D)))) ⟨by show (⟨#[]⟩ : ByteArray).size ≤ 1000; decide, by simp, by show ks.length ≤ 1000; rw [h.kl]; exact hn⟩ (Row.nil W 1) h3
  · show ks.length = _
    rw [h.kl]; exact hN
end SMadeT0

end Go.Proofs.YtblbhlgihlgncaaDoor

