/- cause.Codes: all codes of a trouble. -/
import Derived.Test.YtppdbadigecegaaDoorCMk
import Derived.Maps.OwnIn
import Derived.Deep.AppendLies
set_option linter.unusedVariables false
set_option linter.unusedSimpArgs false
namespace Go.Proofs.YtppdbadigecegaaDoor
section SCCodes
open Go.RowKit Go.Shelf
attribute [local go_sem] Oper.semAt_some

section
variable {F : Fence} {nF : Nat} {P : Program}
theorem wpIn_append_own_at (w : World) {o : Oper} {a : Act} {K : Act → World → Prop} {Q : Exit → Act → World → Prop} (s x : Operand) (t : TypeId)
    (ho : o.op = .call { callee := .builtin .append, args := #[s, x], argTypes := #[t, t] })
    (base : Nat) (e : TypeId) (i : TypeInfo) (z : Value) (size bytes : Nat) (ht : P.underlying t = some (.slice e)) (hi : P.info? e = some i) (hz : i.zero = some z)
    (hsize : i.size = size) (hby : i.bytes = bytes) (hzs : z.cells.size = size) (hsz : 0 < size)
    (v : Value) (n : Nat) (xs : List Value) (hs : a.eval s = v) (hown : w.ownsRow base e size v n xs)
    (ad : Addr) (m c : Nat) (news : List Value) (hx : a.eval x = .slice (some ad) m c) (hl : news.length = m * size) (hnews : ∀ j u, news[j]? = some u → w.cell? (ad.add j) = some u) (h1 : ∀ u ∈ news, u.oneCell' = true)
    (h63 : n + m ≤ maxLen) (hbytes : (n + m) * bytes ≤ 140737488355328) (hbase : base ≤ w.heap.size)
    (h : ∀ v' w', w'.ownsRow base e size v' (n + m) (xs ++ news) → w.grownBy w' v.ownBlock → (v'.ownBlock = v.ownBlock ∨ v'.ownBlock = some w.heap.size) → K (a.put o.dst v') w') : Oper.wpIn F nF P o a w K Q := by
  obtain ⟨v', w', hr, h2, h3, h4, h5⟩ := run_append_own_at (P := P) w base t o.type e i z size bytes ht hi hz hsize hby hzs hsz v n xs hown ad m c news hl hnews h1 h63 hbytes hbase
  unfold Oper.wpIn
  refine ⟨by simp [Oper.about, ho, resolve, Target.leads, Sem.run_pure], ?_⟩
  rw [Oper.semAt_plain F _ _ (by rw [ho]; intro c hc'; cases hc')]
  simp [execOp, ho, resolve, invoke, builtin, hs, hx, hr, Result.andThen]
  exact h v' w' h2 h3 h5
end

theorem news_atC (w : World) (g : Nat) (hg : w.heap.size = g) (cs : Array Value) (t : TypeId) : ∀ j u, cs.toList[j]? = some u → (w.alloc (.cells cs t)).cell? ((⟨g, 0, none⟩ : Addr).add j) = some u := by
  subst hg
  exact World.news_of_block (heap_alloc_new w _)
theorem Pta.oe2 (i : TypeId) (v : Int) (w : World) : (Instr.typeAssert (.iface 32 (.int .i64 v)) i 32 true).run Tryd.prog w = .ok (.tuple #[.int .i64 v, .bool true]) w := by kernel_rfl
theorem Pta.ae2 (i : TypeId) (a : Addr) (w : World) : (Instr.typeAssert (.iface 79 (.pointer (some a))) i 32 true).run Tryd.prog w = .ok (.tuple #[.int .i64 0, .bool false]) w := by kernel_rfl

theorem cell_ltC {w : World} {p : Addr} {v : Value} (h : w.cell? p = some v) : p.block < w.heap.size := by
  rcases Nat.lt_or_ge p.block w.heap.size with h1 | h1
  · exact h1
  · simp [World.cell?, Array.getElem?_eq_none h1] at h
/-- The codes of the parts. -/
def codeP (w : World) (x : Part) : List Int := match x.2 with
  | some _ => []
  | none => match x.1 with
    | .iface _ (.int _ e) => [e]
    | .iface _ (.pointer (some p)) => match w.cell? p with
      | some (.int _ c) => [c]
      | _ => []
    | _ => []
def codesP (w : World) (xs : List Part) : List Int := xs.flatMap (codeP w)
theorem codesP_snoc (w : World) (xs : List Part) (x : Part) : codesP w (xs ++ [x]) = codesP w xs ++ codeP w x := by simp [codesP]
theorem codeP_le (w : World) (x : Part) : (codeP w x).length ≤ 1 := by
  unfold codeP
  repeat' split
  all_goals simp
theorem codesP_le (w : World) : ∀ xs : List Part, (codesP w xs).length ≤ xs.length
  | [] => Nat.le_refl _
  | x :: xs => by
    have h1 := codeP_le w x
    have h2 := codesP_le w xs
    have e : codesP w (x :: xs) = codeP w x ++ codesP w xs := by simp [codesP]
    rw [e, List.length_append, List.length_cons]
    omega
theorem TC.chainC {w : World} : ∀ {L : List (Bool × Int)} {v : Value}, TC w v L → ∃ xs : List Part, Chain w v xs ∧ codesP w xs = codesL L ∧ xs.length = L.length
  | [], v, h => ⟨[], h, rfl, rfl⟩
  | (b, x) :: rest, v, h => by
    rcases h with ⟨rfl, rfl, rfl⟩ | ⟨rfl, h2, A, u, rfl, h4, h5, h6, h7⟩ | ⟨rfl, h2, A, u, rfl, h4, h5, h6, h7⟩
    · exact ⟨[(.iface 32 (.int .i64 x), none)], ⟨rfl, .inl ⟨x, rfl, rfl⟩⟩, rfl, rfl⟩
    · obtain ⟨xs, k1, k2, k3⟩ := TC.chainC h7
      exact ⟨(.iface 79 (.pointer (some ⟨A, 0, none⟩)), some x) :: xs, ⟨rfl, .inr (.inl ⟨A, u, x, rfl, h4, h5, h6, k1⟩)⟩, by rw [codesL_cons, if_pos rfl, ← k2]; rfl, by simp [k3]⟩
    · obtain ⟨xs, k1, k2, k3⟩ := TC.chainC h7
      refine ⟨(.iface 60 (.pointer (some ⟨A, 0, none⟩)), none) :: xs, ⟨rfl, .inr (.inr ⟨A, u, x, rfl, h4, h5, h6, k1⟩)⟩, ?_, by simp [k3]⟩
      rw [codesL_cons, if_neg (by decide), ← k2]
      simp [codesP, codeP, h5]

/-- What holds between two rounds. -/
structure CodJ (w : World) (rec : Loop) (cs : List Int) (W : World) : Prop where
  own : ∃ ov, W.cell? ⟨w.heap.size, 0, none⟩ = some ov ∧ W.ownsRow (w.heap.size + 4) 32 1 ov cs.length (cs.map (Value.int .i64))
  f1 : W.frozen? ⟨w.heap.size, 0, none⟩ = false
  rc : W.heap[w.heap.size + 3]? = some (.loop rec)
  df : W.heap[w.heap.size + 2]? = some (.deferred (some []))
  lo : Below w.heap.size w W
theorem CodJ.size {w : World} {rec : Loop} {cs : List Int} {W : World} (h : CodJ w rec cs W) : w.heap.size + 3 < W.heap.size := (Array.getElem?_eq_some_iff.1 h.rc).1
theorem CodJ.box {w : World} {rec : Loop} {cs : List Int} {W : World} (h : CodJ w rec cs W) (v : Value) : CodJ w rec cs (W.setCell ⟨w.heap.size + 1, 0, none⟩ v) := by
  obtain ⟨ov, h1, h2⟩ := h.own
  refine ⟨⟨ov, (World.cell?_setCell_other _ _ _ _ (by simp)).trans h1, own_keep h2 fun g e => Below.heap_setCell _ _ _ _ ?_⟩, by rw [World.frozen?_setCell]; exact h.f1, (Below.heap_setCell _ _ _ _ (by simp)).trans h.rc, (Below.heap_setCell _ _ _ _ (by simp)).trans h.df, h.lo.setCell (p := ⟨w.heap.size + 1, 0, none⟩) (by simp) v⟩
  have := (own_blk h2 e).2
  show g ≠ w.heap.size + 1
  omega
theorem CodJ.put {w : World} {rec : Loop} {cs : List Int} {W : World} (h : CodJ w rec cs W) (rec2 : Loop) : CodJ w rec2 cs (W.putObj (w.heap.size + 3) (.loop rec2)) := by
  have hl := h.size
  have o : ∀ k, k ≠ w.heap.size + 3 → (W.putObj (w.heap.size + 3) (.loop rec2)).heap[k]? = W.heap[k]? := fun k hk => World.putObj_heap_other hk
  obtain ⟨ov, h1, h2⟩ := h.own
  refine ⟨⟨ov, (World.cell?_of_block (a := ⟨w.heap.size, 0, none⟩) (o _ (by simp))).trans h1, own_keep h2 fun g e => o g ?_⟩, (World.frozen?_of_block (a := ⟨w.heap.size, 0, none⟩) (o _ (by simp))).trans h.f1, World.putObj_heap_same hl, (o _ (by simp)).trans h.df,
    belowK_b (w := w) (Nat.le_refl _) W _ _ _ (by omega) h.rc rfl rfl |> fun k => h.lo.trans k⟩
  have := (own_blk h2 e).2
  omega
/-- A code is appended, and stored. -/
theorem CodJ.add {w : World} {rec : Loop} {cs : List Int} {W W6 W7 : World} {e : Int} {ov v' : Value} (h : CodJ w rec cs W) (h1 : W.cell? ⟨w.heap.size, 0, none⟩ = some ov) (h2 : W.ownsRow (w.heap.size + 4) 32 1 ov cs.length (cs.map (Value.int .i64))) (hb : Below W.heap.size W W6)
    (ho : W7.ownsRow (w.heap.size + 4) 32 1 v' (cs.length + 1) (cs.map (Value.int .i64) ++ [.int .i64 e])) (hg : W6.grownBy W7 ov.ownBlock) :
    CodJ w rec (cs ++ [e]) (W7.setCell ⟨w.heap.size, 0, none⟩ v') ∧ Below w.heap.size W (W7.setCell ⟨w.heap.size, 0, none⟩ v') ∧ (W7.setCell ⟨w.heap.size, 0, none⟩ v').heap[w.heap.size + 1]? = W.heap[w.heap.size + 1]? ∧ (∃ u, W7.cell? ⟨w.heap.size, 0, none⟩ = some u) ∧ W7.frozen? ⟨w.heap.size, 0, none⟩ = false := by
  have hsz := h.size
  have hsz6 := hb.size
  have hrow : ∀ b, b < w.heap.size + 4 → ov.ownBlock ≠ some b := fun b hb2 e2 => by have := (own_blk h2 e2).2; omega
  have hblk : ∀ b, b < w.heap.size + 4 → W7.heap[b]? = W.heap[b]? := fun b hb2 => by
    rw [hg.block b (by omega) (fun e2 => hrow b hb2 e2.symm), hb.block b (by omega)]
  have hc7 : W7.cell? ⟨w.heap.size, 0, none⟩ = some ov := (World.cell?_of_block (a := ⟨w.heap.size, 0, none⟩) (hblk w.heap.size (by omega))).trans h1
  have hf7 : W7.frozen? ⟨w.heap.size, 0, none⟩ = false := (World.frozen?_of_block (a := ⟨w.heap.size, 0, none⟩) (hblk w.heap.size (by omega))).trans h.f1
  have hbW : Below w.heap.size W W7 := (hb.mono (by omega)).grown hg (by omega) (fun b e2 => by have := hrow b; rcases Nat.lt_or_ge b (w.heap.size + 4) with h3 | h3; exact absurd e2 (hrow b h3); omega)
  refine ⟨⟨⟨v', World.cell?_setCell_same _ _ _ hc7, ?_⟩, by rw [World.frozen?_setCell]; exact hf7, (Below.heap_setCell _ _ _ _ (by simp)).trans ((hblk _ (by omega)).trans h.rc), (Below.heap_setCell _ _ _ _ (by simp)).trans ((hblk _ (by omega)).trans h.df), (h.lo.trans hbW).setCell (p := ⟨w.heap.size, 0, none⟩) (Nat.le_refl _) _⟩, hbW.setCell (p := ⟨w.heap.size, 0, none⟩) (Nat.le_refl _) _, (Below.heap_setCell _ _ _ _ (by simp)).trans (hblk _ (by omega)), ⟨_, hc7⟩, hf7⟩
  have := own_keep ho (w' := W7.setCell ⟨w.heap.size, 0, none⟩ v') fun g e2 => Below.heap_setCell _ _ _ _ (by have := (own_blk ho e2).2; show g ≠ w.heap.size; omega)
  simpa using this

theorem codes_start (u : Value) (w : World) (rec : Loop) :
    CodJ w rec [] ((((w.alloc (.cells #[.slice none 0 0] 30)).alloc (.cells #[u] 25)).alloc (.deferred (some []))).alloc (.loop rec)) ∧
    ((((w.alloc (.cells #[.slice none 0 0] 30)).alloc (.cells #[u] 25)).alloc (.deferred (some []))).alloc (.loop rec)).cell? ⟨w.heap.size + 1, 0, none⟩ = some u ∧
    ((((w.alloc (.cells #[.slice none 0 0] 30)).alloc (.cells #[u] 25)).alloc (.deferred (some []))).alloc (.loop rec)).frozen? ⟨w.heap.size + 1, 0, none⟩ = false := by
  have step : ∀ (W : World) (o : Obj) (k : Nat), k < W.heap.size → (W.alloc o).heap[k]? = W.heap[k]? := fun W o k hk => Below.heap_alloc _ _ _ hk
  have size : ∀ (W : World) (o : Obj), (W.alloc o).heap.size = W.heap.size + 1 := fun W o => by simp
  have low := below_alloc w (.cells #[.slice none 0 0] 30)
  have b1 := World.alloc_heap_new w (.cells #[.slice none 0 0] 30)
  have z1 := size w (.cells #[.slice none 0 0] 30)
  generalize w.alloc (.cells #[.slice none 0 0] 30) = w1 at *
  have low := via low (below_alloc w1 (.cells #[u] 25))
  have b3 := World.alloc_heap_new w1 (.cells #[u] 25)
  have z3 := size w1 (.cells #[u] 25)
  replace b1 := (step w1 (.cells #[u] 25) _ (by omega)).trans b1
  generalize w1.alloc (.cells #[u] 25) = w3 at *
  have low := via low (below_alloc w3 (.deferred (some [])))
  have b4 := World.alloc_heap_new w3 (.deferred (some []))
  have z4 := size w3 (.deferred (some []))
  replace b1 := (step w3 (.deferred (some [])) _ (by omega)).trans b1
  replace b3 := (step w3 (.deferred (some [])) _ (by omega)).trans b3
  generalize w3.alloc (.deferred (some [])) = w4 at *
  have low := via low (below_alloc w4 (.loop rec))
  have b5 := World.alloc_heap_new w4 (.loop rec)
  replace b1 := (step w4 (.loop rec) _ (by omega)).trans b1
  replace b3 := (step w4 (.loop rec) _ (by omega)).trans b3
  replace b4 := (step w4 (.loop rec) _ (by omega)).trans b4
  generalize w4.alloc (.loop rec) = w5 at *
  rw [z1] at b3
  rw [z3, z1] at b4
  rw [z4, z3, z1] at b5
  refine ⟨⟨⟨.slice none 0 0, ?_, own_nil _ _ _ _⟩, ?_, b5, b4, low⟩, ?_, ?_⟩
  · simp only [World.cell?, b1]; rfl
  · simp [World.frozen?, b1]
  · have b3' : w5.heap[w.heap.size + 1]? = some (.cells #[u] 25) := b3
    simp only [World.cell?, b3']; rfl
  · have b3' : w5.heap[w.heap.size + 1]? = some (.cells #[u] 25) := b3
    simp [World.frozen?, b3']

/-- What Codes hands back: a new row, or nothing. -/
def CodesP (w : World) (cs : List Int) (r : Ending) (w' : World) : Prop := ∃ v, r = .returned v ∧ Row w' 1 v cs.length (cs.map (Value.int .i64)) ∧ Below w.heap.size w w'
set_option maxRecDepth 100000 in
set_option maxHeartbeats 4000000 in
theorem ccodes_chain (u : Value) (xs : List Part) (w : World) (h : Chain w u xs) (hlen : xs.length ≤ 1000) : Calls Tryd.prog 9 #[u] w (CodesP w (codesP w xs)) := by
  obtain ⟨iE, hiE, hzE, hsE, hbE⟩ := info_parts (show (Tryd.prog.info? 32).map (fun i => (i.zero, i.size, i.bytes)) = some (some (.int .i64 0), 1, 8) by kernel_rfl)
  have hparts := fun W => cparts_any u W h.shape
  refine (callsIn_wide (n := 5)).1 ?_
  refine callsIn_of_wp_marks Tryd.func9 rfl trivial ?_ rfl
  simp only [Tryd.ntmps9, List.size_toArray, List.length_cons, List.length_nil, Nat.reduceAdd, Nat.reduceSub, Array.replicate_succ, Array.replicate_zero, List.push_toArray, List.append_toArray, List.nil_append, List.cons_append]
  gi_wp2_with (refine ⟨trivial, ?_⟩; gi_at_call 28; refine (callsIn_wide.2 (hparts _)).mono ?_; rintro e w' ⟨rfl, rfl⟩)
  refine range_enter rfl (fun h => by cases h) (gf := 37) (lb := #[.pointer (some ⟨w.heap.size + 1, 0, none⟩)]) rfl trivial (enters_of Tryd.func37 (by kernel_rfl) rfl) ?_
  intro fn hfn rec hrec
  have e3 : ((w.alloc (.cells #[.slice none 0 0] 30)).alloc (.cells #[u] 25)).heap.size = w.heap.size + 2 := by simp
  rw [e3] at hrec ⊢
  obtain ⟨W1, hW1⟩ : ∃ W1, (((w.alloc (.cells #[.slice none 0 0] 30)).alloc (.cells #[u] 25)).alloc (.deferred (some []))).alloc (.loop rec) = W1 := ⟨_, rfl⟩
  rw [hW1]
  obtain ⟨hJ0, hb0⟩ := codes_start u w rec
  rw [hW1] at hJ0 hb0
  refine (parts1_in Fence.wide 4 trivial rfl (by omega) (w.heap.size + 2 + 1) (w.heap.size + 1) w.heap.size w u xs (fun pre W => CodJ w rec (codesP w pre) W) (Nat.le_refl _) (by omega) (fun pre W v hj => hj.box v) ?_ W1 hb0.1 hb0.2 hJ0.lo h hJ0).mono ?_
  · intro pre x rest W hx hj hbW
    obtain ⟨v', hch⟩ := Chain.tail (show Chain w u (pre ++ x :: rest) by rw [← hx]; exact h)
    obtain ⟨-, hch⟩ := hch
    have hl := hj.rc
    have hy := run_yield (P := Tryd.prog) (args := #[x.1]) hl (by rw [hrec]; rfl)
    have hst : rec.state = .ready := by rw [hrec]
    have hback : ({ ({ rec with state := .busy } : Loop) with state := if (none : Option Code).isNone then .ready else .done, pending := none } : Loop) = rec := by rw [hrec]; rfl
    have hbr := run_beginRound (P := Tryd.prog) hl hst
    have hj2 := hj.put { rec with state := .busy }
    have kp1 : KpP w.heap.size (w.heap.size + 1) W (W.putObj (w.heap.size + 3) (.loop { rec with state := .busy })) := ⟨belowK_b (w := w) (Nat.le_refl _) W _ _ _ (by omega) hl rfl rfl, World.putObj_heap_other (by omega)⟩
    generalize hW2 : W.putObj (w.heap.size + 3) (.loop { rec with state := .busy }) = W2 at *
    clear hW2
    have fin : ∀ s W3, CodJ w { rec with state := .busy } s W3 → KpP w.heap.size (w.heap.size + 1) W2 W3 → s = codesP w (pre ++ [x]) →
        ∃ v w', (Instr.endRound (w.heap.size + 2 + 1) none).run Tryd.prog W3 = .ok v w' ∧ (Ending.returned v = .returned (.bool true) ∧ CodJ w rec (codesP w (pre ++ [x])) w' ∧ KpP w.heap.size (w.heap.size + 1) W w') := fun s W3 hj3 hk3 hs => by
      have he := run_endRound (P := Tryd.prog) none hj3.rc
      rw [hback] at he
      refine ⟨_, _, he, rfl, hs ▸ hj3.put rec, ?_⟩
      exact ⟨kp1.1.trans (hk3.1.trans (belowK_b (w := w) (Nat.le_refl _) W3 _ _ _ (by omega) hj3.rc rfl rfl)), (World.putObj_heap_other (by omega)).trans (hk3.2.trans kp1.2)⟩
    have Fin := hid fin
    rw [hrec] at hy
    obtain ⟨ov, c1, hown⟩ := hj2.own
    have f1 := hj2.f1
    have hcl : (codesP w pre).length ≤ 1000 := Nat.le_trans (codesP_le w pre) (by have := congrArg List.length hx; simp at this; omega)
    have Hbr := hid hbr
    clear hbr fin hrec hW1 hback hst hl
    obtain ⟨ao, co, rfl⟩ := own_shape hown
    refine ⟨fn, _, _, _, hy, roundIn_of_wpIn hfn ?_⟩
    clear hy
    rcases hch with ⟨e1, rfl, rfl⟩ | ⟨A, u2, p, rfl, hA, g0, g1, hcr⟩ | ⟨A, u2, c, rfl, hA, g0, g1, hcr⟩
    · have t1 := Pta.oe
      have t2 := Pta.oe2
      have hown6 := own_beneath hown (below_alloc W2 (.cells #[.int .i64 e1] 32))
      have hsz6 : w.heap.size + 4 ≤ (W2.alloc (.cells #[.int .i64 e1] 32)).heap.size := Nat.le_trans hj2.size (below_alloc W2 _).size
      gi_wp2
      refine ⟨_, Hbr.out, ?_⟩
      gi_wp2_with (gi_at_builtin; refine wpListIn_append_own_at _ rfl (.tmp 24) (.tmp 26) 30 rfl (w.heap.size + 4) 32 iE _ 1 8 Tryd.underlying30 hiE hzE hsE hbE rfl (by omega) _ _ _ rfl hown6 ⟨W2.heap.size, 0, none⟩ 1 1 [.int .i64 e1] rfl rfl (news_atC _ _ rfl #[.int .i64 e1] 32) (by simp [Value.oneCell']) (by unfold maxLen; omega) (by omega) hsz6 ?_; intro v7 w7 ho7 hg7 _ hat7; obtain ⟨a7, c7, rfl⟩ := own_shape ho7; obtain ⟨hj7, hb7, hk7, ⟨u7, hc7⟩, hf7⟩ := hj2.add c1 hown (below_alloc W2 (.cells #[.int .i64 e1] 32)) ho7 hg7)
      gi_wp2
      exact Fin.out _ _ hj7 ⟨hb7, hk7⟩ (by rw [codesP_snoc]; rfl)
    · have t1 := Pta.oa
      have t2 := Pta.ae2
      gi_wp2
      refine ⟨_, Hbr.out, ?_⟩
      gi_wp2
      exact Fin.out _ _ hj2 ⟨Below.refl _ _, rfl⟩ (by rw [codesP_snoc]; simp [codeP])
    · have t1 := Pta.oo
      have gl := (hj2.lo.cell (p := ⟨A, 0, none⟩) hA).trans g0
      gi_wp2
      refine ⟨_, Hbr.out, ?_⟩
      gi_wp2
      have hcn : W2.heap.size = W2.heap.size := rfl
      have hb6 : Below W2.heap.size W2 (W2.alloc (.cells #[.int .i64 c] 32)).drew := via (below_alloc W2 (.cells #[.int .i64 c] 32)) (below_drewN _ _ 1)
      have hown6 := own_beneath hown hb6
      have hsz6 : w.heap.size + 4 ≤ (W2.alloc (.cells #[.int .i64 c] 32)).drew.heap.size := Nat.le_trans hj2.size hb6.size
      have c1a : (W2.alloc (.cells #[.int .i64 c] 32)).cell? ⟨w.heap.size, 0, none⟩ = some (.slice ao (codesP w pre).length co) := ((below_alloc W2 (.cells #[.int .i64 c] 32)).cell (p := ⟨w.heap.size, 0, none⟩) (cell_ltC c1)).trans c1
      have gla : (W2.alloc (.cells #[.int .i64 c] 32)).cell? ⟨A, 0, none⟩ = some (.int .i64 c) := ((below_alloc W2 (.cells #[.int .i64 c] 32)).cell (p := ⟨A, 0, none⟩) (cell_ltC gl)).trans gl
      have Hcs := hid (show codesP w pre ++ [c] = codesP w (pre ++ [(.iface 60 (.pointer (some ⟨A, 0, none⟩)), none)]) by rw [codesP_snoc]; simp [codeP, g0])
      refine wpIn_region_any (by kernel_rfl) ?_
      change wpAnyIn _ _ _ _ _ _ _ _ _ (World.drew _)
      refine wpAnyIn_ready (rs := [0, 1]) (by kernel_rfl) (by simp) ?_
      refine AllReadyIn.cons rfl (fun K hK => ?_) (AllReadyIn.cons rfl (fun K hK => ?_) AllReadyIn.nil)
      · go_simp
        refine hK _ _ ?_
        clear hK K
        try simp only [Act.put, List.setIfInBounds_toArray, List.set_cons_zero, List.set_cons_succ]
        refine wpAnyIn_ready (rs := [1]) (by kernel_rfl) (by simp) ?_
        refine AllReadyIn.cons rfl (fun K hK => ?_) AllReadyIn.nil
        go_simp
        refine hK _ _ ?_
        clear hK K
        try simp only [Act.put, List.setIfInBounds_toArray, List.set_cons_zero, List.set_cons_succ]
        refine wpAnyIn_ready (rs := [2]) (by kernel_rfl) (by simp) ?_
        refine AllReadyIn.cons rfl (fun K hK => ?_) AllReadyIn.nil
        go_simp
        refine hK _ _ ?_
        clear hK K
        try simp only [Act.put, List.setIfInBounds_toArray, List.set_cons_zero, List.set_cons_succ]
        refine wpAnyIn_ready (rs := [3]) (by kernel_rfl) (by simp) ?_
        refine AllReadyIn.cons rfl (fun K hK => ?_) AllReadyIn.nil
        go_simp
        refine hK _ _ ?_
        clear hK K
        try simp only [Act.put, List.setIfInBounds_toArray, List.set_cons_zero, List.set_cons_succ]
        refine wpAnyIn_ready (rs := [4]) (by kernel_rfl) (by simp) ?_
        refine AllReadyIn.cons rfl (fun K hK => ?_) AllReadyIn.nil
        go_simp
        refine hK _ _ ?_
        clear hK K
        try simp only [Act.put, List.setIfInBounds_toArray, List.set_cons_zero, List.set_cons_succ]
        refine wpAnyIn_ready (rs := [5]) (by kernel_rfl) (by simp) ?_
        refine AllReadyIn.cons rfl (fun K hK => ?_) AllReadyIn.nil
        go_simp
        refine hK _ _ ?_
        clear hK K
        try simp only [Act.put, List.setIfInBounds_toArray, List.set_cons_zero, List.set_cons_succ]
        refine wpAnyIn_ready (rs := [6]) (by kernel_rfl) (by simp) ?_
        refine AllReadyIn.cons rfl (fun K hK => ?_) AllReadyIn.nil
        rw [if_pos (by rfl)]
        refine wpIn_append_own_at _ (.tmp 14) (.tmp 19) 30 rfl (w.heap.size + 4) 32 iE _ 1 8 Tryd.underlying30 hiE hzE hsE hbE rfl (by omega) _ _ _ rfl hown6 ⟨W2.heap.size, 0, none⟩ 1 1 [.int .i64 c] rfl rfl (news_atC W2 _ rfl #[.int .i64 c] 32) (by simp [Value.oneCell']) (by unfold maxLen; omega) (by omega) hsz6 ?_
        intro v7 w7 ho7 hg7 hat7
        obtain ⟨a7, c7, rfl⟩ := own_shape ho7
        obtain ⟨hj7, hb7, hk7, ⟨u7, hc7⟩, hf7⟩ := hj2.add c1 hown hb6 ho7 hg7
        refine hK _ _ ?_
        clear hK K
        try simp only [Act.put, List.setIfInBounds_toArray, List.set_cons_zero, List.set_cons_succ]
        refine wpAnyIn_ready (rs := [7]) (by kernel_rfl) (by simp) ?_
        refine AllReadyIn.cons rfl (fun K hK => ?_) AllReadyIn.nil
        go_simp
        refine hK _ _ ?_
        clear hK K
        try simp only [Act.put, List.setIfInBounds_toArray, List.set_cons_zero, List.set_cons_succ]
        refine wpAnyIn_done (by kernel_rfl) ?_ _
        gi_wp2
        exact Fin.out _ _ hj7 ⟨hb7, hk7⟩ Hcs.out
      · go_simp
        refine hK _ _ ?_
        clear hK K
        try simp only [Act.put, List.setIfInBounds_toArray, List.set_cons_zero, List.set_cons_succ]
        refine wpAnyIn_ready (rs := [0, 2]) (by kernel_rfl) (by simp) ?_
        refine AllReadyIn.cons rfl (fun K hK => ?_) (AllReadyIn.cons rfl (fun K hK => ?_) AllReadyIn.nil)
        · go_simp
          refine hK _ _ ?_
          clear hK K
          try simp only [Act.put, List.setIfInBounds_toArray, List.set_cons_zero, List.set_cons_succ]
          refine wpAnyIn_ready (rs := [2]) (by kernel_rfl) (by simp) ?_
          refine AllReadyIn.cons rfl (fun K hK => ?_) AllReadyIn.nil
          go_simp
          refine hK _ _ ?_
          clear hK K
          try simp only [Act.put, List.setIfInBounds_toArray, List.set_cons_zero, List.set_cons_succ]
          refine wpAnyIn_ready (rs := [3]) (by kernel_rfl) (by simp) ?_
          refine AllReadyIn.cons rfl (fun K hK => ?_) AllReadyIn.nil
          go_simp
          refine hK _ _ ?_
          clear hK K
          try simp only [Act.put, List.setIfInBounds_toArray, List.set_cons_zero, List.set_cons_succ]
          refine wpAnyIn_ready (rs := [4]) (by kernel_rfl) (by simp) ?_
          refine AllReadyIn.cons rfl (fun K hK => ?_) AllReadyIn.nil
          go_simp
          refine hK _ _ ?_
          clear hK K
          try simp only [Act.put, List.setIfInBounds_toArray, List.set_cons_zero, List.set_cons_succ]
          refine wpAnyIn_ready (rs := [5]) (by kernel_rfl) (by simp) ?_
          refine AllReadyIn.cons rfl (fun K hK => ?_) AllReadyIn.nil
          go_simp
          refine hK _ _ ?_
          clear hK K
          try simp only [Act.put, List.setIfInBounds_toArray, List.set_cons_zero, List.set_cons_succ]
          refine wpAnyIn_ready (rs := [6]) (by kernel_rfl) (by simp) ?_
          refine AllReadyIn.cons rfl (fun K hK => ?_) AllReadyIn.nil
          rw [if_pos (by rfl)]
          refine wpIn_append_own_at _ (.tmp 14) (.tmp 19) 30 rfl (w.heap.size + 4) 32 iE _ 1 8 Tryd.underlying30 hiE hzE hsE hbE rfl (by omega) _ _ _ rfl hown6 ⟨W2.heap.size, 0, none⟩ 1 1 [.int .i64 c] rfl rfl (news_atC W2 _ rfl #[.int .i64 c] 32) (by simp [Value.oneCell']) (by unfold maxLen; omega) (by omega) hsz6 ?_
          intro v7 w7 ho7 hg7 hat7
          obtain ⟨a7, c7, rfl⟩ := own_shape ho7
          obtain ⟨hj7, hb7, hk7, ⟨u7, hc7⟩, hf7⟩ := hj2.add c1 hown hb6 ho7 hg7
          refine hK _ _ ?_
          clear hK K
          try simp only [Act.put, List.setIfInBounds_toArray, List.set_cons_zero, List.set_cons_succ]
          refine wpAnyIn_ready (rs := [7]) (by kernel_rfl) (by simp) ?_
          refine AllReadyIn.cons rfl (fun K hK => ?_) AllReadyIn.nil
          go_simp
          refine hK _ _ ?_
          clear hK K
          try simp only [Act.put, List.setIfInBounds_toArray, List.set_cons_zero, List.set_cons_succ]
          refine wpAnyIn_done (by kernel_rfl) ?_ _
          gi_wp2
          exact Fin.out _ _ hj7 ⟨hb7, hk7⟩ Hcs.out
        · go_simp
          refine hK _ _ ?_
          clear hK K
          try simp only [Act.put, List.setIfInBounds_toArray, List.set_cons_zero, List.set_cons_succ]
          refine wpAnyIn_ready (rs := [0, 3]) (by kernel_rfl) (by simp) ?_
          refine AllReadyIn.cons rfl (fun K hK => ?_) (AllReadyIn.cons rfl (fun K hK => ?_) AllReadyIn.nil)
          · go_simp
            refine hK _ _ ?_
            clear hK K
            try simp only [Act.put, List.setIfInBounds_toArray, List.set_cons_zero, List.set_cons_succ]
            refine wpAnyIn_ready (rs := [3]) (by kernel_rfl) (by simp) ?_
            refine AllReadyIn.cons rfl (fun K hK => ?_) AllReadyIn.nil
            go_simp
            refine hK _ _ ?_
            clear hK K
            try simp only [Act.put, List.setIfInBounds_toArray, List.set_cons_zero, List.set_cons_succ]
            refine wpAnyIn_ready (rs := [4]) (by kernel_rfl) (by simp) ?_
            refine AllReadyIn.cons rfl (fun K hK => ?_) AllReadyIn.nil
            go_simp
            refine hK _ _ ?_
            clear hK K
            try simp only [Act.put, List.setIfInBounds_toArray, List.set_cons_zero, List.set_cons_succ]
            refine wpAnyIn_ready (rs := [5]) (by kernel_rfl) (by simp) ?_
            refine AllReadyIn.cons rfl (fun K hK => ?_) AllReadyIn.nil
            go_simp
            refine hK _ _ ?_
            clear hK K
            try simp only [Act.put, List.setIfInBounds_toArray, List.set_cons_zero, List.set_cons_succ]
            refine wpAnyIn_ready (rs := [6]) (by kernel_rfl) (by simp) ?_
            refine AllReadyIn.cons rfl (fun K hK => ?_) AllReadyIn.nil
            rw [if_pos (by rfl)]
            refine wpIn_append_own_at _ (.tmp 14) (.tmp 19) 30 rfl (w.heap.size + 4) 32 iE _ 1 8 Tryd.underlying30 hiE hzE hsE hbE rfl (by omega) _ _ _ rfl hown6 ⟨W2.heap.size, 0, none⟩ 1 1 [.int .i64 c] rfl rfl (news_atC W2 _ rfl #[.int .i64 c] 32) (by simp [Value.oneCell']) (by unfold maxLen; omega) (by omega) hsz6 ?_
            intro v7 w7 ho7 hg7 hat7
            obtain ⟨a7, c7, rfl⟩ := own_shape ho7
            obtain ⟨hj7, hb7, hk7, ⟨u7, hc7⟩, hf7⟩ := hj2.add c1 hown hb6 ho7 hg7
            refine hK _ _ ?_
            clear hK K
            try simp only [Act.put, List.setIfInBounds_toArray, List.set_cons_zero, List.set_cons_succ]
            refine wpAnyIn_ready (rs := [7]) (by kernel_rfl) (by simp) ?_
            refine AllReadyIn.cons rfl (fun K hK => ?_) AllReadyIn.nil
            go_simp
            refine hK _ _ ?_
            clear hK K
            try simp only [Act.put, List.setIfInBounds_toArray, List.set_cons_zero, List.set_cons_succ]
            refine wpAnyIn_done (by kernel_rfl) ?_ _
            gi_wp2
            exact Fin.out _ _ hj7 ⟨hb7, hk7⟩ Hcs.out
          · go_simp
            refine hK _ _ ?_
            clear hK K
            try simp only [Act.put, List.setIfInBounds_toArray, List.set_cons_zero, List.set_cons_succ]
            refine wpAnyIn_ready (rs := [0, 4]) (by kernel_rfl) (by simp) ?_
            refine AllReadyIn.cons rfl (fun K hK => ?_) (AllReadyIn.cons rfl (fun K hK => ?_) AllReadyIn.nil)
            · go_simp
              refine hK _ _ ?_
              clear hK K
              try simp only [Act.put, List.setIfInBounds_toArray, List.set_cons_zero, List.set_cons_succ]
              refine wpAnyIn_ready (rs := [4]) (by kernel_rfl) (by simp) ?_
              refine AllReadyIn.cons rfl (fun K hK => ?_) AllReadyIn.nil
              go_simp
              refine hK _ _ ?_
              clear hK K
              try simp only [Act.put, List.setIfInBounds_toArray, List.set_cons_zero, List.set_cons_succ]
              refine wpAnyIn_ready (rs := [5]) (by kernel_rfl) (by simp) ?_
              refine AllReadyIn.cons rfl (fun K hK => ?_) AllReadyIn.nil
              go_simp
              refine hK _ _ ?_
              clear hK K
              try simp only [Act.put, List.setIfInBounds_toArray, List.set_cons_zero, List.set_cons_succ]
              refine wpAnyIn_ready (rs := [6]) (by kernel_rfl) (by simp) ?_
              refine AllReadyIn.cons rfl (fun K hK => ?_) AllReadyIn.nil
              rw [if_pos (by rfl)]
              refine wpIn_append_own_at _ (.tmp 14) (.tmp 19) 30 rfl (w.heap.size + 4) 32 iE _ 1 8 Tryd.underlying30 hiE hzE hsE hbE rfl (by omega) _ _ _ rfl hown6 ⟨W2.heap.size, 0, none⟩ 1 1 [.int .i64 c] rfl rfl (news_atC W2 _ rfl #[.int .i64 c] 32) (by simp [Value.oneCell']) (by unfold maxLen; omega) (by omega) hsz6 ?_
              intro v7 w7 ho7 hg7 hat7
              obtain ⟨a7, c7, rfl⟩ := own_shape ho7
              obtain ⟨hj7, hb7, hk7, ⟨u7, hc7⟩, hf7⟩ := hj2.add c1 hown hb6 ho7 hg7
              refine hK _ _ ?_
              clear hK K
              try simp only [Act.put, List.setIfInBounds_toArray, List.set_cons_zero, List.set_cons_succ]
              refine wpAnyIn_ready (rs := [7]) (by kernel_rfl) (by simp) ?_
              refine AllReadyIn.cons rfl (fun K hK => ?_) AllReadyIn.nil
              go_simp
              refine hK _ _ ?_
              clear hK K
              try simp only [Act.put, List.setIfInBounds_toArray, List.set_cons_zero, List.set_cons_succ]
              refine wpAnyIn_done (by kernel_rfl) ?_ _
              gi_wp2
              exact Fin.out _ _ hj7 ⟨hb7, hk7⟩ Hcs.out
            · go_simp
              refine hK _ _ ?_
              clear hK K
              try simp only [Act.put, List.setIfInBounds_toArray, List.set_cons_zero, List.set_cons_succ]
              refine wpAnyIn_ready (rs := [0, 5]) (by kernel_rfl) (by simp) ?_
              refine AllReadyIn.cons rfl (fun K hK => ?_) (AllReadyIn.cons rfl (fun K hK => ?_) AllReadyIn.nil)
              · go_simp
                refine hK _ _ ?_
                clear hK K
                try simp only [Act.put, List.setIfInBounds_toArray, List.set_cons_zero, List.set_cons_succ]
                refine wpAnyIn_ready (rs := [5]) (by kernel_rfl) (by simp) ?_
                refine AllReadyIn.cons rfl (fun K hK => ?_) AllReadyIn.nil
                go_simp
                refine hK _ _ ?_
                clear hK K
                try simp only [Act.put, List.setIfInBounds_toArray, List.set_cons_zero, List.set_cons_succ]
                refine wpAnyIn_ready (rs := [6]) (by kernel_rfl) (by simp) ?_
                refine AllReadyIn.cons rfl (fun K hK => ?_) AllReadyIn.nil
                rw [if_pos (by rfl)]
                refine wpIn_append_own_at _ (.tmp 14) (.tmp 19) 30 rfl (w.heap.size + 4) 32 iE _ 1 8 Tryd.underlying30 hiE hzE hsE hbE rfl (by omega) _ _ _ rfl hown6 ⟨W2.heap.size, 0, none⟩ 1 1 [.int .i64 c] rfl rfl (news_atC W2 _ rfl #[.int .i64 c] 32) (by simp [Value.oneCell']) (by unfold maxLen; omega) (by omega) hsz6 ?_
                intro v7 w7 ho7 hg7 hat7
                obtain ⟨a7, c7, rfl⟩ := own_shape ho7
                obtain ⟨hj7, hb7, hk7, ⟨u7, hc7⟩, hf7⟩ := hj2.add c1 hown hb6 ho7 hg7
                refine hK _ _ ?_
                clear hK K
                try simp only [Act.put, List.setIfInBounds_toArray, List.set_cons_zero, List.set_cons_succ]
                refine wpAnyIn_ready (rs := [7]) (by kernel_rfl) (by simp) ?_
                refine AllReadyIn.cons rfl (fun K hK => ?_) AllReadyIn.nil
                go_simp
                refine hK _ _ ?_
                clear hK K
                try simp only [Act.put, List.setIfInBounds_toArray, List.set_cons_zero, List.set_cons_succ]
                refine wpAnyIn_done (by kernel_rfl) ?_ _
                gi_wp2
                exact Fin.out _ _ hj7 ⟨hb7, hk7⟩ Hcs.out
              · go_simp
                refine hK _ _ ?_
                clear hK K
                try simp only [Act.put, List.setIfInBounds_toArray, List.set_cons_zero, List.set_cons_succ]
                refine wpAnyIn_ready (rs := [0]) (by kernel_rfl) (by simp) ?_
                refine AllReadyIn.cons rfl (fun K hK => ?_) AllReadyIn.nil
                go_simp
                refine hK _ _ ?_
                clear hK K
                try simp only [Act.put, List.setIfInBounds_toArray, List.set_cons_zero, List.set_cons_succ]
                refine wpAnyIn_ready (rs := [6]) (by kernel_rfl) (by simp) ?_
                refine AllReadyIn.cons rfl (fun K hK => ?_) AllReadyIn.nil
                rw [if_pos (by rfl)]
                refine wpIn_append_own_at _ (.tmp 14) (.tmp 19) 30 rfl (w.heap.size + 4) 32 iE _ 1 8 Tryd.underlying30 hiE hzE hsE hbE rfl (by omega) _ _ _ rfl hown6 ⟨W2.heap.size, 0, none⟩ 1 1 [.int .i64 c] rfl rfl (news_atC W2 _ rfl #[.int .i64 c] 32) (by simp [Value.oneCell']) (by unfold maxLen; omega) (by omega) hsz6 ?_
                intro v7 w7 ho7 hg7 hat7
                obtain ⟨a7, c7, rfl⟩ := own_shape ho7
                obtain ⟨hj7, hb7, hk7, ⟨u7, hc7⟩, hf7⟩ := hj2.add c1 hown hb6 ho7 hg7
                refine hK _ _ ?_
                clear hK K
                try simp only [Act.put, List.setIfInBounds_toArray, List.set_cons_zero, List.set_cons_succ]
                refine wpAnyIn_ready (rs := [7]) (by kernel_rfl) (by simp) ?_
                refine AllReadyIn.cons rfl (fun K hK => ?_) AllReadyIn.nil
                go_simp
                refine hK _ _ ?_
                clear hK K
                try simp only [Act.put, List.setIfInBounds_toArray, List.set_cons_zero, List.set_cons_succ]
                refine wpAnyIn_done (by kernel_rfl) ?_ _
                gi_wp2
                exact Fin.out _ _ hj7 ⟨hb7, hk7⟩ Hcs.out
  · rintro e W2 ⟨⟨v, rfl⟩, hj⟩
    have hst : rec.state ≠ .busy := by rw [hrec]; simp
    have hpe : rec.pending = none := by rw [hrec]
    have hend := run_endLoop (P := Tryd.prog) hj.rc hst
    have hj2 := hj.put { rec with state := .exhausted }
    obtain ⟨W3, hW3⟩ : ∃ W3, W2.putObj (w.heap.size + 3) (.loop { rec with state := .exhausted }) = W3 := ⟨_, rfl⟩
    rw [hW3] at hj2 hend
    rw [hpe] at hend
    refine ⟨none, W3, hend, ?_⟩
    clear hW3
    obtain ⟨ov, c1, hown⟩ := hj2.own
    obtain ⟨ao, co, rfl⟩ := own_shape hown
    clear hrec hW1 hend hst hpe
    gi_wp2
    have hK := hj2.df
    have hlo := hj2.lo
    refine ⟨by simp, .inl ⟨_, _, rfl, run_takeDeferred hK, ?_⟩⟩
    refine ⟨_, by simp [results, Tryd.results9, go_sem]; rfl, ?_⟩
    refine ⟨_, rfl, ?_, ?_⟩
    · exact Row.of_owns (own_keep hown fun g e => World.putObj_heap_other (by have := (own_blk hown e).2; omega))
    · exact hlo.trans (belowK_b (w := w) (Nat.le_refl _) W3 (w.heap.size + 2) _ (.deferred none) (by omega) hK rfl rfl)

/-- cause.Codes. -/
theorem ccodes_any (L : List (Bool × Int)) (v : Value) (w : World) (h : TC w v L) (hlen : L.length ≤ 1000) : Calls Tryd.prog 9 #[v] w (CodesP w (codesL L)) := by
  obtain ⟨xs, h1, h2, h3⟩ := h.chainC
  rw [← h2]
  exact ccodes_chain v xs w h1 (by omega)
end SCCodes

end Go.Proofs.YtppdbadigecegaaDoor

