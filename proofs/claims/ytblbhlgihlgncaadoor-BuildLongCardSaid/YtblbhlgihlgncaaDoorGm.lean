/- The document's fill: a struct's words, and all that they refer to. -/
import Derived.Test.YtblbhlgihlgncaaDoorGl
import Derived.Test.YtblbhlgihlgncaaDoorGk
import Derived.Test.YtblbhlgihlgncaaDoorGg
import Derived.Test.YtblbhlgihlgncaaDoorGf
set_option linter.unusedVariables false
set_option linter.unusedSimpArgs false
namespace Go.Proofs.YtblbhlgihlgncaaDoor
section SFill
open Go.RowKit

/-- The words have gone on from w0 to w. -/
structure Fil (w0 w : World) (base : Nat) (wv0 wv : Value) (ws : List (BitVec 64)) : Prop where
  own : w.ownsRow base 28 1 wv ws.length (ws.map U)
  below : Below base w0 w
  at_ : wv.ownBlock = wv0.ownBlock ∨ ∃ g, wv.ownBlock = some g ∧ w0.heap.size ≤ g
  keep : ∀ b, b < w0.heap.size → wv0.ownBlock ≠ some b → w.heap[b]? = w0.heap[b]?
theorem Fil.refl {w : World} {base : Nat} {wv : Value} {ws : List (BitVec 64)} (h : w.ownsRow base 28 1 wv ws.length (ws.map U)) : Fil w w base wv wv ws := ⟨h, Below.refl _ _, .inl rfl, fun _ _ _ => rfl⟩
theorem Fil.trans {w0 w1 w2 : World} {base : Nat} {wv0 wv1 wv2 : Value} {ws1 ws2 : List (BitVec 64)} (h : Fil w0 w1 base wv0 wv1 ws1) (k : Fil w1 w2 base wv1 wv2 ws2) : Fil w0 w2 base wv0 wv2 ws2 := by
  refine ⟨k.own, h.below.trans k.below, ?_, fun b h1 h3 => ?_⟩
  · rcases k.at_ with e | ⟨g, e, hg⟩
    · rw [e]; exact h.at_
    · exact .inr ⟨g, e, Nat.le_trans h.below.size hg⟩
  · refine (k.keep b (Nat.lt_of_lt_of_le h1 h.below.size) fun e => ?_).trans (h.keep b h1 h3)
    rcases h.at_ with e1 | ⟨g, e1, hg⟩
    · exact h3 (e1 ▸ e)
    · rw [e1] at e
      have := Option.some.inj e
      omega
theorem Fil.later {w0 w w' : World} {base : Nat} {wv0 wv : Value} {ws : List (BitVec 64)} (h : Fil w0 w base wv0 wv ws) (hB : base ≤ w.heap.size) (hb : Below w.heap.size w w') : Fil w0 w' base wv0 wv ws :=
  ⟨own_beneath h.own hb, h.below.trans (hb.mono hB), h.at_, fun b h1 h3 => (hb.block b (Nat.lt_of_lt_of_le h1 h.below.size)).trans (h.keep b h1 h3)⟩
theorem Fil.before {w0 w1 w : World} {base : Nat} {wv0 wv : Value} {ws : List (BitVec 64)} (hb : Below w0.heap.size w0 w1) (hB : base ≤ w0.heap.size) (h : Fil w1 w base wv0 wv ws) : Fil w0 w base wv0 wv ws :=
  ⟨h.own, (hb.mono hB).trans h.below, h.at_.imp id (fun ⟨g, e, hg⟩ => ⟨g, e, Nat.le_trans hb.size hg⟩), fun b h1 h3 => (h.keep b (Nat.lt_of_lt_of_le h1 hb.size) h3).trans (hb.block b h1)⟩
theorem Fil.lt {w0 w : World} {base : Nat} {wv0 wv : Value} {ws : List (BitVec 64)} (h : Fil w0 w base wv0 wv ws) {g : Nat} (hg : wv.ownBlock = some g) : g < w.heap.size ∧ base ≤ g := ⟨(own_blk h.own hg).1.lt, (own_blk h.own hg).2⟩
theorem own_place {w : World} {base : Nat} {wv : Value} {ws : List (BitVec 64)} (h : w.ownsRow base 28 1 wv ws.length (ws.map U)) (h0 : 0 < ws.length) : ∃ g cap, wv = .slice (some ⟨g, 0, none⟩) ws.length cap ∧ base ≤ g ∧ g < w.heap.size ∧ ws.length ≤ cap ∧ cap ≤ maxLen := by
  rcases h.2 with ⟨_, e0⟩ | ⟨g, c, _, rfl, hgb, hg, hc1, hc2, _⟩
  · omega
  · exact ⟨g, c, rfl, hgb, (Array.getElem?_eq_some_iff.1 hg).1, hc1, hc2⟩
/-- A word is set. -/
theorem Fil.word {w0 w : World} {base g cap n : Nat} {wv0 : Value} {ws : List (BitVec 64)} (h : Fil w0 w base wv0 (.slice (some ⟨g, 0, none⟩) n cap) ws) (hn : n = ws.length) {o : Nat} (ho : o < n) :
    ∃ y : BitVec 64, w.cell? ⟨g, o, none⟩ = some (U y) ∧ w.frozen? ⟨g, o, none⟩ = false ∧ ∀ v : BitVec 64, Fil w0 (w.setCell ⟨g, o, none⟩ (U v)) base wv0 (.slice (some ⟨g, 0, none⟩) n cap) (ws.set o v) := by
  subst hn
  have hg := h.lt (g := g) rfl
  have hc := h.own.cellAt o (by omega)
  rw [List.getElem?_map, List.getElem?_eq_getElem ho] at hc
  refine ⟨ws[o], hc, h.own.frozenAt o, fun v => ⟨?_, h.below.setCell (p := ⟨g, o, none⟩) hg.2 (U v), h.at_, fun b h1 h3 => ?_⟩⟩
  · have := own_setN h.own o (U v)
    rw [← List.map_set] at this
    rw [List.length_set]
    exact this
  · have hne : b ≠ g := fun e => by
      rcases h.at_ with e1 | ⟨g', e1, hg'⟩
      · exact h3 (by rw [← e1, e]; rfl)
      · have : g = g' := Option.some.inj (show some g = some g' from e1)
        omega
    rw [Below.heap_setCell _ _ _ _ hne]
    exact h.keep b h1 h3
/-- Words are laid behind all. -/
theorem Fil.app {w0 w w' : World} {base n : Nat} {wv0 wv wv' : Value} {ws ys : List (BitVec 64)} (h : Fil w0 w base wv0 wv ws) (hB : base ≤ w.heap.size) (ho : w'.ownsRow base 28 1 wv' n ((ws ++ ys).map U)) (hn : n = (ws ++ ys).length) (hg : w.grownBy w' wv.ownBlock) (hat : wv'.ownBlock = wv.ownBlock ∨ wv'.ownBlock = some w.heap.size) : Fil w0 w' base wv0 wv' (ws ++ ys) := by
  subst hn
  have hlt := fun g e => h.lt (g := g) e
  refine ⟨ho, h.below.trans ((Below.refl base w).grown hg hB fun q e => (hlt q e).2), ?_, fun b h1 h3 => ?_⟩
  · rcases hat with e | e
    · rw [e]; exact h.at_
    · exact .inr ⟨_, e, h.below.size⟩
  · refine (hg.block b (Nat.lt_of_lt_of_le h1 h.below.size) fun e => ?_).trans (h.keep b h1 h3)
    rcases h.at_ with e1 | ⟨g', e1, hg'⟩
    · exact h3 (by rw [← e1, ← e])
    · rw [e1] at e
      have := Option.some.inj e
      omega

def FillP (w : World) (base : Nat) (wv : Value) (ws : List (BitVec 64)) (e : Ending) (w' : World) : Prop := ∃ wv', e = .returned wv' ∧ Fil w w' base wv wv' ws
def FillC (s : Schema) (sv : Value) (d left : Nat) : Prop := ∀ (t : Nat) (v : St d) (cs : List Value) (p base : Nat) (wv : Value) (ws : List (BitVec 64)) (w0 w : World), Sch w0 sv s → t < s.length → codeT s d left t v = 0 → RdS d w0 cs v →
    w0.heap.size ≤ base → Below base w0 w → base ≤ w.heap.size → w.ownsRow base 28 1 wv ws.length (ws.map U) → 0 < ws.length → p + nkT d v ≤ ws.length → ws.length + belowT d v ≤ 1000 →
    Calls Tryd.prog 51 #[sv, .int .i64 t, .agg cs.toArray, wv, .int .i64 p] w (FillP w base wv (bldW s d t v ws p))

set_option maxRecDepth 100000 in
set_option maxHeartbeats 16000000 in
theorem fill_step (s : Schema) (hr : rightB s = true) (sv : Value) (d left : Nat) (ihd : FillC s sv d (left - 1)) : FillC s sv (d + 1) left := by
  intro t v cs p base wv ws w0 w hs ht hc h h0 hb0 hbw hown hlw hp hlen
  obtain ⟨iU, hiU, hzU, hsU, hbU⟩ := info_parts (show (Tryd.prog.info? 28).map (fun i => (i.zero, i.size, i.bytes)) = some (some (.int .u64 0), 1, 8) by kernel_rfl)
  have ih := hid ihd
  have hf := (code_struct hc).2.2.2.2.2
  have hnT := (code_struct hc).2.2.2.2.1
  obtain ⟨a2, p2, a, cap, rfl, -, -, hk, -, hkm⟩ := RdN.open h
  obtain ⟨l, hl3⟩ := get_lt (l := s) (i := t) ht
  have hTl := typeL_at hl3
  obtain ⟨bs, offs, al, capl, hsv, hbs, hcl, hfl, hlm, hlc, hcm⟩ : ∃ b off a2 cap2, (∃ n c, sv = .slice (some ⟨b, off, none⟩) n c ∧ n = s.length ∧ n ≤ c ∧ c ≤ maxLen) ∧ b < w0.heap.size ∧ w0.cell? ⟨b, off + t, none⟩ = some (.slice a2 l.length cap2) ∧ Flds w0 (.slice a2 l.length cap2) l ∧ l.length ≤ maxLen ∧ l.length ≤ cap2 ∧ cap2 ≤ maxLen := by
    obtain ⟨sa, sc, rfl, g1, g2, g3⟩ := hs.shape
    obtain ⟨b, off, a2, cap2, rfl, k1, k2, k3, k4⟩ := hs.at_ hl3
    exact ⟨b, off, a2, cap2, ⟨_, sc, rfl, rfl, g1, g2⟩, k1, k2, k3, k4⟩
  obtain ⟨sn, sc, rfl, hsn, hsc, hscm⟩ := hsv
  have Hsn := hid hsn
  rw [← hsn] at ht
  obtain ⟨ml, hml⟩ : ∃ ml, ml = l.length := ⟨_, rfl⟩
  rw [← hml] at hcl hlm hlc
  unfold maxLen at hlm hcm hscm
  obtain ⟨N, hN⟩ : ∃ N, N = (Node.kids v).length := ⟨_, rfl⟩
  have HN := hid hN
  have hNm := hid (show N = ml by rw [hN, hnT, hTl, hml])
  have hpN : p + N ≤ ws.length := by rw [hN]; exact hp
  have hln : ws.length + sumL (fszT d) (Node.kids v) ≤ 1000 := hlen
  rw [← hN] at hk hkm ⊢
  obtain ⟨w1, hw1, hb1, hz1, hV⟩ := TB.make w (U (Node.num v)) (.string (Node.bytes v)) (.slice a2 (Node.nums v).length p2) (.slice a N cap) 32
  obtain ⟨F, hF⟩ : ∃ F : Nat → Node (St d) → List (BitVec 64) → List (BitVec 64), F = fun (i : Nat) k w => fieldW (typeL s (fieldP s t i).2).length (bldW s d (fieldP s t i).2) (fieldP s t i).1 k (p + i) w := ⟨_, rfl⟩
  have Hgoal := hid (show bldW s (d + 1) t v ws p = foldI F 0 (Node.kids v) ws by rw [hF]; rfl)
  have HF := hid hF
  have Hlen := hid (show ∀ i, i ≤ N → (foldI F 0 ((Node.kids v).take i) ws).length = ws.length + sumL (fszT d) ((Node.kids v).take i) from fun i hi => by rw [hF]; exact fields_len hf ws p i (by rw [← HN.out]; exact hi))
  have Hfit := hid hf
  have Hs0 := hid hs
  have HB0 := hid hb0
  have Hk := hid hk
  have Hfl := hid hfl
  have Hl := hid hl3
  have HTl := hid hTl
  have Hml := hid hml
  have hbw1 : Below base w w1 := hb1.mono hbw
  have hFil : Fil w w1 base wv wv ws := (Fil.refl hown).later hbw hb1
  have Hown0 := hid fun g (e : wv.ownBlock = some g) => (own_blk hown e).1.lt
  have HV := hid fun (W : World) (h1 : W.heap[w.heap.size]? = w1.heap[w.heap.size]?) (h2 : w.heap.size < W.heap.size) => hV.of_block h1 h2
  have hD1 := hV.lt
  have hRef := hid fun (a b : Int) W => rref_any a b W
  clear hs hk hf hF hown hV hz1 hb1 hb0 hfl hl3 hTl hml hN h hc hnT hsn hlen hp ihd
  go_enter Tryd.func51, Tryd.ntmps51
  go_wp2_with fail
  clear hw1
  have hFil1 : Fil w1 w1 base wv wv ws := Fil.refl hFil.own
  go_loopw [11, 3] (fun i u wr => ∃ (k : Nat) (wvr : Value), k ≤ N ∧ i = .int .i64 k ∧ wvr = u ∧ Fil w1 wr base wv wvr (foldI F 0 ((Node.kids v).take k) ws)) (fun i _ _ => N - (intOf i).toNat)
  case atStart => exact ⟨0, wv, Nat.zero_le _, rfl, rfl, hFil1⟩
  case round =>
    clear hFil1
    obtain ⟨k, wvr, hkN, rfl, rfl, hFr⟩ := hrel
    have hbr := HB0.out.trans (hbw1.trans hFr.below)
    have hcs := (hbr.cell (Nat.lt_of_lt_of_le hbs h0)).trans hcl
    have hV4 := HV.out wr (hFr.keep _ hD1 (fun e => by have := Hown0.out _ e; omega)) (Nat.lt_of_lt_of_le hD1 hFr.below.size)
    have x3 := hV4.c3
    by_cases hlt : k < N
    · have hkl : k < ml := by rw [← hNm.out]; exact hlt
      obtain ⟨fk, hfk⟩ := get_lt (l := Node.kids v) (i := k) (by rw [← HN.out]; exact hlt)
      obtain ⟨b, off, a4, p4, a5, p5, rfl, hbb, q0, q1, q2, q3, hfb, hnum, hkk, hrd, hfnn, hfm⟩ := Kids.at_ Hk.out hfk
      have hbb2 : b < base := Nat.lt_of_lt_of_le hbb h0
      replace q0 := (hbr.cell hbb2).trans q0
      replace q1 := (hbr.cell hbb2).trans q1
      replace q2 := (hbr.cell hbb2).trans q2
      replace q3 := (hbr.cell hbb2).trans q3
      obtain ⟨hb, hx⟩ := Hfit.out k fk hfk
      obtain ⟨⟨kd, ty⟩, hpf⟩ := get_lt (l := l) (i := k) (by rw [← Hml.out]; exact hkl)
      obtain ⟨bl, offl, hal, hbbl, r0, r1⟩ := Hfl.out.at_ hpf
      subst hal
      simp only at r0 r1
      replace r0 := (hbr.cell (Nat.lt_of_lt_of_le hbbl h0)).trans r0
      replace r1 := (hbr.cell (Nat.lt_of_lt_of_le hbbl h0)).trans r1
      obtain ⟨-, -, hty0, htyn, -⟩ := right_at hr Hl.out hpf
      simp only at hty0 htyn
      obtain ⟨tn, rfl⟩ : ∃ tn : Nat, ty = (tn : Int) := ⟨ty.toNat, by omega⟩
      have htn : tn < sn := by rw [Hsn.out]; omega
      have hFp : fieldP s t k = (kd, (tn : Int)) := fieldP_at (by rw [HTl.out]; exact hpf)
      have hFp2 := hid hFp
      rw [hFp] at hb hx
      simp only at hb hx
      have hlk := Hlen.out k hkN
      have hle := sumL_take_at (fszT d) (Node.kids v) k fk hfk
      have Hnext := hid ((foldI_succ F (Node.kids v) k fk ws hfk).trans (show F k fk (foldI F 0 ((Node.kids v).take k) ws) = fieldW (typeL s tn).length (bldW s d tn) kd fk (p + k) (foldI F 0 ((Node.kids v).take k) ws) by rw [HF.out]; simp only [hFp]))
      generalize foldI F 0 ((Node.kids v).take k) ws = WS at *
      obtain ⟨g, c, rfl, hgb, hgl, hKc, hcmx⟩ := own_place hFr.own (by omega)
      obtain ⟨K, hK⟩ : ∃ K, K = WS.length := ⟨_, rfl⟩
      have HK := hid hK
      rw [← hK] at hlk hFr hKc ⊢
      unfold maxLen at hcmx
      have hKle : K + fszT d fk ≤ 1000 := by omega
      have hpk : p + k < K := by omega
      clear hlk hle
      obtain ⟨R, hR⟩ : ∃ R, R = fk.nums.length := ⟨_, rfl⟩
      obtain ⟨M, hM⟩ : ∃ M, M = fk.kids.length := ⟨_, rfl⟩
      have HR := hid hR
      have HM := hid hM
      rw [← hR] at q2 hrd hnum hfnn
      rw [← hM] at q3 hrd hkk hfm
      have hnum' : Row w0 1 (.slice a4 R p4) fk.nums.length (fk.nums.map U) := by rw [← hR]; exact hnum
      have hbwr : base ≤ wr.heap.size := Nat.le_trans hbw (Nat.le_trans hbw1.size hFr.below.size)
      have Hb := hid hb
      have Hx := hid hx
      clear hK hR hM hnum
      obtain ⟨wf, hwf, hbf, hltf, hboxf⟩ := boxed wr #[.int .i64 kd, .int .i64 (tn : Int)] 24
      obtain ⟨wk, hwk, hbk, hltk, hboxk⟩ := boxed wf #[U fk.num, .string fk.bytes, .slice a4 R p4, .slice a5 M p5] 32
      have hbwk : Below wr.heap.size wr wk := via hbf hbk
      have f0 : wf.cell? ⟨wr.heap.size, 0, none⟩ = some (.int .i64 kd) := hboxf 0
      have f1 : wf.cell? ⟨wr.heap.size, 1, none⟩ = some (.int .i64 (tn : Int)) := hboxf 1
      have f2 := (hbk.cell hltf).trans f0
      have f3 := (hbk.cell hltf).trans f1
      have x4 := (hbf.cell (p := ⟨w.heap.size, 3, none⟩) hV4.lt).trans x3
      have k0 : wk.cell? ⟨wf.heap.size, 0, none⟩ = some (U fk.num) := hboxk 0
      have k1 : wk.cell? ⟨wf.heap.size, 1, none⟩ = some (.string fk.bytes) := hboxk 1
      have k2 : wk.cell? ⟨wf.heap.size, 2, none⟩ = some (.slice a4 R p4) := hboxk 2
      have k3 : wk.cell? ⟨wf.heap.size, 3, none⟩ = some (.slice a5 M p5) := hboxk 3
      have hbb3 : b < wr.heap.size := Nat.lt_of_lt_of_le hbb2 hbwr
      have hFk := hFr.later hbwr hbwk
      have s0 := (hbf.cell hbb3).trans q0
      have s1 := (hbf.cell hbb3).trans q1
      have s2 := (hbf.cell hbb3).trans q2
      have s3 := (hbf.cell hbb3).trans q3
      have hgf : g ≠ wf.heap.size := by omega
      have hgr : g ≠ wr.heap.size := by omega
      have hbwk2 : base ≤ wk.heap.size := Nat.le_trans hbwr hbwk.size
      clear hboxf hboxk hb hx hFp hpf hfk hFr
      by_cases e1 : kd = 1
      · subst e1
        have hFw := hid (show fieldW (typeL s tn).length (bldW s d tn) 1 fk (p + k) WS = WS.set (p + k) fk.num by unfold fieldW; rw [if_pos rfl])
        obtain ⟨y, y1, y2, y3⟩ := hFk.word HK.out hpk
        have hfin := hid (y3 fk.num)
        clear y3 hFk
        go_wp2_with fail
        go_roundw
        case rel => exact ⟨k + 1, _, by omega, by go_num, rfl, by rw [Hnext.out, hFw.out]; exact hfin.out⟩
        case measure => simp [intOf]; omega
      have d1 : (kd == 1) = false := by rw [beq_eq_false_iff_ne]; exact e1
      by_cases e2 : kd = 2
      · subst e2
        have hn40 := (hasB_bytes Hb.out rfl).2.2.2
        have hwl : (wordsV fk.bytes.data.toList).length = (fk.bytes.size + 7) / 8 := by rw [wordsV_len, bytes_len]
        have Hcn := hid (show (countV fk.bytes.size).toNat = (wordsV fk.bytes.data.toList).length by rw [wordsV_length, bytes_len])
        have hFw := hid (show fieldW (typeL s tn).length (bldW s d tn) 2 fk (p + k) WS = layW (p + k) fk.bytes.size (wordsV fk.bytes.data.toList) WS by unfold fieldW; rw [if_neg (by decide), if_pos rfl])
        by_cases hz : fk.bytes.size = 0
        · have hstr := bytes_nil hz
          have hfin := hid (show Fil w1 wk base wv (.slice (some ⟨g, 0, none⟩) K c) (layW (p + k) fk.bytes.size (wordsV fk.bytes.data.toList) WS) by rw [layW, if_pos hz]; exact hFk)
          clear hFk hwl hz
          go_wp2_with fail
          go_roundw
          case rel => exact ⟨k + 1, _, by omega, by go_num, rfl, by rw [Hnext.out, hFw.out]; exact hfin.out⟩
          case measure => simp [intOf]; omega
        · have hstr : fk.bytes.toList.isEmpty = false := by have := bytes_ne hz; simpa using this
          obtain ⟨y, y1, y2, y3⟩ := hFk.word HK.out hpk
          have hwords := hid fun W => rwords_any fk.bytes W (by omega)
          obtain ⟨w5, hw5⟩ : ∃ w5, wk.setCell ⟨g, p + k, none⟩ (U (refV ((K : Int) - ((p : Int) + (k : Int))) fk.bytes.size)) = w5 := ⟨_, rfl⟩
          have h5 := y3 (refV ((K : Int) - ((p : Int) + (k : Int))) fk.bytes.size)
          have j1 : w5.cell? ⟨wf.heap.size, 1, none⟩ = some (.string fk.bytes) := by rw [← hw5]; exact (World.cell?_setCell_other _ _ _ _ (by simp [hgf])).trans k1
          rw [hw5] at h5
          have hs5 : base ≤ w5.heap.size := by rw [← hw5]; simpa [World.setCell] using hbwk2
          have Hlay := hid (show layW (p + k) fk.bytes.size (wordsV fk.bytes.data.toList) WS = WS.set (p + k) (refV ((K : Int) - ((p : Int) + (k : Int))) fk.bytes.size) ++ wordsV fk.bytes.data.toList by rw [layW, if_neg hz, ← HK.out, Int.natCast_add])
          clear y3 hFk
          go_wp2_with fail
          ((refine (hRef.out _ _ _).mono ?_); rintro r5 wk ⟨rfl, rfl⟩)
          go_wp2_with fail
          ((refine (hwords.out _).mono ?_); rintro r6 w6 ⟨vw, rfl, hb6, hrw⟩)
          rw [Hcn.out] at hrw
          obtain ⟨by_, offy, capy, rfl, hy5, hy6, hy7, hyc⟩ := hrw.cons (by omega)
          have h6 := h5.later hs5 hb6
          have hs6 : base ≤ w6.heap.size := Nat.le_trans hs5 hb6.size
          have hsl : (WS.set (p + k) (refV ((K : Int) - ((p : Int) + (k : Int))) fk.bytes.size)).length = K := by rw [List.length_set]; exact HK.out.symm
          have hown6 := h6.own
          rw [hsl] at hown6
          obtain ⟨m, hm⟩ : ∃ m, m = (wordsV fk.bytes.data.toList).length := ⟨_, rfl⟩
          have Hm := hid hm
          rw [← hm] at hy5 hyc hwl ⊢
          have hm40 : m ≤ 40 := by omega
          have hnl : ((wordsV fk.bytes.data.toList).map U).length = m * 1 := by rw [List.length_map, hm]; omega
          have hone : ∀ u ∈ (wordsV fk.bytes.data.toList).map U, u.oneCell' = true := fun u hu => by obtain ⟨x, _, rfl⟩ := List.mem_map.1 hu; rfl
          have hnews : ∀ j u, ((wordsV fk.bytes.data.toList).map U)[j]? = some u → w6.cell? ((⟨by_, offy, none⟩ : Addr).add j) = some u := fun j u e => by
            have hj : j < m := by have := (List.getElem?_eq_some_iff.1 e).1; rw [List.length_map, ← hm] at this; exact this
            rw [Addr.add_lit, hyc j (by omega)]; exact e
          have Hsl := hid hsl
          have H6 := hid h6
          clear hm hyc hsl hrw h5 h6 hw5 j1 hwl hz
          go_wp2_with (at_builtin; go_must (refine wpList_append_own_at _ rfl (.tmp 117) (.tmp 120) 29 rfl base 28 iU _ 1 8 Tryd.underlying29 hiU hzU hsU hbU rfl (by omega) _ K _ rfl hown6 ⟨by_, offy, none⟩ m capy _ rfl hnl hnews hone (by unfold maxLen; omega) (by omega) hs6 ?_); intro v7 w7 ho7 hg7 _ hat7; obtain ⟨a7, c7, rfl⟩ := own_shape ho7)
          have hfin := hid (H6.out.app hs6 (by rw [List.map_append]; exact ho7) (by rw [List.length_append, Hsl.out, Hm.out]) hg7 hat7)
          go_roundw
          case rel => exact ⟨k + 1, _, by omega, by go_num, rfl, by rw [Hnext.out, hFw.out, Hlay.out]; exact hfin.out⟩
          case measure => simp [intOf]; omega
      have d2 : (kd == 2) = false := by rw [beq_eq_false_iff_ne]; exact e2
      by_cases e3 : kd = 3
      · subst e3
        have hn12 := (hasB_nums Hb.out rfl).2.2.2
        rw [← HR.out] at hn12
        have hFw := hid (show fieldW (typeL s tn).length (bldW s d tn) 3 fk (p + k) WS = layW (p + k) fk.nums.length fk.nums WS by unfold fieldW; rw [if_neg (by decide), if_neg (by decide), if_pos rfl])
        by_cases hz : R = 0
        · have hfin := hid (show Fil w1 wk base wv (.slice (some ⟨g, 0, none⟩) K c) (layW (p + k) fk.nums.length fk.nums WS) by rw [layW, if_pos (by rw [← HR.out]; exact hz)]; exact hFk)
          clear hFk hnum'
          subst hz
          go_wp2_with fail
          go_roundw
          case rel => exact ⟨k + 1, _, by omega, by go_num, rfl, by rw [Hnext.out, hFw.out]; exact hfin.out⟩
          case measure => simp [intOf]; omega
        · have hRp : 0 < R := by omega
          obtain ⟨by_, offy, capy, e, hy5, hy6, hy7, hyc⟩ := hnum'.cons (by rw [← HR.out]; omega)
          simp only [Value.slice.injEq] at e
          obtain ⟨rfl, -, rfl⟩ := e
          obtain ⟨y, y1, y2, y3⟩ := hFk.word HK.out hpk
          obtain ⟨w5, hw5⟩ : ∃ w5, wk.setCell ⟨g, p + k, none⟩ (U (refV ((K : Int) - ((p : Int) + (k : Int))) (R : Int))) = w5 := ⟨_, rfl⟩
          have h5 := y3 (refV ((K : Int) - ((p : Int) + (k : Int))) (R : Int))
          have j2 : w5.cell? ⟨wf.heap.size, 2, none⟩ = some (.slice (some ⟨by_, offy, none⟩) R p4) := by rw [← hw5]; exact (World.cell?_setCell_other _ _ _ _ (by simp [hgf])).trans k2
          rw [hw5] at h5
          have hs5 : base ≤ w5.heap.size := by rw [← hw5]; simpa [World.setCell] using hbwk2
          have Hlay := hid (show layW (p + k) fk.nums.length fk.nums WS = WS.set (p + k) (refV ((K : Int) - ((p : Int) + (k : Int))) (R : Int)) ++ fk.nums by rw [layW, if_neg (by rw [← HR.out]; exact hz), ← HK.out, Int.natCast_add, ← HR.out])
          have hgy : by_ ≠ g := by omega
          have hnl : (fk.nums.map U).length = R * 1 := by rw [List.length_map, ← HR.out]; omega
          have hone : ∀ u ∈ fk.nums.map U, u.oneCell' = true := fun u hu => by obtain ⟨x, _, rfl⟩ := List.mem_map.1 hu; rfl
          have hnews : ∀ j u, (fk.nums.map U)[j]? = some u → w5.cell? ((⟨by_, offy, none⟩ : Addr).add j) = some u := fun j u e => by
            have hj : j < fk.nums.length := by have := (List.getElem?_eq_some_iff.1 e).1; rw [List.length_map] at this; exact this
            rw [Addr.add_lit, ← hw5, World.cell?_setCell_other _ _ _ _ (by simp [Ne.symm hgy]), hbwk.cell (p := ⟨by_, offy + j, none⟩) (by show by_ < _; omega), hbr.cell (p := ⟨by_, offy + j, none⟩) (by show by_ < _; omega), hyc j (by omega)]; exact e
          have hsl : (WS.set (p + k) (refV ((K : Int) - ((p : Int) + (k : Int))) (R : Int))).length = K := by rw [List.length_set]; exact HK.out.symm
          have hown5 := h5.own
          rw [hsl] at hown5
          have Hsl := hid hsl
          have H5 := hid h5
          clear y3 hFk hyc hsl h5 hz hnum' hy5
          go_wp2_with fail
          ((refine (hRef.out _ _ _).mono ?_); rintro r5 wk ⟨rfl, rfl⟩)
          go_wp2_with (at_builtin; go_must (refine wpList_append_own_at _ rfl (.tmp 138) (.tmp 140) 29 rfl base 28 iU _ 1 8 Tryd.underlying29 hiU hzU hsU hbU rfl (by omega) _ K _ rfl hown5 ⟨by_, offy, none⟩ R p4 _ rfl hnl hnews hone (by unfold maxLen; omega) (by omega) hs5 ?_); intro v7 w7 ho7 hg7 _ hat7; obtain ⟨a7, c7, rfl⟩ := own_shape ho7)
          have hfin := hid (H5.out.app hs5 (by rw [List.map_append]; exact ho7) (by rw [List.length_append, Hsl.out, ← HR.out]) hg7 hat7)
          go_roundw
          case rel => exact ⟨k + 1, _, by omega, by go_num, rfl, by rw [Hnext.out, hFw.out, Hlay.out]; exact hfin.out⟩
          case measure => simp [intOf]; omega
      have d3 : (kd == 3) = false := by rw [beq_eq_false_iff_ne]; exact e3
      have hm12 := (hasB_kids Hb.out e1 e2 e3).2.2.2.2
      have hfz : fszT d fk = (fk.bytes.size + 7) / 8 + fk.nums.length + sumL (wordsT d) fk.kids := rfl
      have hsw := sum_words fk.kids Hx.out
      have hnf0 : 0 < (typeL s (tn : Int)).length := by
        have h := (right_field hr (t := t) (i := k) (by rw [HTl.out, ← Hml.out]; exact hkl)).2.2.2.2
        rw [hFp2.out] at h
        exact h
      have hl0 : (layW (p + k) fk.kids.length (List.replicate ((typeL s tn).length * fk.kids.length) 0#64) WS).length = WS.length + (typeL s tn).length * fk.kids.length := by
        rw [layW_len _ _ _ _ (fun e => by rw [e]; simp), List.length_replicate]
      have HlenK := hid (fun j hj => kids_len fk.kids Hx.out (fun x ws p h => bld_len d (left - 1) tn x ws p h) (fun j => WS.length + (typeL s tn).length * j) (layW (p + k) fk.kids.length (List.replicate ((typeL s tn).length * fk.kids.length) 0#64) WS) j hj)
      rw [hl0] at HlenK
      obtain ⟨W0, hW0⟩ : ∃ W0, W0 = layW (p + k) fk.kids.length (List.replicate ((typeL s tn).length * fk.kids.length) 0#64) WS := ⟨_, rfl⟩
      obtain ⟨G, hG⟩ : ∃ G : Nat → St d → List (BitVec 64) → List (BitVec 64), G = fun (j : Nat) x w => bldW s d tn x w (K + (typeL s tn).length * j) := ⟨_, rfl⟩
      have hFw := hid (show fieldW (typeL s tn).length (bldW s d tn) kd fk (p + k) WS = foldI G 0 fk.kids W0 by
        unfold fieldW
        rw [if_neg e1, if_neg e2, if_neg e3, hG, hW0, HK.out])
      have HG := hid hG
      have HW0 := hid hW0
      rw [← hW0, ← HK.out, ← hG] at HlenK
      obtain ⟨l2, hl2⟩ := get_lt (l := s) (i := tn) (by rw [← Hsn.out]; exact htn)
      obtain ⟨bs', offs', al2, capl2, e, -, hcl2, -, hlm2, hlc2, hcm2⟩ := Hs0.out.at_ hl2
      simp only [Option.some.injEq, Addr.mk.injEq] at e
      obtain ⟨rfl, rfl, -⟩ := e
      unfold maxLen at hlm2 hcm2
      have hTl2 := typeL_at hl2
      obtain ⟨nf, hnf⟩ : ∃ nf, nf = (typeL s (tn : Int)).length := ⟨_, rfl⟩
      have Hnf := hid hnf
      rw [← hTl2, ← hnf] at hcl2 hlm2 hlc2
      rw [← hnf] at hsw HlenK HW0 HG hnf0
      rw [← HM.out] at hsw HlenK HW0 hm12
      have hnfM : nf * M ≤ 1000 := by omega
      have hKl : K + nf * M + sumL (belowT d) fk.kids ≤ 1000 := by omega
      have s2k := ((hbr.trans (hbwk.mono hbwr)).cell (Nat.lt_of_lt_of_le hbs h0)).trans hcl2
      clear hl2 hTl2 hnf hW0 hG hl0 hsw hfz hnum'
      by_cases hM0 : M = 0
      · have hMd : decide ((0 : Int) < (M : Int)) = false := decide_eq_false (by omega)
        have hkn : fk.kids = [] := List.eq_nil_of_length_eq_zero (by rw [← HM.out]; exact hM0)
        have hfin := hid (show Fil w1 wk base wv (.slice (some ⟨g, 0, none⟩) K c) (foldI G 0 fk.kids W0) by rw [hkn, foldI, HW0.out, layW, if_pos hM0]; exact hFk)
        clear hFk hkn
        subst hM0
        go_wp2_with fail
        refine wp_loop_rounds 1 ?_
        rw [rounds_succ]
        go_wp2_with fail
        go_roundw
        case rel => exact ⟨k + 1, _, by omega, by go_num, rfl, by rw [Hnext.out, hFw.out]; exact hfin.out⟩
        case measure => simp [intOf]; omega
      have hMp : 0 < M := by omega
      have hnfMp : 0 < nf * M := Nat.mul_pos hnf0 (by omega)
      have hmul : IntKind.i64.wrap ((nf : Int) * (M : Int)) = ((nf * M : Nat) : Int) := by
        rw [Int.natCast_mul]
        have : ((nf * M : Nat) : Int) ≤ 1000 := by omega
        rw [Int.natCast_mul] at this
        have h2 : (0 : Int) ≤ (nf : Int) * (M : Int) := by rw [← Int.natCast_mul]; omega
        exact IntWalk.i64_in _ (by omega)
      obtain ⟨y, y1, y2, y3⟩ := (hFk.word HK.out hpk)
      have hFr2 : Fil wk wk base (.slice (some ⟨g, 0, none⟩) K c) (.slice (some ⟨g, 0, none⟩) K c) WS := Fil.refl (by have h := hFk.own; rw [← HK.out] at h ⊢; exact h)
      obtain ⟨y', -, -, y3'⟩ := hFr2.word HK.out hpk
      obtain ⟨w5, hw5⟩ : ∃ w5, wk.setCell ⟨g, p + k, none⟩ (U (refV ((K : Int) - ((p : Int) + (k : Int))) (M : Int))) = w5 := ⟨_, rfl⟩
      have h5 := y3' (refV ((K : Int) - ((p : Int) + (k : Int))) (M : Int))
      rw [hw5] at h5
      have hs5 : base ≤ w5.heap.size := by rw [← hw5]; simpa [World.setCell] using hbwk2
      have j3 : w5.cell? ⟨wf.heap.size, 3, none⟩ = some (.slice a5 M p5) := by rw [← hw5]; exact (World.cell?_setCell_other _ _ _ _ (by simp [hgf])).trans k3
      have j1 : w5.cell? ⟨wr.heap.size, 1, none⟩ = some (.int .i64 (tn : Int)) := by rw [← hw5]; exact (World.cell?_setCell_other _ _ _ _ (by simp [hgr])).trans f3
      have Hlay := hid (show W0 = WS.set (p + k) (refV ((K : Int) - ((p : Int) + (k : Int))) (M : Int)) ++ List.replicate (nf * M) 0#64 by rw [HW0.out, layW, if_neg hM0, ← HK.out, Int.natCast_add])
      have hsl : (WS.set (p + k) (refV ((K : Int) - ((p : Int) + (k : Int))) (M : Int))).length = K := by rw [List.length_set]; exact HK.out.symm
      have hown5 := h5.own
      rw [hsl] at hown5
      have Hsl := hid hsl
      have H5 := hid h5
      have Hbox := hid (show ∀ W : World, (∀ b, b < wk.heap.size → b ≠ g → W.heap[b]? = wk.heap[b]?) → W.cell? ⟨wr.heap.size, 1, none⟩ = some (.int .i64 (tn : Int)) ∧ W.cell? ⟨wf.heap.size, 3, none⟩ = some (.slice a5 M p5) from fun W h => ⟨(World.cell?_of_block (a := ⟨wr.heap.size, 1, none⟩) (h _ (Nat.lt_of_lt_of_le hltf hbk.size) (Ne.symm hgr))).trans f3, (World.cell?_of_block (a := ⟨wf.heap.size, 3, none⟩) (h _ hltk (Ne.symm hgf))).trans k3⟩)
      have HFk := hid hFk
      clear y3 y3' hFk hFr2 hsl h5 hM0
      go_wp2_with fail
      ((refine (hRef.out _ _ _).mono ?_); rintro r5 wk ⟨rfl, rfl⟩)
      go_wp2_with (at_builtin; go_must (refine wpList_append_zeros_at _ rfl (.tmp 66) (.tmp 71) 29 3 rfl base 28 iU (.int .u64 0) 8 .i64 Tryd.underlying29 Tryd.underlying3 hiU hzU hsU hbU rfl rfl g c K _ rfl hown5 (nf * M) rfl hnfMp (by unfold maxLen; omega) (by omega) hs5 ?_); intro v7 w7 ho7 hg7 hat7; obtain ⟨a7, c7, rfl⟩ := own_shape ho7)
      have h7 : Fil wk w7 base (.slice (some ⟨g, 0, none⟩) K c) (.slice a7 (K + nf * M) c7) W0 := by
        rw [Hlay.out]
        exact H5.out.app hs5 (by rw [List.map_append, List.map_replicate]; exact ho7) (by rw [List.length_append, Hsl.out, List.length_replicate]) hg7 hat7
      clear ho7 hg7 hat7 H5 Hsl hown5 hw5 j3 j1 hmul hnfMp k0 k1 k2 k3 f0 f1 f2 f3 s0 s1 s2 s3 q0 q1 q2 q3 x3 x4 y1 y2 hcs r0 r1 s2k hwf hwk
      obtain ⟨i1, i3⟩ := Hbox.out w7 (fun b hb hne => h7.keep b hb (fun e => hne (Option.some.inj (show some g = some b from e)).symm))
      go_wp2_with fail
      obtain ⟨wo, rfl⟩ : ∃ wo : World, wo = wr := ⟨_, rfl⟩
      go_loopw [17, 3] (fun i u wr => ∃ (j : Nat) (wvj : Value), j ≤ M ∧ i = .int .i64 j ∧ wvj = u ∧ Fil wk wr base (.slice (some ⟨g, 0, none⟩) K c) wvj (foldI G 0 (fk.kids.take j) W0)) (fun i _ _ => M - (intOf i).toNat)
      case atStart => exact ⟨0, _, Nat.zero_le _, rfl, rfl, h7⟩
      case round =>
        clear h7 i1 i3
        obtain ⟨j, wvj, hjM, rfl, rfl, hFj⟩ := hrel
        obtain ⟨i1, i3⟩ := Hbox.out wr (fun b hb hne => hFj.keep b hb (fun e => hne (Option.some.inj (show some g = some b from e)).symm))
        by_cases hltj : j < M
        · obtain ⟨x, hxj⟩ := get_lt (l := fk.kids) (i := j) (by rw [← HM.out]; exact hltj)
          obtain ⟨b2, off2, xn, xb, g2, m2, t2, g3, m3, t3, rfl, hbb5, u0, u1, u2, u3, hrx⟩ := Kids.atS hkk hxj
          have hbrj : Below base w0 wr := hbr.trans ((hbwk.mono hbwr).trans hFj.below)
          have hbb6 : b2 < base := Nat.lt_of_lt_of_le hbb5 h0
          replace u0 := (hbrj.cell hbb6).trans u0
          replace u1 := (hbrj.cell hbb6).trans u1
          replace u2 := (hbrj.cell hbb6).trans u2
          replace u3 := (hbrj.cell hbb6).trans u3
          have hcx := Hx.out x (List.mem_of_getElem? hxj)
          have hnk : nkT d x = nf := by rw [Hnf.out]; exact nk_code hcx
          have hlj := HlenK.out j hjM
          have hbl := sumL_take_at (belowT d) fk.kids j x hxj
          have HnextJ := hid ((foldI_succ G fk.kids j x W0 hxj).trans (show G j x (foldI G 0 (fk.kids.take j) W0) = bldW s d tn x (foldI G 0 (fk.kids.take j) W0) (K + nf * j) by rw [HG.out]))
          generalize foldI G 0 (fk.kids.take j) W0 = V at *
          have hmj : nf * j + nf ≤ nf * M := by rw [← Nat.mul_succ]; exact Nat.mul_le_mul_left _ hltj
          have hbwj : base ≤ wr.heap.size := Nat.le_trans hbwk2 hFj.below.size
          obtain ⟨gj, cj, rfl, hgjb, hgjl, hKcj, hcmj⟩ := own_place hFj.own (by omega)
          obtain ⟨Kj, hKj⟩ : ∃ Kj, Kj = V.length := ⟨_, rfl⟩
          have HKj := hid hKj
          rw [← hKj] at hFj hlj hKcj ⊢
          have hKjb : K + nf * j + nf ≤ Kj := by omega
          have hKje : Kj + belowT d x ≤ 1000 := by omega
          have hgjf : gj ≠ wf.heap.size := by
            rcases hFj.at_ with e | ⟨q, e, hq⟩
            · have := Option.some.inj (show some gj = some g from e); omega
            · have := Option.some.inj (show some gj = some q from e); omega
          have hgjr : gj ≠ wo.heap.size := by
            rcases hFj.at_ with e | ⟨q, e, hq⟩
            · have := Option.some.inj (show some gj = some g from e); omega
            · have := Option.some.inj (show some gj = some q from e); have := hbwk.size; omega
          have hcells := hid (show ∀ W : World, (∀ b, b < wr.heap.size → b ≠ gj → W.heap[b]? = wr.heap[b]?) → W.cell? ⟨wo.heap.size, 1, none⟩ = some (.int .i64 (tn : Int)) ∧ W.cell? ⟨wf.heap.size, 3, none⟩ = some (.slice (some ⟨b2, off2, none⟩) M p5) ∧ W.cell? ⟨b2, off2 + j * 4, none⟩ = some (U xn) ∧ W.cell? ⟨b2, off2 + j * 4 + 1, none⟩ = some (.string xb) ∧ W.cell? ⟨b2, off2 + j * 4 + 2, none⟩ = some (.slice g2 m2 t2) ∧ W.cell? ⟨b2, off2 + j * 4 + 3, none⟩ = some (.slice g3 m3 t3) from fun W h => by
            have n1 : wo.heap.size < wr.heap.size := Nat.lt_of_lt_of_le hltf (Nat.le_trans hbk.size hFj.below.size)
            have n2 : wf.heap.size < wr.heap.size := Nat.lt_of_lt_of_le hltk hFj.below.size
            have n3 : b2 < wr.heap.size := Nat.lt_of_lt_of_le hbb6 hbwj
            have n4 : b2 ≠ gj := by omega
            exact ⟨(World.cell?_of_block (a := ⟨wo.heap.size, 1, none⟩) (h _ n1 (Ne.symm hgjr))).trans i1, (World.cell?_of_block (a := ⟨wf.heap.size, 3, none⟩) (h _ n2 (Ne.symm hgjf))).trans i3, (World.cell?_of_block (a := ⟨b2, off2 + j * 4, none⟩) (h _ n3 n4)).trans u0, (World.cell?_of_block (a := ⟨b2, off2 + j * 4 + 1, none⟩) (h _ n3 n4)).trans u1, (World.cell?_of_block (a := ⟨b2, off2 + j * 4 + 2, none⟩) (h _ n3 n4)).trans u2, (World.cell?_of_block (a := ⟨b2, off2 + j * 4 + 3, none⟩) (h _ n3 n4)).trans u3⟩)
          have hcall := hid fun W (hW : Below wr.heap.size wr W) => ih.out tn x _ (K + nf * j) base (.slice (some ⟨gj, 0, none⟩) Kj cj) V w0 W Hs0.out (by rw [← Hsn.out]; exact htn) hcx hrx h0 (hbrj.trans (hW.mono hbwj)) (Nat.le_trans hbwj hW.size) (own_beneath hFj.own hW) (by rw [← HKj.out]; omega) (by rw [← HKj.out]; omega) (by rw [← HKj.out]; omega)
          rw [Int.natCast_add, Int.natCast_mul] at hcall
          have hnj : ((nf * j : Nat) : Int) ≤ 1000 := by omega
          rw [Int.natCast_mul] at hnj
          have hnj0 : (0 : Int) ≤ (nf : Int) * (j : Int) := by rw [← Int.natCast_mul]; omega
          have hmulj : IntKind.i64.wrap ((nf : Int) * (j : Int)) = (nf : Int) * (j : Int) := IntWalk.i64_in _ (by omega)
          have hsumj : IntKind.i64.wrap ((K : Int) + (nf : Int) * (j : Int)) = (K : Int) + (nf : Int) * (j : Int) := IntWalk.i64_in _ (by omega)
          clear hKj hxj hrx hcx hnk hlj hbl hcmj
          go_wp2_with fail
          refine wp_region_held_drew (S := (fun W => W.cell? ⟨wo.heap.size, 1, none⟩ = some (.int .i64 (tn : Int)) ∧ W.cell? ⟨wf.heap.size, 3, none⟩ = some (.slice (some ⟨b2, off2, none⟩) M p5) ∧ W.cell? ⟨b2, off2 + j * 4, none⟩ = some (U xn) ∧ W.cell? ⟨b2, off2 + j * 4 + 1, none⟩ = some (.string xb) ∧ W.cell? ⟨b2, off2 + j * 4 + 2, none⟩ = some (.slice g2 m2 t2) ∧ W.cell? ⟨b2, off2 + j * 4 + 3, none⟩ = some (.slice g3 m3 t3))) (by kernel_rfl) ?_ (fun hHeld => ?_)
          · exact hcells.out _ (fun _ _ _ => rfl)
          refine wpAnyH_take (i := 0) (oi := { dst := some 80, op := Op.move (Operand.tmp 0), type := 27, pos := "ref.go:42", after := #[], guard := none }) (v := ?vz0) rfl (by kernel_rfl) (by kernel_rfl) (by kernel_rfl) (fun _ _ _ h => h) (Or.inl ⟨by rfl, ?hyz0⟩) (by assumption) ?restz0
          case hyz0 => first | (intro w hSw; (try dsimp only at hSw); go_simp; done) | (intro w hSw; (try dsimp only at hSw); go_simp; with_reducible rfl)
          try simp only [Act.put, List.setIfInBounds_toArray, List.set_cons_zero, List.set_cons_succ]
          refine wpAnyH_take (i := 1) (oi := { dst := some 81, op := Op.fieldAddr 24 (Operand.tmp 12) 1, type := 0, pos := "ref.go:42", after := #[], guard := none }) (v := ?vz1) rfl (by kernel_rfl) (by kernel_rfl) (by kernel_rfl) (fun _ _ _ h => h) (Or.inl ⟨by rfl, ?hyz1⟩) (by assumption) ?restz1
          case hyz1 => first | (intro w hSw; (try dsimp only at hSw); go_simp; done) | (intro w hSw; (try dsimp only at hSw); go_simp; with_reducible rfl)
          try simp only [Act.put, List.setIfInBounds_toArray, List.set_cons_zero, List.set_cons_succ]
          refine wpAnyH_take (i := 2) (oi := { dst := some 82, op := Op.load 3 (Operand.tmp 81), type := 3, pos := "ref.go:42", after := #[{ on := 1, ground := Ground.data }], guard := none }) (v := ?vz2) rfl (by kernel_rfl) (by kernel_rfl) (by kernel_rfl) (fun _ _ _ h => h) (Or.inl ⟨by rfl, ?hyz2⟩) (by assumption) ?restz2
          case hyz2 => first | (intro w hSw; (try dsimp only at hSw); go_simp; done) | (intro w hSw; (try dsimp only at hSw); go_simp; with_reducible rfl)
          try simp only [Act.put, List.setIfInBounds_toArray, List.set_cons_zero, List.set_cons_succ]
          refine wpAnyH_take (i := 3) (oi := { dst := some 83, op := Op.fieldAddr 32 (Operand.tmp 13) 3, type := 0, pos := "ref.go:42", after := #[], guard := none }) (v := ?vz3) rfl (by kernel_rfl) (by kernel_rfl) (by kernel_rfl) (fun _ _ _ h => h) (Or.inl ⟨by rfl, ?hyz3⟩) (by assumption) ?restz3
          case hyz3 => first | (intro w hSw; (try dsimp only at hSw); go_simp; done) | (intro w hSw; (try dsimp only at hSw); go_simp; with_reducible rfl)
          try simp only [Act.put, List.setIfInBounds_toArray, List.set_cons_zero, List.set_cons_succ]
          refine wpAnyH_take (i := 4) (oi := { dst := some 84, op := Op.load 30 (Operand.tmp 83), type := 30, pos := "ref.go:42", after := #[{ on := 3, ground := Ground.data }], guard := none }) (v := ?vz4) rfl (by kernel_rfl) (by kernel_rfl) (by kernel_rfl) (fun _ _ _ h => h) (Or.inl ⟨by rfl, ?hyz4⟩) (by assumption) ?restz4
          case hyz4 => first | (intro w hSw; (try dsimp only at hSw); go_simp; done) | (intro w hSw; (try dsimp only at hSw); go_simp; with_reducible rfl)
          try simp only [Act.put, List.setIfInBounds_toArray, List.set_cons_zero, List.set_cons_succ]
          refine wpAnyH_take (i := 5) (oi := { dst := some 85, op := Op.move (Operand.tmp 17), type := 3, pos := "ref.go:42", after := #[], guard := none }) (v := ?vz5) rfl (by kernel_rfl) (by kernel_rfl) (by kernel_rfl) (fun _ _ _ h => h) (Or.inl ⟨by rfl, ?hyz5⟩) (by assumption) ?restz5
          case hyz5 => first | (intro w hSw; (try dsimp only at hSw); go_simp; done) | (intro w hSw; (try dsimp only at hSw); go_simp; with_reducible rfl)
          try simp only [Act.put, List.setIfInBounds_toArray, List.set_cons_zero, List.set_cons_succ]
          refine wpAnyH_take (i := 6) (oi := { dst := some 86, op := Op.indexAddr 30 (Operand.tmp 84) (Operand.tmp 85), type := 0, pos := "ref.go:42", after := #[{ on := 4, ground := Ground.data }, { on := 5, ground := Ground.data }], guard := none }) (v := ?vz6) rfl (by kernel_rfl) (by kernel_rfl) (by kernel_rfl) (fun _ _ _ h => h) (Or.inl ⟨by rfl, ?hyz6⟩) (by assumption) ?restz6
          case hyz6 => first | (intro w hSw; (try dsimp only at hSw); go_simp; done) | (intro w hSw; (try dsimp only at hSw); go_simp; with_reducible rfl)
          try simp only [Act.put, List.setIfInBounds_toArray, List.set_cons_zero, List.set_cons_succ]
          refine wpAnyH_take (i := 7) (oi := { dst := some 87, op := Op.load 32 (Operand.tmp 86), type := 32, pos := "ref.go:42", after := #[{ on := 6, ground := Ground.data }], guard := none }) (v := ?vz7) rfl (by kernel_rfl) (by kernel_rfl) (by kernel_rfl) (fun _ _ _ h => h) (Or.inl ⟨by rfl, ?hyz7⟩) (by assumption) ?restz7
          case hyz7 => first | (intro w hSw; (try dsimp only at hSw); go_simp; done) | (intro w hSw; (try dsimp only at hSw); go_simp; with_reducible rfl)
          try simp only [Act.put, List.setIfInBounds_toArray, List.set_cons_zero, List.set_cons_succ]
          refine wpAnyH_take (i := 8) (oi := { dst := some 88, op := Op.move (Operand.tmp 3), type := 29, pos := "ref.go:42", after := #[], guard := none }) (v := ?vz8) rfl (by kernel_rfl) (by kernel_rfl) (by kernel_rfl) (fun _ _ _ h => h) (Or.inl ⟨by rfl, ?hyz8⟩) (by assumption) ?restz8
          case hyz8 => first | (intro w hSw; (try dsimp only at hSw); go_simp; done) | (intro w hSw; (try dsimp only at hSw); go_simp; with_reducible rfl)
          try simp only [Act.put, List.setIfInBounds_toArray, List.set_cons_zero, List.set_cons_succ]
          refine wpAnyH_take (i := 9) (oi := { dst := some 89, op := Op.move (Operand.tmp 15), type := 3, pos := "ref.go:42", after := #[], guard := none }) (v := ?vz9) rfl (by kernel_rfl) (by kernel_rfl) (by kernel_rfl) (fun _ _ _ h => h) (Or.inl ⟨by rfl, ?hyz9⟩) (by assumption) ?restz9
          case hyz9 => first | (intro w hSw; (try dsimp only at hSw); go_simp; done) | (intro w hSw; (try dsimp only at hSw); go_simp; with_reducible rfl)
          try simp only [Act.put, List.setIfInBounds_toArray, List.set_cons_zero, List.set_cons_succ]
          refine wpAnyH_take (i := 10) (oi := { dst := some 90, op := Op.move (Operand.tmp 16), type := 3, pos := "ref.go:42", after := #[], guard := none }) (v := ?vz10) rfl (by kernel_rfl) (by kernel_rfl) (by kernel_rfl) (fun _ _ _ h => h) (Or.inl ⟨by rfl, ?hyz10⟩) (by assumption) ?restz10
          case hyz10 => first | (intro w hSw; (try dsimp only at hSw); go_simp; done) | (intro w hSw; (try dsimp only at hSw); go_simp; with_reducible rfl)
          try simp only [Act.put, List.setIfInBounds_toArray, List.set_cons_zero, List.set_cons_succ]
          refine wpAnyH_take (i := 11) (oi := { dst := some 91, op := Op.move (Operand.tmp 17), type := 3, pos := "ref.go:42", after := #[], guard := none }) (v := ?vz11) rfl (by kernel_rfl) (by kernel_rfl) (by kernel_rfl) (fun _ _ _ h => h) (Or.inl ⟨by rfl, ?hyz11⟩) (by assumption) ?restz11
          case hyz11 => first | (intro w hSw; (try dsimp only at hSw); go_simp; done) | (intro w hSw; (try dsimp only at hSw); go_simp; with_reducible rfl)
          try simp only [Act.put, List.setIfInBounds_toArray, List.set_cons_zero, List.set_cons_succ]
          refine wpAnyH_take (i := 12) (oi := { dst := some 92, op := Op.binOp BinOp.mul 3 (Operand.tmp 90) (Operand.tmp 91) 3, type := 3, pos := "ref.go:42", after := #[{ on := 10, ground := Ground.data }, { on := 11, ground := Ground.data }], guard := none }) (v := ?vz12) rfl (by kernel_rfl) (by kernel_rfl) (by kernel_rfl) (fun _ _ _ h => h) (Or.inl ⟨by rfl, ?hyz12⟩) (by assumption) ?restz12
          case hyz12 => first | (intro w hSw; (try dsimp only at hSw); go_simp; done) | (intro w hSw; (try dsimp only at hSw); go_simp; with_reducible rfl)
          try simp only [Act.put, List.setIfInBounds_toArray, List.set_cons_zero, List.set_cons_succ]
          refine wpAnyH_take (i := 13) (oi := { dst := some 93, op := Op.binOp BinOp.add 3 (Operand.tmp 89) (Operand.tmp 92) 3, type := 3, pos := "ref.go:42", after := #[{ on := 9, ground := Ground.data }, { on := 12, ground := Ground.data }], guard := none }) (v := ?vz13) rfl (by kernel_rfl) (by kernel_rfl) (by kernel_rfl) (fun _ _ _ h => h) (Or.inl ⟨by rfl, ?hyz13⟩) (by assumption) ?restz13
          case hyz13 => first | (intro w hSw; (try dsimp only at hSw); go_simp; done) | (intro w hSw; (try dsimp only at hSw); go_simp; with_reducible rfl)
          try simp only [Act.put, List.setIfInBounds_toArray, List.set_cons_zero, List.set_cons_succ]
          refine wpAnyH_ready (rs := [14]) (by kernel_rfl) (by simp) ?_
          refine AllReadyH.cons (o := { dst := some 94, op := Op.call { callee := Callee.value (Operand.func 51), args := #[Operand.tmp 80, Operand.tmp 82, Operand.tmp 87, Operand.tmp 88, Operand.tmp 93], argTypes := #[27, 3, 32, 29, 3] }, type := 29, pos := "ref.go:42", after := #[{ on := 0, ground := Ground.data }, { on := 2, ground := Ground.data }, { on := 7, ground := Ground.data }, { on := 8, ground := Ground.data }, { on := 13, ground := Ground.data }], guard := none }) rfl (fun K hK => ?_) AllReadyH.nil
          have hbw9 := below_drewN wr.heap.size wr 1
          go_simp
          ((refine (hcall.out _ hbw9).mono ?_); rintro r9 w9 ⟨wv9, rfl, hF9⟩)
          obtain ⟨a9, c9, rfl⟩ := own_shape hF9.own
          refine hK.out _ _ ?_ (fun hHeld => ?_)
          · exact hcells.out _ (fun b hb hne => hF9.keep b hb (fun e => hne (Option.some.inj (show some gj = some b from e)).symm))
          clear hK K
          try simp only [Act.put, List.setIfInBounds_toArray, List.set_cons_zero, List.set_cons_succ]
          refine wpAnyH_take (i := 15) (oi := { dst := some 3, op := Op.assign (Operand.tmp 94), type := 29, pos := "ref.go:42", after := #[{ on := 14, ground := Ground.data }, { on := 14, ground := Ground.chain }, { on := 0, ground := Ground.phase }, { on := 1, ground := Ground.phase }, { on := 2, ground := Ground.phase }, { on := 3, ground := Ground.phase }, { on := 4, ground := Ground.phase }, { on := 5, ground := Ground.phase }, { on := 6, ground := Ground.phase }, { on := 7, ground := Ground.phase }, { on := 8, ground := Ground.phase }, { on := 9, ground := Ground.phase }, { on := 10, ground := Ground.phase }, { on := 11, ground := Ground.phase }, { on := 12, ground := Ground.phase }, { on := 13, ground := Ground.phase }, { on := 14, ground := Ground.phase }], guard := none }) (v := ?vz15) rfl (by kernel_rfl) (by kernel_rfl) (by kernel_rfl) (fun _ _ _ h => h) (Or.inl ⟨by rfl, ?hyz15⟩) (by assumption) ?restz15
          case hyz15 => first | (intro w hSw; (try dsimp only at hSw); go_simp; done) | (intro w hSw; (try dsimp only at hSw); go_simp; with_reducible rfl)
          try simp only [Act.put, List.setIfInBounds_toArray, List.set_cons_zero, List.set_cons_succ]
          refine wpAnyH_done (by kernel_rfl) ?_ _
          have hfin := hid (hFj.trans (Fil.before hbw9 hbwj hF9))
          clear hF9 hHeld hbw9 hcall hcells hmulj hsumj u0 u1 u2 u3 i1 i3
          go_wp2_with fail
          go_roundw
          case rel => exact ⟨j + 1, _, by omega, by go_num, rfl, by rw [HnextJ.out]; exact hfin.out⟩
          case measure => simp [intOf]; omega
        · obtain rfl : j = M := by omega
          clear hltj
          have hfin := hid (show Fil w1 wr base wv wvj (foldI G 0 fk.kids W0) by
            rw [foldI_all _ _ _ _ (by rw [HM.out]; exact Nat.le_refl _)] at hFj
            exact HFk.out.trans hFj)
          obtain ⟨wa, wc, rfl⟩ := own_shape hFj.own
          clear hFj
          go_wp2_with fail
          go_roundw
          case rel => exact ⟨k + 1, _, by omega, by go_num, rfl, by rw [Hnext.out, hFw.out]; exact hfin.out⟩
          case measure => simp [intOf]; omega
    · have hkl : ¬ k < ml := by rw [← hNm.out]; exact hlt
      obtain rfl : k = N := by omega
      clear hlt
      have hfin := hid (show Fil w wr base wv wvr (foldI F 0 (Node.kids v) ws) by
        rw [foldI_all _ _ _ _ (by rw [HN.out]; exact Nat.le_refl _)] at hFr
        exact hFil.trans hFr)
      obtain ⟨wa, wc, rfl⟩ := own_shape hFr.own
      clear hFr hFil
      go_wp2_with fail
      go_returns
      exact ⟨_, rfl, by rw [Hgoal.out]; exact hfin.out⟩

theorem fill_all (s : Schema) (hr : rightB s = true) (sv : Value) : ∀ d left, FillC s sv d left := by
  intro d
  induction d with
  | zero => exact fun _ _ v => nomatch v
  | succ d ih => exact fun left => fill_step s hr sv d left (ih (left - 1))
end SFill

section SRBuild
open Go.RowKit

def RBuildK (s : Schema) (d : Nat) (t : Int) (v : St (d + 1)) (w : World) (e : Ending) (w' : World) : Prop := ∃ wv, e = .returned (.tuple #[wv, .int .i64 (buildE s d t v)]) ∧ KW (fun b => b < w.heap.size) w' (fun W => Row W 1 wv (buildL s d t v).length ((buildL s d t v).map U)) ∧ Below w.heap.size w w'
def RBuildP (s : Schema) (d : Nat) (t : Int) (v : St (d + 1)) (w : World) (e : Ending) (w' : World) : Prop := ∃ wv, e = .returned (.tuple #[wv, .int .i64 (buildE s d t v)]) ∧ Row w' 1 wv (buildL s d t v).length ((buildL s d t v).map U) ∧ Below w.heap.size w w'

set_option maxRecDepth 100000 in
set_option maxHeartbeats 8000000 in
theorem rbuildK_any (s : Schema) (sv : Value) (d : Nat) (t : Int) (v : St (d + 1)) (cs : List Value) (w : World) (hs : Sch w sv s) (h : RdS (d + 1) w cs v) :
    Calls Tryd.prog 27 #[sv, .int .i64 t, .agg cs.toArray] w (RBuildK s d t v w) := by
  obtain ⟨iU, hiU, hzU, hsU, hbU⟩ := info_parts (show (Tryd.prog.info? 28).map (fun i => (i.zero, i.size, i.bytes)) = some (some (.int .u64 0), 1, 8) by kernel_rfl)
  obtain ⟨a2, p2, a, cap, hcs, -, -, -, -, hkm⟩ := RdN.open h
  subst hcs
  obtain ⟨sa, scap, hsv, hsc, hscm, hsm⟩ := hs.shape
  obtain ⟨sn, hsn⟩ : ∃ n, n = s.length := ⟨_, rfl⟩
  have Hsn := hid hsn
  rw [← hsn] at hsv hsc hsm
  subst hsv
  unfold maxLen at hscm hsm
  clear hsn
  obtain ⟨N, hN⟩ : ∃ N, N = (Node.kids v).length := ⟨_, rfl⟩
  have HN := hid hN
  rw [← hN] at h hkm ⊢
  clear hN
  obtain ⟨w1, hw1, hb1, hz1, hV⟩ := TB.make w (U (Node.num v)) (.string (Node.bytes v)) (.slice a2 (Node.nums v).length p2) (.slice a N cap) 32
  have hck := hid (rtcheck_any s (.slice sa sn scap) (d + 1) t v _ w1 (hs.below hb1 (Nat.le_refl _)) (h.below hb1 (Nat.le_refl _)))
  have hsz := hid fun W (hW : Below w.heap.size w W) => rsize_any s (.slice sa sn scap) (d + 1) t v _ W (hs.below hW (Nat.le_refl _)) (h.below hW (Nat.le_refl _))
  have v0 := hV.c0
  have v1 := hV.c1
  have v2 := hV.c2
  have v3 := hV.c3
  have HV := hid fun W (hW : Below w1.heap.size w1 W) => hV.below hW
  have Hs := hid fun W (hW : Below w.heap.size w W) => hs.below hW (Nat.le_refl _)
  have Hfill := hid fun (hr : rightB s = true) (tn : Nat) (ht : tn < s.length) (hc : codeT s (d + 1) 5 tn v = 0) w3 (h3 : Below w.heap.size w w3) W (hW : Below w3.heap.size w3 W) wv ws (ho : W.ownsRow w3.heap.size 28 1 wv ws.length (ws.map U)) h0 hp hlen => fill_all s hr (.slice sa sn scap) (d + 1) 5 tn v _ 1 w3.heap.size wv ws w3 W (hs.below h3 (Nat.le_refl _)) ht hc (h.below h3 (Nat.le_refl _)) (Nat.le_refl _) hW hW.size ho h0 hp hlen
  clear hV hs h hz1
  obtain ⟨x, hx⟩ : ∃ x, x = checkC s (d + 1) t v := ⟨_, rfl⟩
  have Hx := hid hx
  rw [← hx] at hck
  clear hx
  by_cases hx0 : x = 0
  · subst hx0
    have hchk := Hx.out
    rw [checkC] at hchk
    split at hchk
    case isFalse => exact absurd hchk (by decide)
    case isTrue hrt =>
    obtain ⟨tn, rfl⟩ : ∃ tn : Nat, t = (tn : Int) := ⟨t.toNat, by omega⟩
    have Hcode := hid hchk.symm
    have Hright := hid hrt.1
    have htn : tn < sn := by rw [Hsn.out]; omega
    have hnk : N = (typeL s tn).length := by rw [HN.out]; exact (code_struct Hcode.out).2.2.2.2.1
    obtain ⟨l, hl⟩ := get_lt (l := s) (i := tn) (by rw [← Hsn.out]; exact htn)
    rw [typeL_at hl] at hnk
    have HnkL := hid hnk
    have Hl := hid hl
    obtain ⟨z, hz⟩ : ∃ z, z = 1 + wordsT (d + 1) v := ⟨_, rfl⟩
    have Hz := hid hz
    have hzT : sizeT s (d + 1) (tn : Int) v = z := by rw [sizeT, if_pos Hx.out.symm, hz]
    rw [hzT] at hsz
    clear hchk hrt hz hzT hnk hl
    by_cases hz2 : z ≤ 200
    · have HE := hid (show buildE s d (tn : Int) v = 0 by rw [buildE, if_pos Hx.out.symm, if_pos (by rw [← Hz.out]; exact hz2)])
      have HL := hid (show buildL s d (tn : Int) v = buildW s d (tn : Int) v by rw [buildL, if_pos HE.out])
      have hzd : (z : Int) ≤ 200 := by omega
      have Hlen := hid (bld_len (d + 1) 5 (tn : Int) v (List.replicate (1 + N) 0#64) 1 Hcode.out)
      have Hwb := hid (words_below (d + 1) v)
      have Hz1 : z = (bldW s (d + 1) (tn : Int) v (List.replicate (1 + N) 0#64) 1).length := by
        rw [Hlen.out, List.length_replicate, Hz.out, Hwb.out, show nkT (d + 1) v = N from HN.out.symm]
        omega
      have hbl : 1 + N + belowT (d + 1) v = z := by rw [Hz1, Hlen.out, List.length_replicate]
      have Hbw := hid (show buildW s d (tn : Int) v = (bldW s (d + 1) (tn : Int) v (List.replicate (1 + N) 0#64) 1).set 0 (refV (z : Int) (tn : Int)) by
        unfold buildW
        rw [← HN.out]
        show (bldW s (d + 1) (tn : Int) v (List.replicate (1 + N) 0#64) 1).set 0 (refV (((bldW s (d + 1) (tn : Int) v (List.replicate (1 + N) 0#64) 1).length : Nat) : Int) (tn : Int)) = _
        rw [← Hz1])
      have HZ := hid Hz1
      have hRef := hid fun W => rref_any (z : Int) (tn : Int) W
      clear Hz1
      go_enter Tryd.func27, Tryd.ntmps27
      go_wp2_with fail
      ((refine hck.out.mono ?_); rintro r2 w2 ⟨rfl, hb2⟩)
      have hB2 := hb1.trans (hb2.mono hb1.size)
      replace hsz := hsz.out w2 hB2
      have ⟨_, u0, u1, u2, u3, _⟩ := HV.out w2 hb2
      clear hck v0 v1 v2 v3 hw1
      go_wp2_with fail
      ((refine hsz.mono ?_); rintro r3 w3 ⟨rfl, hb3⟩)
      have hB3 := via hB2 hb3
      have HT := hid fun W (hW : Below w3.heap.size w3 W) => (HV.out w3 (hb2.trans (hb3.mono hb2.size))).below hW
      have hHf := Hfill.out Hright.out tn (by rw [← Hsn.out]; exact htn) Hcode.out w3 hB3
      obtain ⟨bs, offs, al, capl, e, hbs, hcl, -, hlm, hlc, hcm⟩ := (Hs.out w3 hB3).at_ Hl.out
      subst e
      rw [← HnkL.out] at hcl hlm hlc
      unfold maxLen at hlm hcm
      have Hrow := hid fun W (hW : Below w3.heap.size w3 W) => (hW.cell (p := ⟨bs, offs + tn, none⟩) hbs).trans hcl
      have hsum : IntKind.i64.wrap ((1 : Int) + (N : Int)) = ((1 + N : Nat) : Int) := by
        rw [Int.natCast_add]
        exact IntWalk.i64_in _ (by omega)
      clear hsz u0 u1 u2 u3 Hfill hcl hbs
      go_wp2_with fail
      refine wp_region_held_drew (S := (fun W => W.cell? ⟨w.heap.size, 0, none⟩ = some (U (Node.num v)) ∧ W.cell? ⟨w.heap.size, 1, none⟩ = some (.string (Node.bytes v)) ∧ W.cell? ⟨w.heap.size, 2, none⟩ = some (.slice a2 (Node.nums v).length p2) ∧ W.cell? ⟨w.heap.size, 3, none⟩ = some (.slice a N cap) ∧ W.cell? ⟨bs, offs + tn, none⟩ = some (.slice al N capl) ∧ Below w3.heap.size w3 W)) (by kernel_rfl) ?_ (fun hHeld => ?_)
      · exact ⟨(HT.out _ (below_drewN _ _ 1)).c0, (HT.out _ (below_drewN _ _ 1)).c1, (HT.out _ (below_drewN _ _ 1)).c2, (HT.out _ (below_drewN _ _ 1)).c3, Hrow.out _ (below_drewN _ _ 1), below_drewN _ _ 1⟩
      refine wpAnyH_take (i := 0) (oi := { dst := some 22, op := Op.move (Operand.tmp 0), type := 27, pos := "ref.go:58", after := #[], guard := none }) (v := ?ve0) rfl (by kernel_rfl) (by kernel_rfl) (by kernel_rfl) (fun _ _ _ h => h) (Or.inl ⟨by rfl, ?hye0⟩) (by assumption) ?reste0
      case hye0 => first | (intro w hSw; (try dsimp only at hSw); go_simp; done) | (intro w hSw; (try dsimp only at hSw); go_simp; with_reducible rfl)
      try simp only [Act.put, List.setIfInBounds_toArray, List.set_cons_zero, List.set_cons_succ]
      refine wpAnyH_take (i := 1) (oi := { dst := some 23, op := Op.move (Operand.tmp 1), type := 3, pos := "ref.go:58", after := #[], guard := none }) (v := ?ve1) rfl (by kernel_rfl) (by kernel_rfl) (by kernel_rfl) (fun _ _ _ h => h) (Or.inl ⟨by rfl, ?hye1⟩) (by assumption) ?reste1
      case hye1 => first | (intro w hSw; (try dsimp only at hSw); go_simp; done) | (intro w hSw; (try dsimp only at hSw); go_simp; with_reducible rfl)
      try simp only [Act.put, List.setIfInBounds_toArray, List.set_cons_zero, List.set_cons_succ]
      refine wpAnyH_take (i := 2) (oi := { dst := some 24, op := Op.load 32 (Operand.tmp 5), type := 32, pos := "ref.go:58", after := #[], guard := none }) (v := ?ve2) rfl (by kernel_rfl) (by kernel_rfl) (by kernel_rfl) (fun _ _ _ h => h) (Or.inl ⟨by rfl, ?hye2⟩) (by assumption) ?reste2
      case hye2 => first | (intro w hSw; (try dsimp only at hSw); go_simp; done) | (intro w hSw; (try dsimp only at hSw); go_simp; with_reducible rfl)
      try simp only [Act.put, List.setIfInBounds_toArray, List.set_cons_zero, List.set_cons_succ]
      refine wpAnyH_take (i := 3) (oi := { dst := some 25, op := Op.move (Operand.tmp 0), type := 27, pos := "ref.go:58", after := #[], guard := none }) (v := ?ve3) rfl (by kernel_rfl) (by kernel_rfl) (by kernel_rfl) (fun _ _ _ h => h) (Or.inl ⟨by rfl, ?hye3⟩) (by assumption) ?reste3
      case hye3 => first | (intro w hSw; (try dsimp only at hSw); go_simp; done) | (intro w hSw; (try dsimp only at hSw); go_simp; with_reducible rfl)
      try simp only [Act.put, List.setIfInBounds_toArray, List.set_cons_zero, List.set_cons_succ]
      refine wpAnyH_take (i := 4) (oi := { dst := some 26, op := Op.move (Operand.tmp 1), type := 3, pos := "ref.go:58", after := #[], guard := none }) (v := ?ve4) rfl (by kernel_rfl) (by kernel_rfl) (by kernel_rfl) (fun _ _ _ h => h) (Or.inl ⟨by rfl, ?hye4⟩) (by assumption) ?reste4
      case hye4 => first | (intro w hSw; (try dsimp only at hSw); go_simp; done) | (intro w hSw; (try dsimp only at hSw); go_simp; with_reducible rfl)
      try simp only [Act.put, List.setIfInBounds_toArray, List.set_cons_zero, List.set_cons_succ]
      refine wpAnyH_take (i := 5) (oi := { dst := some 27, op := Op.indexAddr 27 (Operand.tmp 25) (Operand.tmp 26), type := 0, pos := "ref.go:58", after := #[{ on := 3, ground := Ground.data }, { on := 4, ground := Ground.data }], guard := none }) (v := ?ve5) rfl (by kernel_rfl) (by kernel_rfl) (by kernel_rfl) (fun _ _ _ h => h) (Or.inl ⟨by rfl, ?hye5⟩) (by assumption) ?reste5
      case hye5 => first | (intro w hSw; (try dsimp only at hSw); go_simp; done) | (intro w hSw; (try dsimp only at hSw); go_simp; with_reducible rfl)
      try simp only [Act.put, List.setIfInBounds_toArray, List.set_cons_zero, List.set_cons_succ]
      refine wpAnyH_take (i := 6) (oi := { dst := some 28, op := Op.load 25 (Operand.tmp 27), type := 25, pos := "ref.go:58", after := #[{ on := 5, ground := Ground.data }], guard := none }) (v := ?ve6) rfl (by kernel_rfl) (by kernel_rfl) (by kernel_rfl) (fun _ _ _ h => h) (Or.inl ⟨by rfl, ?hye6⟩) (by assumption) ?reste6
      case hye6 => first | (intro w hSw; (try dsimp only at hSw); go_simp; done) | (intro w hSw; (try dsimp only at hSw); go_simp; with_reducible rfl)
      try simp only [Act.put, List.setIfInBounds_toArray, List.set_cons_zero, List.set_cons_succ]
      refine wpAnyH_take (i := 7) (oi := { dst := some 29, op := Op.call { callee := Callee.builtin Builtin.len, args := #[Operand.tmp 28], argTypes := #[25] }, type := 3, pos := "ref.go:58", after := #[{ on := 6, ground := Ground.data }], guard := none }) (v := ?ve7) rfl (by kernel_rfl) (by kernel_rfl) (by kernel_rfl) (fun _ _ _ h => h) (Or.inl ⟨by rfl, ?hye7⟩) (by assumption) ?reste7
      case hye7 => first | (intro w hSw; (try dsimp only at hSw); go_simp; done) | (intro w hSw; (try dsimp only at hSw); go_simp; with_reducible rfl)
      try simp only [Act.put, List.setIfInBounds_toArray, List.set_cons_zero, List.set_cons_succ]
      refine wpAnyH_take (i := 8) (oi := { dst := some 30, op := Op.binOp BinOp.add 3 (Operand.const (Value.int IntKind.i64 1)) (Operand.tmp 29) 3, type := 3, pos := "ref.go:58", after := #[{ on := 7, ground := Ground.data }], guard := none }) (v := ?ve8) rfl (by kernel_rfl) (by kernel_rfl) (by kernel_rfl) (fun _ _ _ h => h) (Or.inl ⟨by rfl, ?hye8⟩) (by assumption) ?reste8
      case hye8 => first | (intro w hSw; (try dsimp only at hSw); go_simp; done) | (intro w hSw; (try dsimp only at hSw); go_simp; with_reducible rfl)
      try simp only [Act.put, List.setIfInBounds_toArray, List.set_cons_zero, List.set_cons_succ]
      refine wpAnyH_ready (rs := [9]) (by kernel_rfl) (by simp) ?_
      refine AllReadyH.cons (o := { dst := some 31, op := Op.makeSlice 29 (Operand.tmp 30) (Operand.tmp 30), type := 29, pos := "ref.go:58", after := #[{ on := 8, ground := Ground.data }, { on := 8, ground := Ground.data }], guard := none }) rfl (fun K hK => ?_) AllReadyH.nil
      rw [if_pos (by rfl)]
      refine wp_make_full _ (.tmp 30) (.tmp 30) 29 rfl w3.heap.size 28 iU _ 1 Tryd.underlying29 hiU hzU hsU .i64 .i64 _ _ (1 + N) rfl rfl rfl rfl (by rw [hbU]; omega) (by unfold maxLen; omega) (Nat.le_refl _) ?_
      intro w5 ho5 hg5
      have hab9 : Below w3.heap.size w3 w5 := (below_drewN _ w3 1).trans ((Below.refl _ _).grown hg5 (Nat.le_refl _) (fun q e => by cases e))
      rw [madeU] at ho5
      have hob5 : w5.ownsRow w3.heap.size 28 1 (.slice (some ⟨w3.heap.size, 0, none⟩) (1 + N) (1 + N)) (1 + N) ((List.replicate (1 + N) 0#64).map U) := ho5
      refine hK.out _ _ ?_ (fun hHeld => ?_)
      · exact ⟨(HT.out _ (hab9)).c0, (HT.out _ (hab9)).c1, (HT.out _ (hab9)).c2, (HT.out _ (hab9)).c3, Hrow.out _ (hab9), hab9⟩
      clear hK K
      try simp only [Act.put, List.setIfInBounds_toArray, List.set_cons_zero, List.set_cons_succ]
      refine wpAnyH_ready (rs := [10]) (by kernel_rfl) (by simp) ?_
      refine AllReadyH.cons (o := { dst := some 32, op := Op.call { callee := Callee.value (Operand.func 51), args := #[Operand.tmp 22, Operand.tmp 23, Operand.tmp 24, Operand.tmp 31, Operand.const (Value.int IntKind.i64 1)], argTypes := #[27, 3, 32, 29, 3] }, type := 29, pos := "ref.go:58", after := #[{ on := 0, ground := Ground.data }, { on := 1, ground := Ground.data }, { on := 2, ground := Ground.data }, { on := 9, ground := Ground.data }], guard := none }) rfl (fun K hK => ?_) AllReadyH.nil
      have hcall := hid (hHf w5 hab9 (.slice (some ⟨w3.heap.size, 0, none⟩) (1 + N) (1 + N)) (List.replicate (1 + N) 0#64) (by rw [List.length_replicate]; exact hob5) (by rw [List.length_replicate]; omega) (by rw [List.length_replicate, show nkT (d + 1) v = N from HN.out.symm]; exact Nat.le_refl _) (by rw [List.length_replicate]; omega))
      go_simp
      ((refine hcall.out.mono ?_); rintro r9 w9 ⟨wv9, rfl, hF9⟩)
      obtain ⟨g7, c7, hwv9, hgb, hgl, hzc, hcm7⟩ := own_place hF9.own (by rw [← HZ.out]; omega)
      rw [← HZ.out] at hwv9 hzc
      subst hwv9
      refine hK.out _ _ ?_ (fun hHeld => ?_)
      · exact ⟨(HT.out _ (hab9.trans hF9.below)).c0, (HT.out _ (hab9.trans hF9.below)).c1, (HT.out _ (hab9.trans hF9.below)).c2, (HT.out _ (hab9.trans hF9.below)).c3, Hrow.out _ (hab9.trans hF9.below), hab9.trans hF9.below⟩
      clear hK K
      try simp only [Act.put, List.setIfInBounds_toArray, List.set_cons_zero, List.set_cons_succ]
      refine wpAnyH_take (i := 11) (oi := { dst := some 9, op := Op.assign (Operand.tmp 32), type := 29, pos := "ref.go:58", after := #[{ on := 10, ground := Ground.data }, { on := 10, ground := Ground.chain }, { on := 0, ground := Ground.phase }, { on := 1, ground := Ground.phase }, { on := 2, ground := Ground.phase }, { on := 3, ground := Ground.phase }, { on := 4, ground := Ground.phase }, { on := 5, ground := Ground.phase }, { on := 6, ground := Ground.phase }, { on := 7, ground := Ground.phase }, { on := 8, ground := Ground.phase }, { on := 9, ground := Ground.phase }, { on := 10, ground := Ground.phase }], guard := none }) (v := ?ve11) rfl (by kernel_rfl) (by kernel_rfl) (by kernel_rfl) (fun _ _ _ h => h) (Or.inl ⟨by rfl, ?hye11⟩) (by assumption) ?reste11
      case hye11 => first | (intro w hSw; (try dsimp only at hSw); go_simp; done) | (intro w hSw; (try dsimp only at hSw); go_simp; with_reducible rfl)
      try simp only [Act.put, List.setIfInBounds_toArray, List.set_cons_zero, List.set_cons_succ]
      refine wpAnyH_done (by kernel_rfl) ?_ _
      have hbA := hB3.trans ((hab9.trans hF9.below).mono hB3.size)
      generalize bldW s (d + 1) (tn : Int) v (List.replicate (1 + N) 0#64) 1 = W7 at *
      obtain ⟨y, y1, y2, y3⟩ := hF9.word HZ.out (o := 0) (by omega)
      have hfin := hid (y3 (refV (z : Int) (tn : Int)))
      have hz0 : 0 < z := by omega
      unfold maxLen at hcm7
      clear y3 hHeld hF9 HT hsum hab9 hHf Hrow
      go_wp2_with fail
      ((refine (hRef.out _).mono ?_); rintro r10 w9 ⟨rfl, rfl⟩)
      go_wp2_with fail
      go_returns
      exact ⟨_, by rw [HE.out]; rfl, by rw [HL.out, Hbw.out, List.length_set, ← HZ.out]; have h := kw_own (G := fun b => b < w.heap.size) hfin.out.own (fun g e => by have := (own_blk hfin.out.own e).2; have := hB3.size; show ¬ g < w.heap.size; omega); rw [List.length_set, ← HZ.out] at h; exact h, hbA.setCell (p := ⟨g7, 0, none⟩) (Nat.le_trans hB3.size hgb) _⟩
    · have HE := hid (show buildE s d (tn : Int) v = 21 by rw [buildE, if_pos Hx.out.symm, if_neg (by rw [← Hz.out]; exact hz2)])
      have HL := hid (show buildL s d (tn : Int) v = [] by rw [buildL, if_neg (by rw [HE.out]; decide)])
      have hzd : (200 : Int) < (z : Int) := by omega
      clear hz2 Hfill
      go_enter Tryd.func27, Tryd.ntmps27
      go_wp2_with fail
      ((refine hck.out.mono ?_); rintro r2 w2 ⟨rfl, hb2⟩)
      have hB2 := hb1.trans (hb2.mono hb1.size)
      replace hsz := hsz.out w2 hB2
      have ⟨_, u0, u1, u2, u3, _⟩ := HV.out w2 hb2
      clear hck v0 v1 v2 v3 hw1
      go_wp2_with fail
      ((refine hsz.mono ?_); rintro r3 w3 ⟨rfl, hb3⟩)
      have hB3 := via hB2 hb3
      clear hsz u0 u1 u2 u3
      go_wp2_with fail
      go_returns
      exact ⟨_, by rw [HE.out]; rfl, by rw [HL.out]; exact fun W _ => nil_words W, hB3⟩
  · have HE := hid (show buildE s d t v = x by rw [buildE, if_neg (by rw [← Hx.out]; exact hx0), ← Hx.out])
    have HL := hid (show buildL s d t v = [] by rw [buildL, if_neg (by rw [HE.out]; exact hx0)])
    have hxb : (x != 0) = true := by simpa using hx0
    have hxb2 : (x == 0) = false := by simpa using hx0
    clear hx0 Hfill hsz
    go_enter Tryd.func27, Tryd.ntmps27
    go_wp2_with fail
    ((refine hck.out.mono ?_); rintro r2 w2 ⟨rfl, hb2⟩)
    have hB2 := via hb1 hb2
    clear hck v0 v1 v2 v3 hw1
    go_wp2_with fail
    go_returns
    exact ⟨_, by rw [HE.out]; rfl, by rw [HL.out]; exact fun W _ => nil_words W, hB2⟩
theorem rbuild_any (s : Schema) (sv : Value) (d : Nat) (t : Int) (v : St (d + 1)) (cs : List Value) (w : World) (hs : Sch w sv s) (h : RdS (d + 1) w cs v) :
    Calls Tryd.prog 27 #[sv, .int .i64 t, .agg cs.toArray] w (RBuildP s d t v w) :=
  (rbuildK_any s sv d t v cs w hs h).mono fun e w' ⟨wv, h1, h2, h3⟩ => ⟨wv, h1, h2.now, h3⟩
end SRBuild

end Go.Proofs.YtblbhlgihlgncaaDoor

