/- Contracts of bits.Word, bits.Words. -/
import Derived.Test.YtblbhlgihlgncaaDoorGg
import Derived.Deep.QuietTactic
import Derived.BigQuiet
import Derived.Test.YtblbhlgihlgncaaDoorGj
import Derived.Test.YtblbhlgihlgncaaDoorGa
import Derived.Lib.AppendZerosOnto
import Derived.Maps.AppendAt
set_option linter.unusedVariables false
set_option linter.unusedSimpArgs false
namespace Go.Proofs.YtblbhlgihlgncaaDoor
section SBitsWords
open Go.RowKit

set_option maxHeartbeats 400000 in
theorem word_yes (s : ByteArray) (i : Nat) (w : World) (hs : s.size ≤ maxLen) (hi : (i : Int) < countV s.size) :
    Calls Tryd.prog 62 #[.string s, .int .i64 i] w fun e w' => e = .returned (U (wordV s.data.toList i)) ∧ w = w' := by
  unfold maxLen at hs
  have h8 : 8 * i < s.size := by unfold countV at hi; split at hi <;> omega
  have hi' : ¬ (countV s.size ≤ i) := by omega
  have hi2 : i ≤ 9223372036854775807 := by omega
  have Hi := hid hi
  clear hi
  go_enter Tryd.func62, Tryd.ntmps62
  go_wp2_with fail
  go_step3
  go_wp2_with fail
  ((with_reducible refine (count_any _ _ (by omega)).mono ?_); rintro e w' ⟨rfl, rfl⟩)
  go_wp2_with fail
  go_step3
  go_wp2_with fail
  have hd : Hid ((s.extract (8 * i) s.size).data.toList = s.data.toList.drop (8 * i)) := by
    show _ = _
    simp [List.take_of_length_le]
  have hz : (s.extract (8 * i) s.size).size = s.size - 8 * i := by simp
  generalize s.extract (8 * i) s.size = s' at *
  have hz1 : s'.size ≤ s.size - 8 * i := by omega
  have hz2 : s.size - 8 * i ≤ s'.size := by omega
  clear hz
  have hfin : ∀ k, k = min 8 s'.size → Hid (leV s'.data.toList k = wordV s.data.toList i) := fun k hk => by
    show _ = _
    rw [wordV_in _ _ k (by simpa using Hi.out) (by rw [hk]; congr 1; simp; omega), hd.out]
  go_loop [5, 20] (fun v c => ∃ k : Nat, k ≤ 8 ∧ k ≤ s'.size ∧ c = .int .i64 k ∧ v = U (leV s'.data.toList k)) (fun _ c => 8 - (intOf c).toNat)
  case atStart => exact ⟨0, by omega, by omega, rfl, rfl⟩
  case round =>
    obtain ⟨k, hk8, hks, rfl, rfl⟩ := hrel
    by_cases h1 : k < 8
    · by_cases h2 : k < s'.size
      · have h3 : ((k : Int) == (s'.size : Int)) = false := by simp; omega
        have HS := hid (leV_succ s' k h2)
        go_wp2
        go_round
        case rel => exact ⟨k + 1, by omega, by omega, by go_num, by rw [HS.out]⟩
        case measure => simp [intOf]; omega
      · have hf := hfin k (by omega)
        obtain rfl : k = s'.size := by omega
        go_wp2
        try rw [Exit.noGoto_ret]
        go_ret
        exact ⟨ret_U hf.out, rfl⟩
    · have hf := hfin k (by omega)
      obtain rfl : k = 8 := by omega
      go_wp2
      try rw [Exit.noGoto_ret]
      go_ret
      exact ⟨ret_U hf.out, rfl⟩

set_option maxHeartbeats 400000 in
theorem word_any (s : ByteArray) (i : Int) (w : World) (hs : s.size ≤ maxLen) :
    Calls Tryd.prog 62 #[.string s, .int .i64 i] w fun e w' => e = .returned (U (wordV s.data.toList i)) ∧ w = w' := by
  by_cases h0 : i < 0
  · have hr : Hid (wordV s.data.toList i = 0#64) := by unfold wordV; exact if_pos (.inl h0)
    go_enter Tryd.func62, Tryd.ntmps62
    go_wp2_with fail
    go_step3
    go_wp2_with fail
    try rw [Exit.noGoto_ret]
    go_ret
    exact ⟨by rw [hr.out]; rfl, rfl⟩
  · by_cases h1 : i < countV s.size
    · obtain ⟨k, rfl⟩ := Int.eq_ofNat_of_zero_le (by omega : 0 ≤ i)
      exact word_yes s k w hs h1
    · have hr : Hid (wordV s.data.toList i = 0#64) := by unfold wordV; exact if_pos (.inr (by simpa using h1))
      unfold maxLen at hs
      go_enter Tryd.func62, Tryd.ntmps62
      go_wp2_with fail
      go_step3
      go_wp2_with fail
      ((with_reducible refine (count_any _ _ (by omega)).mono ?_); rintro e w' ⟨rfl, rfl⟩)
      go_wp2_with fail
      try rw [Exit.noGoto_ret]
      go_ret
      exact ⟨by rw [hr.out]; rfl, rfl⟩

theorem infoU64 : (Tryd.prog.info? 28).map (fun i => (i.zero, i.size, i.bytes)) = some (some (.int .u64 0), 1, 8) := by kernel_rfl

set_option maxHeartbeats 400000 in
theorem words_own (s : ByteArray) (w : World) (hs : s.size ≤ 140737488351232) :
    Calls Tryd.prog 37 #[.string s] w (Gives w fun v w' => v = .slice (some ⟨w.heap.size, 0, none⟩) (countV s.size).toNat (countV s.size).toNat ∧ w'.ownsRow w.heap.size 28 1 v (countV s.size).toNat ((wordsV s.data.toList).map U)) := by
  obtain ⟨c, hc⟩ := Int.eq_ofNat_of_zero_le (count_le s.size (by omega)).1
  have hc8 := (count_le s.size (by omega)).2
  have hcn : (countV s.size).toNat = c := by omega
  rw [hcn]
  have hcl : 8 * c ≤ s.size + 7 := by omega
  have Hw := hid (wordsV_fill s.data.toList c (by simpa using hc))
  have Hc := hid hc
  clear hc hcn hc8
  obtain ⟨i0, hi, hz0, hz1, hz2⟩ := info_parts infoU64
  have hbd : i0.bytes * c ≤ 281474976710656 := by rw [hz2]; omega
  have hmx : c ≤ maxLen := by unfold maxLen; omega
  go_enter Tryd.func37, Tryd.ntmps37
  go_wp2_with fail
  ((with_reducible refine (count_any _ _ (by omega)).mono ?_); rintro e w' ⟨rfl, rfl⟩)
  rw [Hc.out]
  go_wp2_with (at_make; refine wpList_make_full _ rfl _ _ 29 rfl w.heap.size 28 i0 (.int .u64 0) 1 Tryd.underlying29 hi hz0 hz1 .i64 .i64 _ _ c rfl rfl rfl rfl hbd hmx (Nat.le_refl _) ?_)
  intro w1 hown hg
  have hb : Below w.heap.size w w1 := (Below.refl _ _).grown hg (Nat.le_refl _) (by intro k h; cases h)
  simp only [toList_madeCells_one, ← fillV_zero (fun i => U (wordV s.data.toList (i : Int)))] at hown
  clear hg
  generalize hB : w.heap.size = B at *
  go_wp2_with fail
  go_loopw [11] (fun i wr => ∃ k : Nat, k ≤ c ∧ i = .int .i64 k ∧ wr.ownsRow B 28 1 (.slice (some ⟨B, 0, none⟩) c c) c (fillV (fun i => U (wordV s.data.toList (i : Int))) (.int .u64 0) c k) ∧ Below B w wr) (fun i _ => c - (intOf i).toNat)
  case atStart => exact ⟨0, by omega, rfl, hown, hb⟩
  case round =>
    obtain ⟨k, hk, rfl, hown, hb⟩ := hrel
    by_cases h1 : k < c
    · obtain ⟨u, hcell⟩ := owns_has hown k (by omega)
      have hfr := hown.frozenAt k
      have hnew := (hown.stored k (U (wordV s.data.toList (k : Int)))).1
      rw [fillV_succ] at hnew
      have hb' := hb.setCell (p := ⟨B, k, none⟩) (Nat.le_refl _) (U (wordV s.data.toList (k : Int)))
      clear hown hb
      go_wp2_with fail
      ((with_reducible refine (word_any _ _ _ (by unfold maxLen; omega)).mono ?_); rintro e w' ⟨rfl, rfl⟩)
      go_wp2
      go_roundw
      case rel => exact ⟨k + 1, by omega, by go_num, hnew, hb'⟩
      case measure => simp [intOf]; omega
    · obtain rfl : k = c := by omega
      go_wp2
      go_ret
      exact ⟨_, rfl, hB ▸ hb, by rw [hB]; rfl, by rw [Hw.out, hB]; exact hown⟩

theorem bwords_any (s : ByteArray) (w : World) (hs : s.size ≤ 140737488351232) :
    Calls Tryd.prog 37 #[.string s] w (Gives w fun v w' => Row w' 1 v (countV s.size).toNat ((wordsV s.data.toList).map U)) :=
  (words_own s w hs).mono fun _ _ ⟨v, h1, h2, _, h4⟩ => ⟨v, h1, h2, Row.of_owns h4⟩
end SBitsWords

section SRefWords
open Go.RowKit

set_option maxHeartbeats 400000 in
theorem rword_yes (s : ByteArray) (i : Nat) (w : World) (hs : s.size ≤ 140737488351232) (hi : (i : Int) < countV s.size) :
    Calls Tryd.prog 82 #[.string s, .int .i64 i] w fun e w' => e = .returned (U (wordV s.data.toList i)) ∧ w = w' := by
  have Hw := hid (down_word s.data.toList i (by simpa using hi))
  have h8 : 8 * i < s.size := by unfold countV at hi; split at hi <;> omega
  have hi' : ¬ (countV s.size ≤ i) := by omega
  clear hi
  go_enter Tryd.func82, Tryd.ntmps82
  go_wp2_with fail
  ((with_reducible refine (rcount_any _ _ (by omega)).mono ?_); rintro e w' ⟨rfl, rfl⟩)
  go_wp2_with fail
  generalize hf : (fun k => s.data.toList.getD (8 * i + k) 0) = f at *
  have Hf := hid hf
  clear hf
  go_loop [5, 6] (fun v c => ∃ m : Nat, m ≤ 8 ∧ c = .int .i64 (7 - (m : Int)) ∧ v = U (downV f m)) (fun _ c => (intOf c + 1).toNat)
  case atStart => exact ⟨0, by omega, rfl, rfl⟩
  case round =>
    obtain ⟨m, hm, rfl, rfl⟩ := hrel
    by_cases hm8 : m < 8
    · obtain ⟨k, hk⟩ := Int.eq_ofNat_of_zero_le (show 0 ≤ 7 - (m : Int) by omega)
      have hk7 : k ≤ 7 := by omega
      have hst : downV f (m + 1) = 256#64 * downV f m + BitVec.ofNat 64 (f k).toNat := by rw [downV, show 7 - m = k by omega]
      have Hk := hid hk
      rw [hk]
      clear hk
      by_cases hlt : 8 * i + k < s.size
      · have hfk : f k = s[8 * i + k] := by
          rw [← Hf.out]
          show s.data.toList.getD (8 * i + k) 0 = _
          rw [List.getD_eq_getElem?_getD, List.getElem?_eq_getElem (by simpa using hlt), Option.getD_some]; rfl
        rw [hfk] at hst
        have Hst := hid hst
        clear hst hfk
        go_wp2
        go_round
        case rel => exact ⟨m + 1, by omega, by have := Hk.out; go_num, by rw [Hst.out]⟩
        case measure => have := Hk.out; simp [intOf] <;> omega
      · have hfk : f k = 0 := by
          rw [← Hf.out]
          show s.data.toList.getD (8 * i + k) 0 = _
          rw [List.getD_eq_getElem?_getD, List.getElem?_eq_none (by simp; omega)]; rfl
        rw [hfk] at hst
        have Hst := hid hst
        clear hst hfk
        go_wp2
        go_round
        case rel => exact ⟨m + 1, by omega, by have := Hk.out; go_num, by rw [Hst.out]; simp⟩
        case measure => have := Hk.out; simp [intOf] <;> omega
    · obtain rfl : m = 8 := by omega
      go_wp2
      go_ret
      exact ⟨ret_U Hw.out, rfl⟩

set_option maxHeartbeats 400000 in
theorem rword_any (s : ByteArray) (i : Int) (w : World) (hs : s.size ≤ 140737488351232) :
    Calls Tryd.prog 82 #[.string s, .int .i64 i] w fun e w' => e = .returned (U (wordV s.data.toList i)) ∧ w = w' := by
  by_cases h0 : i < 0
  · have hr : Hid (wordV s.data.toList i = 0#64) := by unfold wordV; exact if_pos (.inl h0)
    go_enter Tryd.func82, Tryd.ntmps82
    go_wp2_with fail
    go_ret
    exact ⟨by rw [hr.out]; rfl, rfl⟩
  · by_cases h1 : i < countV s.size
    · obtain ⟨k, rfl⟩ := Int.eq_ofNat_of_zero_le (by omega : 0 ≤ i)
      exact rword_yes s k w hs h1
    · have hr : Hid (wordV s.data.toList i = 0#64) := by unfold wordV; exact if_pos (.inr (by simpa using h1))
      go_enter Tryd.func82, Tryd.ntmps82
      go_wp2_with fail
      ((with_reducible refine (rcount_any _ _ (by omega)).mono ?_); rintro e w' ⟨rfl, rfl⟩)
      go_wp2_with fail
      go_ret
      exact ⟨by rw [hr.out]; rfl, rfl⟩

set_option maxHeartbeats 400000 in
theorem rwords_any (s : ByteArray) (w : World) (hs : s.size ≤ 1099511627776) :
    Calls Tryd.prog 73 #[.string s] w (Gives w fun v w' => Row w' 1 v (countV s.size).toNat ((wordsV s.data.toList).map U)) := by
  obtain ⟨c, hc⟩ := Int.eq_ofNat_of_zero_le (count_le s.size (by omega)).1
  have hc8 := (count_le s.size (by omega)).2
  have hcn : (countV s.size).toNat = c := by omega
  rw [hcn]
  have hcl : 8 * c ≤ s.size + 7 := by omega
  have hwl : (wordsV s.data.toList).length = c := by simp [wordsV, hc]
  have hwg : ∀ k, k < c → (wordsV s.data.toList).getD k 0#64 = wordV s.data.toList (k : Int) := fun k hk => by
    simp [wordsV, List.getD, hc, hk]
  generalize wordsV s.data.toList = ws at *
  have Hc := hid hc
  clear hc hcn hc8
  obtain ⟨i0, hi, hz0, hz1, hz2⟩ := info_parts infoU64
  have hbd : i0.bytes * c ≤ 281474976710656 := by rw [hz2]; omega
  have hmx : c ≤ maxLen := by unfold maxLen; omega
  have Hwl := hid hwl
  have Hwg := hid hwg
  clear hwl hwg
  generalize hB : w.heap.size = B at *
  have hown0 : w.ownsRow B 28 1 (.slice none 0 0) 0 ((ws.map U).take 0) := World.ownsRow_nil _ _ _ _
  go_enter Tryd.func73, Tryd.ntmps73
  go_wp2_with fail
  go_loopw [3, 4] (fun t i wr => ∃ k : Nat, k ≤ c ∧ i = .int .i64 k ∧ wr.ownsRow B 28 1 t k ((ws.map U).take k) ∧ Below B w wr) (fun _ i _ => c - (intOf i).toNat)
  case atStart => exact ⟨0, by omega, rfl, hown0, Below.refl _ _⟩
  case round =>
    clear hown0
    obtain ⟨k, hk, rfl, hown, hb⟩ := hrel
    go_wp2_with fail
    ((with_reducible refine (rcount_any _ _ (by omega)).mono ?_); rintro e w' ⟨rfl, rfl⟩)
    rw [Hc.out]
    by_cases hlt : k < c
    · go_wp2_with fail
      ((with_reducible refine (rword_any _ _ _ (by omega)).mono ?_); rintro e w' ⟨rfl, rfl⟩)
      go_wp2_with (at_builtin; refine wpList_append_own _ rfl (.tmp 12) (.tmp 16) 29 rfl B 28 i0 (.int .u64 0) 1 8 Tryd.underlying29 hi hz0 hz1 hz2 rfl (by decide) _ _ _ rfl (hown.alloc _) ⟨wr.heap.size, 0, none⟩ 1 1 [U (wordV s.data.toList (k : Int))] rfl rfl (cell_one_new _ _ _) (by intro u hu; simp at hu; subst hu; rfl) (by unfold maxLen; omega) (by omega) (by have := hb.size; simp; omega) ?_)
      intro v' w2 hown2 hg _
      have hb2 : Below B w w2 := own_below hb (by have := hb.size; omega) hown hg
      rw [← Hwg.out k hlt, mapU_take ws k (by rw [Hwl.out]; exact hlt)] at hown2
      clear hown hb hg
      go_wp2
      go_roundw
      case rel => exact ⟨k + 1, by omega, by go_num, hown2, hb2⟩
      case measure => simp [intOf] <;> omega
    · obtain rfl : k = c := by omega
      rw [List.take_of_length_le (by rw [List.length_map, Hwl.out]; exact Nat.le_refl _)] at hown
      have Hown := hid hown
      clear hown
      go_wp2
      go_ret
      exact ⟨_, rfl, hB ▸ hb, Row.of_owns Hown.out⟩
end SRefWords

section SAppZ
open Go.RowKit

theorem zeroCells_one (z : Value) (n : Nat) : (Builtin.zeroCells #[z] n).toList = List.replicate n z := by
  unfold Builtin.zeroCells
  apply List.ext_getElem?
  intro i
  rw [List.getElem?_replicate]
  by_cases h : i < n
  · rw [if_pos h]
    simp [h, Nat.mod_one]
  · rw [if_neg h]
    simp [h]

section
variable {P : Program} (w : World)

theorem run_append_room_zeros (t tn ty e : TypeId) (i : TypeInfo) (z : Value) (kn : IntKind) (ht : P.underlying t = some (.slice e)) (htn : P.underlying tn = some (.int kn)) (hi : P.info? e = some i) (hz : i.zero = some z) (hsz : i.size = 1) (hzc : z.cells = #[z]) (hz1 : z.oneCell' = true)
    (g sLen sCap : Nat) (cur : Array Value) (hg : w.heap[g]? = some (.cells cur e (0, 0))) (m : Nat) (hm : 0 < m) (h63 : (m : Int) ≤ 9223372036854775807) (h48 : m * i.bytes ≤ 281474976710656) (hroom : sLen + m ≤ sCap) (hfit : sLen + m ≤ cur.size) :
    (Builtin.append_ #[t, tn] ty #[.slice (some ⟨g, 0, none⟩) sLen sCap, .int .i64 m]).run P w =
      .ok (.slice (some ⟨g, 0, none⟩) (sLen + m) sCap) (w.setRow g (cur.toList.take sLen ++ List.replicate m z ++ cur.toList.drop (sLen + m)).toArray) := by
  have hst := run_storeCells_at P g sLen e (List.replicate m z) 0 cur w hg (by simpa using hfit) (fun u hu => by rw [List.eq_of_mem_replicate hu]; exact hz1)
  simp only [Nat.add_zero, List.length_replicate] at hst
  have hk : m ≠ 0 := by omega
  have hw : IntKind.i64.wrap (m : Int) = m := by rw [IntKind.wrap_i64]; omega
  have h48i : ¬ (281474976710656 < (m : Int) * (i.bytes : Int)) := by
    rw [← Int.natCast_mul]
    omega
  have hneg : ¬ ((m : Int) < 0) := by omega
  simp [Builtin.append_, run_underlying ht, run_underlying htn, sizeOf, typeInfo, zeroValue, hi, hz, asInt, asIntOf, hw, hk, hneg, h48i, hroom, hsz, hzc, zeroCells_one, Addr.add_lit, hst]

theorem run_append_zeros_at (base : Nat) (t tn ty e : TypeId) (i : TypeInfo) (z : Value) (bytes : Nat) (kn : IntKind) (ht : P.underlying t = some (.slice e)) (htn : P.underlying tn = some (.int kn)) (hi : P.info? e = some i) (hz : i.zero = some z) (hsz : i.size = 1) (hby : i.bytes = bytes) (hzc : z.cells = #[z]) (hz1 : z.oneCell' = true)
    (g cap n : Nat) (xs : List Value) (hown : w.ownsRow base e 1 (.slice (some ⟨g, 0, none⟩) n cap) n xs) (m : Nat) (hm : 0 < m) (h63 : n + m ≤ maxLen) (hbytes : (n + m) * bytes ≤ 140737488355328) (hbase : base ≤ w.heap.size) :
    ∃ v' w', (Builtin.append_ #[t, tn] ty #[.slice (some ⟨g, 0, none⟩) n cap, .int .i64 m]).run P w = .ok v' w' ∧ w'.ownsRow base e 1 v' (n + m) (xs ++ List.replicate m z) ∧ w.grownBy w' (some g) ∧ (v'.ownBlock = some g ∨ v'.ownBlock = some w.heap.size) := by
  subst hby
  have h63' := h63
  simp only [maxLen] at h63'
  have hlen : (xs ++ List.replicate m z).length = (n + m) * 1 := by rw [List.length_append, hown.1, List.length_replicate]; omega
  have hmb : m * i.bytes ≤ 281474976710656 := by
    have : m * i.bytes ≤ (n + m) * i.bytes := Nat.mul_le_mul_right _ (by omega)
    omega
  rcases hown.2 with ⟨e0, _⟩ | ⟨g', cap', cur, e0, hbg, hg, hnc, hcm, hcs, htake⟩
  · simp at e0
  · simp only [Value.slice.injEq, Option.some.injEq, Addr.mk.injEq, and_true, true_and] at e0
    obtain ⟨rfl, rfl⟩ := e0
    by_cases hroom : n + m ≤ cap
    · have hr := run_append_room_zeros (P := P) w t tn ty e i z kn ht htn hi hz hsz hzc hz1 g n cap cur hg m hm (by omega) hmb hroom (by omega)
      refine ⟨_, _, hr, ⟨hlen, .inr ⟨g, cap, _, rfl, hbg, setRow_heap w g cur _ e _ hg, hroom, hcm, ?_, ?_⟩⟩, ⟨rfl, rfl, rfl, by simp, fun k _ hk => setRow_other w g k _ (fun e => hk (by rw [e]))⟩, Or.inl rfl⟩
      · simp only [List.size_toArray, List.length_append, List.length_take, List.length_drop, Array.length_toList, List.length_replicate]
        omega
      · rw [Nat.mul_one] at htake
        rw [htake, ← hlen]
        exact List.take_left
    · have holds : ∀ j u, xs[j]? = some u → w.cell? ((⟨g, 0, none⟩ : Addr).add j) = some u := hown.cells (g := g) rfl
      have hold : (Builtin.firstCells i.size n (.slice (some ⟨g, 0, none⟩) n cap)).run P w.drew = .ok xs.toArray w.drew :=
        run_firstCells_some (P := P) w.drew i.size n ⟨g, 0, none⟩ n cap xs (by rw [hown.1, hsz]) (fun j u h => by have := holds j u h; simpa [go_sem] using this)
      have hr := Lib.run_append_grow_zeros (P := P) w t tn ty e i z .i64 kn ht htn hi hz (some ⟨g, 0, none⟩) n cap xs hold m hm (by omega) (by omega) (by omega) hmb (growslice_fits (by omega) hbytes)
      have hge := grownCap_ge w (n + m) cap e
      have hcm2 : grownCap w (n + m) cap e ≤ maxLen := grownCap_le_maxLen w (n + m) cap e h63
      refine ⟨_, _, hr, ⟨hlen, .inr ⟨w.heap.size, _, _, rfl, hbase, heap_alloc_new w.drew _, hge, hcm2, ?_, ?_⟩⟩, ⟨rfl, rfl, rfl, by simp, fun k hk _ => heap_alloc_old w.drew _ hk⟩, Or.inr rfl⟩
      · simp only [Array.size_append, List.size_toArray, size_zeroCells, hzc, hown.1]
        simp
        omega
      · simp only [Array.toList_append, List.append_assoc, hzc, zeroCells_one]
        rw [← List.append_assoc, ← hlen]
        exact List.take_left

/-- At the operation, for the walk. -/
theorem wpList_append_zeros_at {ops : Array Oper} {rest : List Oper} {o : Oper} {a : Act} {Q : Exit → Act → World → Prop} (hgd : o.guard = none) (s x : Operand) (t tn : TypeId)
    (ho : o.op = .call { callee := .builtin .append, args := #[s, x], argTypes := #[t, tn] })
    (base : Nat) (e : TypeId) (i : TypeInfo) (z : Value) (bytes : Nat) (kn : IntKind) (ht : P.underlying t = some (.slice e)) (htn : P.underlying tn = some (.int kn)) (hi : P.info? e = some i) (hz : i.zero = some z) (hsz : i.size = 1) (hby : i.bytes = bytes) (hzc : z.cells = #[z]) (hz1 : z.oneCell' = true)
    (g cap n : Nat) (xs : List Value) (hs : a.eval s = .slice (some ⟨g, 0, none⟩) n cap) (hown : w.ownsRow base e 1 (.slice (some ⟨g, 0, none⟩) n cap) n xs) (m : Nat) (hx : a.eval x = .int .i64 m) (hm : 0 < m) (h63 : n + m ≤ maxLen) (hbytes : (n + m) * bytes ≤ 140737488355328) (hbase : base ≤ w.heap.size)
    (h : ∀ v' w', w'.ownsRow base e 1 v' (n + m) (xs ++ List.replicate m z) → w.grownBy w' (some g) → (v'.ownBlock = some g ∨ v'.ownBlock = some w.heap.size) → wpList P ops Q rest (a.put o.dst v') w') :
    wpList P ops Q (o :: rest) a w := by
  refine wpList_plain hgd fun K hK => ?_
  obtain ⟨v', w', hr, h2, h3, h4⟩ := run_append_zeros_at (P := P) w base t tn o.type e i z bytes kn ht htn hi hz hsz hby hzc hz1 g cap n xs hown m hm h63 hbytes hbase
  unfold Oper.wp execOp
  simp only [ho, resolve, invoke, builtin, Sem.run_bind, Sem.run_pure, Result.andThen_ok, List.map_toArray, List.map_cons, List.map_nil, hs, hx, hr]
  exact hK _ _ (h v' w' h2 h3 h4)
end
end SAppZ

end Go.Proofs.YtblbhlgihlgncaaDoor

