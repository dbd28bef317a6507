/- A drawn region whose last operation is a store: what the others load is kept till then. Append onto a row of the call's own, in such a region. -/
import Derived.Test.YtblbhlgihlgncaaDoorGa
import Derived.Deep.RegionHeld3
import Derived.Maps.AppendAt
import Derived.Test.YtblbhlgihlgncaaDoorValL
import Derived.Test.YtblbhlgihlgncaaDoorGf
import Derived.Test.YtblbhlgihlgncaaDoorGd
import Derived.Test.YtblbhlgihlgncaaDoorGh
set_option linter.unusedVariables false
set_option linter.unusedSimpArgs false
namespace Go.Proofs.YtblbhlgihlgncaaDoor
section SOrd
open Go.RowKit

section
variable {P : Program} {ops : Array Oper} {Q : Exit → Act → World → Prop} {md : Region.Mode} {S : World → Prop} {last : Nat}

/-- Whatever order is picked from here on; S holds behind every operation but the last one. -/
def wpAnyK (P : Program) (md : Region.Mode) (ops : Array Oper) (Q : Exit → Act → World → Prop) (S : World → Prop) (last : Nat) : Nat → Array Bool → Act → World → Prop
  | 0, listed, a, w => Region.ready md ops listed = [] ∧ Q .normal a w
  | fuel + 1, listed, a, w =>
    (Region.ready md ops listed = [] → Q .normal a w) ∧
    ∀ i ∈ Region.ready md ops listed, wpOp P ops Q i (fun a' w' => (i = last ∨ S w') ∧ wpAnyK P md ops Q S last fuel (listed.setIfInBounds i true) a' w') a w
theorem wpAny_of_kept : ∀ (fuel : Nat) (listed : Array Bool) (a : Act) (w : World), wpAnyK P md ops Q S last fuel listed a w → wpAny P md ops Q fuel listed a w
  | 0, _, _, _, h => h
  | fuel + 1, _, _, _, h => ⟨h.1, fun i hi => wpOp_mono (fun a' w' h' => wpAny_of_kept fuel _ a' w' h'.2) (h.2 i hi)⟩

/-- The last one waits for number i. -/
def waitsFor (md : Region.Mode) (ops : Array Oper) (last i : Nat) : Bool := match ops[last]? with
  | some o => o.after.any fun e => Region.binds md e && e.on == i
  | none => false

theorem wpAnyK_first {i : Nat} {oi : Oper} {v : Value} (hi : ops[i]? = some oi) (hsel : ∀ (j : Nat) (o : Oper) cs b, ops[j]? = some o → o.op ≠ .select cs b)
    (hQ : ∀ c a w, Q (.panic c) (a.put oi.dst v) w → Q (.panic c) a w) (hl : waitsFor md ops last i = true) :
    ∀ (fuel : Nat) (listed : Array Bool) (a : Act) (w : World),
      (∀ j oj, ops[j]? = some oj → j ≠ i → listed.getD j true = false → (∀ e ∈ oj.after, Region.binds md e = true → e.on ≠ i) → oi.apart ops oj = true) →
      i ∈ Region.ready md ops listed → YieldsIf P ops S oi v a → S w →
      wpAnyK P md ops Q S last fuel (listed.setIfInBounds i true) (a.put oi.dst v) w → wpAnyK P md ops Q S last (fuel + 1) listed a w := by
  intro fuel
  induction fuel with
  | zero =>
    intro listed a w _ hr hy hS H
    refine ⟨fun h => (by rw [h] at hr; cases hr), fun j hj => ?_⟩
    by_cases hji : j = i
    · subst hji; exact hy.wpOp hi hS ⟨.inr hS, H⟩
    · have := ready_mono hj hji
      rw [H.1] at this
      cases this
  | succ fuel ih =>
    intro listed a w hfree hr hy hS H
    refine ⟨fun h => (by rw [h] at hr; cases hr), fun j hj => ?_⟩
    by_cases hji : j = i
    · subst hji; exact hy.wpOp hi hS ⟨.inr hS, H⟩
    · have h1 := H.2 j (ready_mono hj hji)
      obtain ⟨hjun, oj, hoj, hall⟩ := mem_ready.1 hj
      have hnot : ∀ e ∈ oj.after, Region.binds md e = true → e.on ≠ i := fun e he hb heq => by
        have h1 := hall e he hb
        have h0 := (mem_ready.1 hr).1
        rw [heq] at h1
        rcases Nat.lt_or_ge i listed.size with h' | h'
        · simp [h'] at h0 h1; rw [h0] at h1; cases h1
        · simp [Array.getElem?_eq_none h'] at h1
      have hjl : j ≠ last := fun e => by
        subst e
        unfold waitsFor at hl
        rw [hoj] at hl
        simp only [Array.any_eq_true, Bool.and_eq_true, beq_iff_eq] at hl
        obtain ⟨k, hk, hb, ho⟩ := hl
        exact hnot _ (Array.getElem_mem hk) hb ho
      have h2 := wpOp_putIf hoj (hfree j oj hoj hji hjun hnot) (fun cs b => hsel i oi cs b hi) (fun cs b => hsel j oj cs b hoj) hQ hy h1
      have hfree' : ∀ k ok, ops[k]? = some ok → k ≠ i → (listed.setIfInBounds j true).getD k true = false →
          (∀ e ∈ ok.after, Region.binds md e = true → e.on ≠ i) → oi.apart ops ok = true := fun k ok hk hki hun hno => by
        refine hfree k ok hk hki ?_ hno
        by_cases hjk : j = k
        · subst hjk; exact hjun
        · rw [getD_set_ne true hjk] at hun; exact hun
      refine wpOp_mono (fun a' w' h3 => ?_) h2
      have hS3 : S w' := h3.2.1.resolve_left hjl
      refine ⟨.inr hS3, ih (listed.setIfInBounds j true) a' w' hfree' (ready_mono hr (Ne.symm hji)) h3.1 hS3 ?_⟩
      rw [Array.setIfInBounds_comm _ _ hji]
      exact h3.2.2

theorem wpAnyK_take {i : Nat} {oi : Oper} {v : Value} {fuel : Nat} {listed : Array Bool} {a : Act} {w : World} (hi : ops[i]? = some oi)
    (hs : Region.noSelect ops = true) (hf : Region.free md ops listed i = true) (hr : (Region.ready md ops listed).contains i = true) (hl : waitsFor md ops last i = true)
    (hQ : ∀ c a w, Q (.panic c) (a.put oi.dst v) w → Q (.panic c) a w) (hy : YieldsIf P ops S oi v a) (hS : S w)
    (h : wpAnyK P md ops Q S last fuel (listed.setIfInBounds i true) (a.put oi.dst v) w) : wpAnyK P md ops Q S last (fuel + 1) listed a w :=
  wpAnyK_first hi (Region.noSelect_spec hs) hQ hl fuel listed a w (Region.free_spec hi hf) (by simpa using hr) hy hS h
theorem wpAnyK_done {listed : Array Bool} {a : Act} {w : World} (hr : Region.ready md ops listed = []) (h : Q .normal a w) : ∀ fuel, wpAnyK P md ops Q S last fuel listed a w
  | 0 => ⟨hr, h⟩
  | _ + 1 => ⟨fun _ => h, by rw [hr]; simp⟩
def AllReadyK (P : Program) (md : Region.Mode) (ops : Array Oper) (Q : Exit → Act → World → Prop) (S : World → Prop) (last : Nat) (fuel : Nat) (listed : Array Bool) (a : Act) (w : World) (rs : List Nat) : Prop :=
  ∀ i ∈ rs, wpOp P ops Q i (fun a' w' => (i = last ∨ S w') ∧ wpAnyK P md ops Q S last fuel (listed.setIfInBounds i true) a' w') a w
theorem AllReadyK.nil {fuel : Nat} {listed : Array Bool} {a : Act} {w : World} : AllReadyK P md ops Q S last fuel listed a w [] := fun _ h => by cases h
theorem AllReadyK.cons {fuel : Nat} {listed : Array Bool} {a : Act} {w : World} {i : Nat} {o : Oper} {rs : List Nat} (ho : ops[i]? = some o)
    (h : ∀ K' : Act → World → Prop, Shut (∀ a w, (i = last ∨ S w) → ((i = last ∨ S w) → wpAnyK P md ops Q S last fuel (listed.setIfInBounds i true) a w) → K' a w) → if Region.wanted o (yielded ops a.tmps) = true then Oper.wp P o a w K' Q else K' (a.put o.dst undef) w)
    (hs : AllReadyK P md ops Q S last fuel listed a w rs) : AllReadyK P md ops Q S last fuel listed a w (i :: rs) := fun j hj => by
  rcases List.mem_cons.1 hj with rfl | hj
  · exact wpOp_step ho (fun K' hK => h K' (fun a w hS hW => hK a w ⟨hS, hW hS⟩))
  · exact hs j hj
theorem wpAnyK_ready {rs : List Nat} {fuel : Nat} {listed : Array Bool} {a : Act} {w : World} (hr : Region.ready md ops listed = rs) (hne : rs ≠ [])
    (h : AllReadyK P md ops Q S last fuel listed a w rs) : wpAnyK P md ops Q S last (fuel + 1) listed a w := ⟨fun h0 => absurd (hr ▸ h0) hne, hr ▸ h⟩
theorem wp_region_kept (last : Nat) (S : World → Prop) {id : Nat} {a : Act} {w : World} (hm : P.follows .mixedOrders = true) (hS : S w.drew)
    (h : S w.drew → wpAnyK P .any ops Q S last ops.size (Array.replicate ops.size false) a w.drew) : (Code.region id ops true).wp P Q a w :=
  wp_region_any hm (wpAny_of_kept _ _ _ _ (h hS))

theorem wp_append_own_at (w : World) {o : Oper} {a : Act} {K : Act → World → Prop} {Q : Exit → Act → World → Prop} (s x : Operand) (t : TypeId)
    (ho : o.op = .call { callee := .builtin .append, args := #[s, x], argTypes := #[t, t] })
    (base : Nat) (e : TypeId) (i : TypeInfo) (z : Value) (size bytes : Nat) (ht : P.underlying t = some (.slice e)) (hi : P.info? e = some i) (hz : i.zero = some z)
    (hsize : i.size = size) (hby : i.bytes = bytes) (hzs : z.cells.size = size) (hsz : 0 < size)
    (v : Value) (n : Nat) (xs : List Value) (hs : a.eval s = v) (hown : w.ownsRow base e size v n xs)
    (ad : Addr) (m c : Nat) (news : List Value) (hx : a.eval x = .slice (some ad) m c) (hl : news.length = m * size) (hnews : ∀ j u, news[j]? = some u → w.cell? (ad.add j) = some u) (h1 : ∀ u ∈ news, u.oneCell' = true)
    (h63 : n + m ≤ maxLen) (hbytes : (n + m) * bytes ≤ 140737488355328) (hbase : base ≤ w.heap.size)
    (h : ∀ v' w', w'.ownsRow base e size v' (n + m) (xs ++ news) → w.grownBy w' v.ownBlock → (v' = .slice none 0 0 ↔ v = .slice none 0 0 ∧ m = 0) → (v'.ownBlock = v.ownBlock ∨ v'.ownBlock = some w.heap.size) → K (a.put o.dst v') w') : o.wp P a w K Q := by
  obtain ⟨v', w', hr, h2, h3, h4, h5⟩ := run_append_own_at (P := P) w base t o.type e i z size bytes ht hi hz hsize hby hzs hsz v n xs hown ad m c news hl hnews h1 h63 hbytes hbase
  unfold Oper.wp execOp
  simp only [ho, resolve, invoke, builtin, Sem.run_bind, Sem.run_pure, Result.andThen_ok, List.map_toArray, List.map_cons, List.map_nil, hs, hx, hr]
  exact h v' w' h2 h3 h4 h5
end
end SOrd

section SDecV
open Go.RowKit

/-- The field whose word lies at p. -/
def decF {α : Type} (ws : List (BitVec 64)) (rec : Int → Nat → Nat → List α) (fd : Int × Int) (p : Nat) : Node α :=
  if fd.1 = 1 then ⟨ws.getD p 0#64, ⟨#[]⟩, [], []⟩
  else if ws.getD p 0#64 = 0#64 then ⟨0#64, ⟨#[]⟩, [], []⟩
  else if fd.1 = 2 then ⟨0#64, ⟨(textV ((ws.drop (p + loN (ws.getD p 0#64))).take ((hiN (ws.getD p 0#64) + 7) / 8)) (hiN (ws.getD p 0#64) : Nat)).toArray⟩, [], []⟩
  else if fd.1 = 3 then ⟨0#64, ⟨#[]⟩, (ws.drop (p + loN (ws.getD p 0#64))).take (hiN (ws.getD p 0#64)), []⟩
  else ⟨0#64, ⟨#[]⟩, [], rec fd.2 (p + loN (ws.getD p 0#64)) (hiN (ws.getD p 0#64))⟩
/-- A row of n structs that lie from a word on, less than d + 1 deep. -/
def decR (s : Schema) (ws : List (BitVec 64)) : (d : Nat) → Int → Nat → Nat → List (St d)
  | 0, _, _, _ => []
  | d + 1, ty, to, n => (List.range n).map fun (j : Nat) => (⟨0#64, ⟨#[]⟩, [], (List.range (typeL s ty).length).map fun (i : Nat) => decF ws (decR s ws d) (fieldP s ty i) (to + j * (typeL s ty).length + i)⟩ : Node (Node (St d)))
/-- The struct whose words lie at p. -/
def decS (s : Schema) (ws : List (BitVec 64)) (d : Nat) (t : Int) (p : Nat) : St (d + 1) :=
  (⟨0#64, ⟨#[]⟩, [], (List.range (typeL s t).length).map fun (i : Nat) => decF ws (decR s ws d) (fieldP s t i) (p + i)⟩ : Node (Node (St d)))
theorem decR_succ (s : Schema) (ws : List (BitVec 64)) (d : Nat) (ty : Int) (to n : Nat) : decR s ws (d + 1) ty to n = (List.range n).map fun (j : Nat) => decS s ws d ty (to + j * (typeL s ty).length) := rfl
theorem decR_len (s : Schema) (ws : List (BitVec 64)) (d : Nat) (ty : Int) (to n : Nat) : (decR s ws (d + 1) ty to n).length = n := by rw [decR_succ]; simp
theorem decS_kids (s : Schema) (ws : List (BitVec 64)) (d : Nat) (t : Int) (p : Nat) : Node.kids (decS s ws d t p) = (List.range (typeL s t).length).map fun (i : Nat) => decF ws (decR s ws d) (fieldP s t i) (p + i) := rfl

theorem runN_each {f : Nat → Nat → LS} : ∀ {n c c' : Nat}, runN f n c = (c', none) → ∀ i, i < n → ∃ a b, f i a = (b, none)
  | 0, _, _, _, i, hi => absurd hi (by omega)
  | n + 1, c, c', h, i, hi => by
    rw [runN] at h
    split at h
    · next c2 e =>
      by_cases hin : i = n
      · subst hin; exact ⟨_, _, h⟩
      · exact runN_each e i (by omega)
    · next c2 e2 e => cases h

/-- The words of a struct were looked at, and are right. -/
def VisOk (s : Schema) (ws : List (BitVec 64)) (k : Nat) (t : Int) (p : Nat) : Prop := p + (typeL s t).length ≤ ws.length ∧ ∃ c c', visN s ws k t p c = (c', none)
/-- A field's word is right: what it refers to is there. -/
def OneOk (s : Schema) (ws : List (BitVec 64)) (k : Nat) (fd : Int × Int) (p : Nat) : Prop :=
  fd.1 = 1 ∨ ws.getD p 0#64 = 0#64 ∨ (fd.1 ≠ 1 ∧ ws.getD p 0#64 ≠ 0#64 ∧ 0 < loN (ws.getD p 0#64) ∧ 0 < hiN (ws.getD p 0#64) ∧ hiN (ws.getD p 0#64) ≤ mostN fd.1 ∧
    ((fd.1 = 3 ∧ p + loN (ws.getD p 0#64) + hiN (ws.getD p 0#64) ≤ ws.length) ∨
     (fd.1 = 2 ∧ p + loN (ws.getD p 0#64) + (hiN (ws.getD p 0#64) + 7) / 8 ≤ ws.length ∧ textOk ((ws.drop (p + loN (ws.getD p 0#64))).take ((hiN (ws.getD p 0#64) + 7) / 8)) (hiN (ws.getD p 0#64) : Nat) = true) ∨
     (fd.1 ≠ 2 ∧ fd.1 ≠ 3 ∧ ∃ k', k = k' + 1 ∧ p + loN (ws.getD p 0#64) + hiN (ws.getD p 0#64) * (typeL s fd.2).length ≤ ws.length ∧ ∀ j, j < hiN (ws.getD p 0#64) → VisOk s ws k' fd.2 (p + loN (ws.getD p 0#64) + j * (typeL s fd.2).length))))

theorem vis_one {s : Schema} {ws : List (BitVec 64)} {k : Nat} {t : Int} {p : Nat} (h : VisOk s ws k t p) {i : Nat} (hi : i < (typeL s t).length) : OneOk s ws k (fieldP s t i) (p + i) := by
  obtain ⟨hl, c, c', hv⟩ := h
  unfold visN at hv
  obtain ⟨a, b, h1⟩ := runN_each hv i hi
  generalize fieldP s t i = fd at *
  unfold oneN at h1
  by_cases e1 : fd.1 = 1
  · exact .inl e1
  by_cases e0 : ws.getD (p + i) 0#64 = 0#64
  · exact .inr (.inl e0)
  rw [if_neg (by intro e; rcases e with e | e; exact e1 e; exact e0 e)] at h1
  split at h1
  · cases h1
  next hx =>
  refine .inr (.inr ⟨e1, e0, by omega, by omega, by omega, ?_⟩)
  generalize ws.getD (p + i) 0#64 = x at *
  unfold refN at h1
  by_cases e3 : fd.1 = 3
  · rw [if_pos e3] at h1
    exact .inl ⟨e3, (clV_none h1).2.1⟩
  rw [if_neg e3] at h1
  by_cases e2 : fd.1 = 2
  · rw [if_pos e2] at h1
    split at h1
    · next c2 e =>
      have hc := (clV_none e).2.1
      refine .inr (.inl ⟨e2, hc, ?_⟩)
      injection h1 with h1 h2
      split at h2
      · next ht => exact ht
      · cases h2
    · cases h1
  rw [if_neg e2] at h1
  refine .inr (.inr ⟨e2, e3, ?_⟩)
  cases k with
  | zero => simp only [subN] at h1; cases h1
  | succ k =>
    rw [subN_succ] at h1
    simp only at h1
    split at h1
    · next c2 e =>
      have hc := (clV_none e).2.1
      refine ⟨k, rfl, hc, fun j hj => ?_⟩
      obtain ⟨a2, b2, h2⟩ := runN_each h1 j hj
      refine ⟨?_, a2, b2, h2⟩
      have hmul : j * (typeL s fd.2).length + (typeL s fd.2).length ≤ hiN x * (typeL s fd.2).length := by
        rw [← Nat.succ_mul]; exact Nat.mul_le_mul_right _ hj
      omega
    · cases h1

/-- Words that are right: they are of a type, and so many. -/
theorem all_vis {s : Schema} {ws : List (BitVec 64)} (h : (allW s ws).1 = 0) : rightB s = true ∧ 0 < ws.length ∧ ws.length ≤ 200 ∧ loN (ws.getD 0 0#64) = ws.length ∧ hiN (ws.getD 0 0#64) < s.length ∧ VisOk s ws 4 (hiN (ws.getD 0 0#64) : Nat) 1 := by
  unfold allW at h
  split at h
  · simp at h
  next hr =>
  split at h
  · simp at h
  next hl =>
  split at h
  · next c e =>
    unfold runW at e
    split at e
    · cases e
    next h0 =>
    split at e
    · next c2 e2 =>
      have hc := (clV_none e2).2.1
      exact ⟨by simpa using hr, by omega, by omega, by omega, by omega, by omega, _, _, e⟩
    · cases e
  · next c e' p e =>
    exfalso
    have hb := runW_bd (by simpa using hr) (ws := ws) (by omega)
    rw [e] at hb
    have := hb.code e' p rfl
    simp only at h
    omega

theorem field_kd {s : Schema} (hr : rightB s = true) {t : Int} {i : Nat} (hi : i < (typeL s t).length) : 1 ≤ (fieldP s t i).1 ∧ (fieldP s t i).1 ≤ 5 ∧ 0 ≤ (fieldP s t i).2 ∧ (fieldP s t i).2 < s.length := by
  obtain ⟨q, hq⟩ := get_lt hi
  rw [fieldP_at hq]
  by_cases ht : 0 ≤ t ∧ t < s.length
  · obtain ⟨l, hl⟩ := get_lt (l := s) (i := t.toNat) (by omega)
    have e := typeL_at hl
    rw [show ((t.toNat : Nat) : Int) = t by omega] at e
    rw [e] at hq
    obtain ⟨a, b, c, d, _⟩ := right_at hr hl hq
    exact ⟨a, b, c, d⟩
  · rw [typeL_out ht] at hi; simp at hi

theorem textV_size {ws : List (BitVec 64)} {n : Nat} (h : textOk ws n = true) : (textV ws n).length = n := by
  unfold textV
  rw [if_pos h, List.length_take, bytesV_length, Int.toNat_natCast]
  unfold textOk at h
  simp only [Bool.and_eq_true, decide_eq_true_eq] at h
  have := h.1.2
  unfold countV at this
  split at this <;> omega

/-- A field that is decoded is as its kind may be. -/
theorem decF_has {s : Schema} {ws : List (BitVec 64)} {k : Nat} {fd : Int × Int} {p : Nat} (hk : 1 ≤ fd.1 ∧ fd.1 ≤ 5) (h : OneOk s ws k fd p) : hasB fd.1 (decF ws (decR s ws k) fd p) = true := by
  unfold decF
  unfold OneOk at h
  generalize ws.getD p 0#64 = x at *
  by_cases e1 : fd.1 = 1
  · rw [if_pos e1, e1]; rfl
  rw [if_neg e1]
  by_cases e0 : x = 0#64
  · rw [if_pos e0]
    unfold hasB hasV
    have : (⟨#[]⟩ : ByteArray).size = 0 := rfl
    simp [this, e1]
    omega
  rw [if_neg e0]
  rcases h with h | h | ⟨_, _, h1, h2, h3, h4⟩
  · exact absurd h e1
  · exact absurd h e0
  have hz : (⟨#[]⟩ : ByteArray).size = 0 := rfl
  by_cases e2 : fd.1 = 2
  · rw [if_pos e2]
    rcases h4 with h4 | h4 | h4
    · omega
    · have ht := textV_size h4.2.2
      have hsz : (⟨(textV ((ws.drop (p + loN (x))).take ((hiN (x) + 7) / 8)) (hiN (x) : Nat)).toArray⟩ : ByteArray).size = hiN (x) := by
        show (List.toArray _).size = _
        rw [List.size_toArray]; exact ht
      unfold mostN at h3
      rw [if_pos e2] at h3
      unfold hasB hasV
      rw [hsz]
      simp [e2]
      omega
    · exact absurd e2 h4.1
  rw [if_neg e2]
  by_cases e3 : fd.1 = 3
  · rw [if_pos e3]
    unfold mostN at h3
    rw [if_neg e2, if_neg (by omega)] at h3
    unfold hasB hasV
    simp [e3, hz]
    omega
  rw [if_neg e3]
  rcases h4 with h4 | h4 | ⟨_, _, k', rfl, hc, hv⟩
  · exact absurd h4.1 e3
  · exact absurd h4.1 e2
  unfold hasB
  simp only [decR_len]
  unfold hasV mostN at *
  rw [if_neg e2] at h3
  by_cases e4 : fd.1 = 4
  · rw [if_pos e4] at h3
    simp [e4, hz]
    exact h3
  · rw [if_neg e4] at h3
    have e5 : fd.1 = 5 := by omega
    simp [e5, hz]
    exact h3

/-- What right words are decoded to is a struct of their type. -/
theorem dec_code {s : Schema} (hr : rightB s = true) {ws : List (BitVec 64)} : ∀ (k left : Nat) (t : Int) (p : Nat), VisOk s ws k t p → k + 1 ≤ left → codeT s (k + 1) left t (decS s ws k t p) = 0 := by
  intro k
  induction k with
  | zero =>
    intro left t p h hl
    rw [codeT, if_neg (by omega), if_neg (by rw [decS_kids]; simp [decS]; rfl)]
    refine firstE_none _ _ 0 fun i q hq => ?_
    rw [decS_kids, List.getElem?_map] at hq
    have hi : i < (typeL s t).length := by
      by_cases hi : i < (typeL s t).length
      · exact hi
      · rw [List.getElem?_eq_none (by simpa using hi)] at hq; simp at hq
    rw [List.getElem?_range hi] at hq
    simp only [Option.map_some, Option.some.injEq] at hq
    subst hq
    rw [Nat.zero_add, if_pos (decF_has (by have := field_kd hr hi; omega) (vis_one h hi))]
    refine firstE_none _ _ 0 fun j x hx => nomatch x
  | succ k ih =>
    intro left t p h hl
    rw [codeT, if_neg (by omega), if_neg (by rw [decS_kids]; simp [decS]; rfl)]
    refine firstE_none _ _ 0 fun i q hq => ?_
    rw [decS_kids, List.getElem?_map] at hq
    have hi : i < (typeL s t).length := by
      by_cases hi : i < (typeL s t).length
      · exact hi
      · rw [List.getElem?_eq_none (by simpa using hi)] at hq; simp at hq
    rw [List.getElem?_range hi] at hq
    simp only [Option.map_some, Option.some.injEq] at hq
    subst hq
    have hone := vis_one h hi
    rw [Nat.zero_add, if_pos (decF_has (by have := field_kd hr hi; omega) hone)]
    refine firstE_none _ _ 0 fun j x hx => ?_
    generalize fieldP s t i = fd at *
    unfold decF at hx
    split at hx
    · simp at hx
    split at hx
    · simp at hx
    split at hx
    · simp at hx
    split at hx
    · simp at hx
    rcases hone with ho | ho | ⟨_, _, h1, h2, h3, h4⟩
    · contradiction
    · contradiction
    rcases h4 with h4 | h4 | ⟨_, _, k', e, hc, hv⟩
    · exact absurd h4.1 (by assumption)
    · exact absurd h4.1 (by assumption)
    obtain rfl : k = k' := by omega
    simp only [decR_succ, List.getElem?_map] at hx
    have hj : j < hiN (ws.getD (p + i) 0#64) := by
      by_cases hj : j < hiN (ws.getD (p + i) 0#64)
      · exact hj
      · rw [List.getElem?_eq_none (by simpa using hj)] at hx; simp at hx
    rw [List.getElem?_range hj] at hx
    simp only [Option.map_some, Option.some.injEq] at hx
    subst hx
    exact ih (left - 1) _ _ (hv j hj) (by omega)
theorem dec_check {s : Schema} {ws : List (BitVec 64)} (h : (allW s ws).1 = 0) : checkC s 5 (hiN (ws.getD 0 0#64) : Nat) (decS s ws 4 (hiN (ws.getD 0 0#64) : Nat) 1) = 0 := by
  obtain ⟨hr, _, _, _, ht, hv⟩ := all_vis h
  rw [checkC, if_pos ⟨hr, by omega, by omega⟩]
  exact dec_code hr 4 5 _ 1 hv (by omega)

/-- A node of which only some parts are there. -/
theorem node_of {α : Type} {k : Node α} {x : BitVec 64} {b : ByteArray} {n : List (BitVec 64)} {l : List α} (h1 : k.num = x) (h2 : k.bytes = b) (h3 : k.nums = n) (h4 : k.kids = l) : (⟨x, b, n, l⟩ : Node α) = k := by
  subst h1 h2 h3 h4; rfl
theorem bytes_none {b : ByteArray} (h : b.size = 0) : b = ⟨#[]⟩ := by
  cases b with
  | mk a => congr 1; exact Array.eq_empty_of_size_eq_zero h

/-- A field that lies in its place is decoded to itself. -/
theorem decF_lie {s : Schema} {d left : Nat} {kd ty : Int} {k : Node (St d)} {ws : List (BitVec 64)} {p lo : Nat} (hb : hasB kd k = true) (hx : ∀ y ∈ k.kids, codeT s d left ty y = 0) (hL : ws.length ≤ 1000000)
    (h : LieF (typeL s ty).length (belowT d) (fun y p' lo' => LieS s d ty y ws p' lo') kd k ws p lo) (hpl : p < lo) (hll : lo + fszT d k ≤ ws.length)
    (ih : ∀ (j : Nat) (y : St d) (lo' : Nat), k.kids[j]? = some y → LieS s d ty y ws (lo + j * (typeL s ty).length) lo' → (decR s ws d ty lo k.kids.length)[j]? = some y) :
    decF ws (decR s ws d) (kd, ty) p = k := by
  unfold LieF at h
  unfold decF
  simp only
  by_cases k1 : kd = 1
  · obtain ⟨e1, e2, e3⟩ := hasB_num hb k1
    rw [if_pos k1] at h ⊢
    have e : ws.getD p 0#64 = k.num := by rw [List.getD_eq_getElem?_getD, h]; rfl
    rw [e]
    exact node_of rfl (bytes_none e1) (List.eq_nil_of_length_eq_zero e2) (List.eq_nil_of_length_eq_zero e3)
  rw [if_neg k1] at h ⊢
  have hfz : fszT d k = (k.bytes.size + 7) / 8 + k.nums.length + sumL (wordsT d) k.kids := rfl
  have H : ∀ n : Nat, RefW ws p lo n → n < 4294967296 → (n = 0 → ws.getD p 0#64 = 0#64) ∧ (0 < n → ws.getD p 0#64 ≠ 0#64 ∧ p + loN (ws.getD p 0#64) = lo ∧ hiN (ws.getD p 0#64) = n) := by
    intro n hr hn
    unfold RefW at hr
    have e : ws.getD p 0#64 = if n = 0 then 0#64 else refV ((lo : Int) - p) n := by rw [List.getD_eq_getElem?_getD, hr]; rfl
    rw [e]
    refine ⟨fun h0 => if_pos h0, fun h0 => ?_⟩
    have hpt := refV_parts (lo - p) n (by omega) (by omega)
    rw [show ((lo - p : Nat) : Int) = (lo : Int) - p by omega] at hpt
    rw [if_neg (by omega), hpt.1, hpt.2]
    refine ⟨fun e => ?_, by omega, rfl⟩
    rw [e, hi_zero] at hpt
    omega
  by_cases k2 : kd = 2
  · obtain ⟨e1, e2, e3, e4⟩ := hasB_bytes hb k2
    rw [if_pos k2] at h ⊢
    obtain ⟨h0, h1⟩ := H _ h.1 (by omega)
    by_cases hz : k.bytes.size = 0
    · rw [if_pos (h0 hz)]
      exact node_of e1 (bytes_none hz) (List.eq_nil_of_length_eq_zero e2) (List.eq_nil_of_length_eq_zero e3)
    · obtain ⟨g1, g2, g3⟩ := h1 (by omega)
      rw [if_neg g1, g2, g3]
      have hwl : (wordsV k.bytes.data.toList).length = (k.bytes.size + 7) / 8 := by rw [wordsV_len, bytes_len]
      have hh := (Pre.refl ws).has h.2 (by omega) (by rw [hwl]; omega)
      rw [hwl] at hh
      have ht := (words_text k.bytes.data.toList).2
      rw [bytes_len] at ht
      rw [hh, ht]
      exact node_of e1 rfl (List.eq_nil_of_length_eq_zero e2) (List.eq_nil_of_length_eq_zero e3)
  rw [if_neg k2] at h ⊢
  by_cases k3 : kd = 3
  · obtain ⟨e1, e2, e3, e4⟩ := hasB_nums hb k3
    rw [if_pos k3] at h ⊢
    obtain ⟨h0, h1⟩ := H _ h.1 (by omega)
    by_cases hz : k.nums.length = 0
    · rw [if_pos (h0 hz)]
      exact node_of e1 (bytes_none e2) (List.eq_nil_of_length_eq_zero hz) (List.eq_nil_of_length_eq_zero e3)
    · obtain ⟨g1, g2, g3⟩ := h1 (by omega)
      rw [if_neg g1, g2, g3, (Pre.refl ws).has h.2 (by omega) (by omega)]
      exact node_of e1 (bytes_none e2) rfl (List.eq_nil_of_length_eq_zero e3)
  rw [if_neg k3] at h ⊢
  obtain ⟨e0, e1, e2, e3, e4⟩ := hasB_kids hb k1 k2 k3
  obtain ⟨h0, h1⟩ := H _ h.1 (by omega)
  by_cases hz : k.kids.length = 0
  · rw [if_pos (h0 hz)]
    exact node_of e1 (bytes_none e2) (List.eq_nil_of_length_eq_zero e3) (List.eq_nil_of_length_eq_zero hz)
  · obtain ⟨g1, g2, g3⟩ := h1 (by omega)
    rw [if_neg g1, g2, g3]
    refine node_of e1 (bytes_none e2) (List.eq_nil_of_length_eq_zero e3) ?_
    cases d with
    | zero => obtain ⟨y, _⟩ := get_lt (l := k.kids) (i := 0) (by omega); exact nomatch y
    | succ d =>
      apply List.ext_getElem?
      intro j
      by_cases hj : j < k.kids.length
      · obtain ⟨y, hy⟩ := get_lt hj
        rw [hy]
        exact (ih j y _ hy (by have := h.2 j y hy; rwa [Nat.mul_comm] at this)).symm
      · rw [List.getElem?_eq_none (by omega), List.getElem?_eq_none (by rw [decR_len]; omega)]

/-- What lies in its place is decoded to itself. -/
theorem dec_lie {s : Schema} {ws : List (BitVec 64)} (hL : ws.length ≤ 1000000) : ∀ (d left : Nat) (t : Int) (v : St (d + 1)) (p lo : Nat), codeT s (d + 1) left t v = 0 → LieS s (d + 1) t v ws p lo → p + nkT (d + 1) v ≤ lo → lo + belowT (d + 1) v ≤ ws.length → decS s ws d t p = v := by
  intro d
  induction d with
  | zero =>
    intro left t v p lo hc hlie hpl hll
    obtain ⟨_, g1, g2, g3, g4, hf⟩ := code_struct hc
    refine node_of (k := (v : Node (Node (St 0)))) g1 (bytes_none g2) (List.eq_nil_of_length_eq_zero g3) ?_
    refine Eq.symm ?_
    apply List.ext_getElem?
    intro i
    by_cases hi : i < (typeL s t).length
    · obtain ⟨k, hk⟩ := get_lt (l := Node.kids v) (i := i) (by omega)
      obtain ⟨hb, hx⟩ := hf i k hk
      have hle := sumL_take_at (fszT 0) (Node.kids v) i k hk
      have hlen : p + (Node.kids v).length ≤ lo := hpl
      have hll' : lo + sumL (fszT 0) (Node.kids v) ≤ ws.length := hll
      rw [List.getElem?_map, List.getElem?_range hi]
      simp only [Option.map_some]
      refine Eq.trans ?_ hk.symm
      congr 1
      have hl := hlie i k hk
      generalize hlo : lo + sumL (fszT 0) ((Node.kids v).take i) = lo2 at *
      exact decF_lie (kd := (fieldP s t i).1) (ty := (fieldP s t i).2) hb hx hL hl (by omega) (by omega) (fun j y => nomatch y)
    · have hn : (Node.kids v)[i]? = none := List.getElem?_eq_none (by omega)
      rw [List.getElem?_eq_none (by simpa using hi)]
      exact hn.symm
  | succ d ih =>
    intro left t v p lo hc hlie hpl hll
    obtain ⟨_, g1, g2, g3, g4, hf⟩ := code_struct hc
    refine node_of (k := (v : Node (Node (St (d + 1))))) g1 (bytes_none g2) (List.eq_nil_of_length_eq_zero g3) ?_
    refine Eq.symm ?_
    apply List.ext_getElem?
    intro i
    by_cases hi : i < (typeL s t).length
    · obtain ⟨k, hk⟩ := get_lt (l := Node.kids v) (i := i) (by omega)
      obtain ⟨hb, hx⟩ := hf i k hk
      have hle := sumL_take_at (fszT (d + 1)) (Node.kids v) i k hk
      have hlen : p + (Node.kids v).length ≤ lo := hpl
      have hll' : lo + sumL (fszT (d + 1)) (Node.kids v) ≤ ws.length := hll
      rw [List.getElem?_map, List.getElem?_range hi]
      simp only [Option.map_some]
      refine Eq.trans ?_ hk.symm
      congr 1
      have hl := hlie i k hk
      generalize hlo : lo + sumL (fszT (d + 1)) ((Node.kids v).take i) = lo2 at *
      generalize fieldP s t i = fd at *
      have hfz : fszT (d + 1) k = (k.bytes.size + 7) / 8 + k.nums.length + sumL (wordsT (d + 1)) k.kids := rfl
      refine decF_lie (kd := fd.1) (ty := fd.2) hb hx hL hl (by omega) (by omega) (fun j y lo' hy hly => ?_)
      have hj := (List.getElem?_eq_some_iff.1 hy).1
      rw [decR_succ, List.getElem?_map, List.getElem?_range hj]
      simp only [Option.map_some]
      congr 1
      have hcy := hx y (List.mem_of_getElem? hy)
      -- where it lies, once more
      have hsw := sum_words (s := s) (d := d + 1) (left := left - 1) (ty := fd.2) k.kids hx
      have hbl := sumL_take_at (belowT (d + 1)) k.kids j y hy
      have hmul : (typeL s fd.2).length * j + (typeL s fd.2).length ≤ (typeL s fd.2).length * k.kids.length := by
        rw [← Nat.mul_succ]; exact Nat.mul_le_mul_left _ hj
      have hnk := nk_code hcy
      have hk123 : fd.1 ≠ 1 ∧ fd.1 ≠ 2 ∧ fd.1 ≠ 3 := by
        refine ⟨fun e => ?_, fun e => ?_, fun e => ?_⟩
        · have := (hasB_num hb e).2.2; omega
        · have := (hasB_bytes hb e).2.2.1; omega
        · have := (hasB_nums hb e).2.2.1; omega
      unfold LieF at hl
      rw [if_neg hk123.1, if_neg hk123.2.1, if_neg hk123.2.2] at hl
      have hl2 := hl.2 j y hy
      rw [Nat.mul_comm j]
      exact ih (left - 1) fd.2 y _ _ hcy hl2 (by omega) (by omega)
    · have hn : (Node.kids v)[i]? = none := List.getElem?_eq_none (by omega)
      rw [List.getElem?_eq_none (by simpa using hi)]
      exact hn.symm

/-- What was built is decoded, the same, of the same type. -/
theorem dec_built {s : Schema} {d t : Nat} {X : St (d + 1)} (ht : t < s.length) (hs : s.length ≤ 8) (hc : codeT s (d + 1) 5 t X = 0) (hl : (buildW s d t X).length ≤ 200) :
    hiN ((buildW s d t X).getD 0 0#64) = t ∧ decS s (buildW s d t X) d t 1 = X := by
  obtain ⟨h1, h2, h3⟩ := build_lie hc
  have hw : wordsT (d + 1) X = (Node.kids X).length + belowT (d + 1) X := words_below (d + 1) X
  refine ⟨?_, dec_lie (by omega) d 5 t X 1 _ hc h3 (by show 1 + (Node.kids X).length ≤ _; omega) (by rw [h1, hw]; omega)⟩
  rw [List.getD_eq_getElem?_getD, h2]
  exact (refV_parts _ t (by omega) (by omega)).2
end SDecV

section SDecI
open Go.RowKit

theorem range_map_succ {α : Type} (F : Nat → α) (i : Nat) : (List.range (i + 1)).map F = (List.range i).map F ++ [F i] := by rw [List.range_succ, List.map_append]; rfl

/-- The struct so far: i fields are decoded. R: the result's box; V: the variable's. -/
structure OutJ {D : Nat} (F : Nat → Node (St D)) (w w2 : World) (R V i : Nat) (xs : List Value) (vk : Value) (wr : World) : Prop where
  bl : Below w.heap.size w wr
  sz : w2.heap.size ≤ wr.heap.size
  tv : TB wr V (.int .u64 0) (.string ⟨#[]⟩) (.slice none 0 0) vk
  tr : TB wr R (.int .u64 0) (.string ⟨#[]⟩) (.slice none 0 0) (.slice none 0 0)
  own : wr.ownsRow w2.heap.size 32 4 vk i xs
  kk : KK (RdF D) (fun b => b < w2.heap.size ∨ vk.ownBlock = some b) wr xs ((List.range i).map F)
  vr : w.heap.size ≤ R ∧ R < V ∧ V < w2.heap.size

/-- A field is decoded: its box is B. -/
structure FieldJ {D : Nat} (k : Node (St D)) (wi w5 : World) (B : Nat) (x0 x1 x2 x3 : Value) : Prop where
  bl : Below wi.heap.size wi w5
  tb : TB w5 B x0 x1 x2 x3
  rd : KW (fun b => b < wi.heap.size) w5 fun W => RdF D W [x0, x1, x2, x3] k

theorem OutJ.next {D : Nat} {F : Nat → Node (St D)} {w w2 : World} {R V i : Nat} {xs : List Value} {vk : Value} {wi w5 w6 w7 : World} {B : Nat} {k : Node (St D)} {x0 x1 x2 x3 : Value} {v' : Value}
    (h : OutJ F w w2 R V i xs vk wi) (hf : FieldJ k wi w5 B x0 x1 x2 x3) (hk : k = F i) (b5 : Below w5.heap.size w5 w6)
    (ho : w7.ownsRow w2.heap.size 32 4 v' (i + 1) (xs ++ [x0, x1, x2, x3])) (hg : w6.grownBy w7 vk.ownBlock)
    (hat : v'.ownBlock = vk.ownBlock ∨ v'.ownBlock = some w6.heap.size) :
    OutJ F w w2 R V (i + 1) (xs ++ [x0, x1, x2, x3]) v' (w7.setCell ⟨V, 3, none⟩ v') := by
  obtain ⟨hv1, hv2, hv3⟩ := h.vr
  have bi5 := via hf.bl b5
  have hrow : ∀ b, vk.ownBlock = some b → w2.heap.size ≤ b ∧ b < wi.heap.size := fun b e => ⟨(own_blk h.own e).2, (own_blk h.own e).1.lt⟩
  have hs5 : wi.heap.size ≤ w6.heap.size := bi5.size
  have hsz := h.sz
  have hwi := h.bl.size
  have hg7 := hg.size
  have hG : ∀ b, b < w6.heap.size → (b < w2.heap.size ∨ v'.ownBlock = some b) → (b < w2.heap.size ∨ vk.ownBlock = some b) := fun b hb e => by
    rcases e with e | e
    · exact .inl e
    · rcases hat with e2 | e2
      · exact .inr (e2 ▸ e)
      · rw [e2] at e; have := Option.some.inj e; omega
  refine ⟨?_, ?_, ?_, ?_, ?_, ?_, h.vr⟩
  · have hb7 : Below w.heap.size w w7 := (h.bl.trans (bi5.mono hwi)).grown hg (by omega) fun b e => by have := (hrow b e).1; omega
    exact hb7.setCell (by show w.heap.size ≤ V; omega) _
  · show w2.heap.size ≤ (w7.setCell ⟨V, 3, none⟩ v').heap.size
    simp [World.setCell]; omega
  · exact ((h.tv.below bi5).grown hg fun e => by have := (hrow _ e).1; omega).set3 _
  · exact ((h.tr.below bi5).grown hg fun e => by have := (hrow _ e).1; omega).far (by omega) _
  · refine own_keep ho fun g e => Below.heap_setCell _ _ _ _ ?_
    have := (own_blk ho e).2
    show g ≠ V; omega
  · rw [range_map_succ, ← hk]
    refine KK.set (p := ⟨V, 3, none⟩) (hp := .inl hv3) (u := v') (KK.add ?_ _ _ rfl ?_)
    · exact (h.kk.below bi5).grown hg (fun b e => .inr e) hG
    · refine (hf.rd.below b5).grown hg (fun b e => (hrow b e).2) fun b hb e => ?_
      rcases hG b hb e with e2 | e2
      · show b < wi.heap.size; omega
      · exact (hrow b e2).2

/-- The structs of a field so far. -/
structure InJ {D : Nat} (F : Nat → St D) (wi wk : World) (B j : Nat) (xs : List Value) (kv : Value) (wr : World) : Prop where
  bl : Below wi.heap.size wi wr
  sz : wk.heap.size ≤ wr.heap.size
  bk : ∀ b, b < wk.heap.size → b ≠ B → wr.heap[b]? = wk.heap[b]?
  tb : TB wr B (.int .u64 0) (.string ⟨#[]⟩) (.slice none 0 0) kv
  own : wr.ownsRow wk.heap.size 32 4 kv j xs
  kk : KK (RdS D) (fun b => b < wk.heap.size ∨ kv.ownBlock = some b) wr xs ((List.range j).map F)
  vr : wi.heap.size ≤ B ∧ B < wk.heap.size

theorem InJ.next {D : Nat} {F : Nat → St D} {wi wk : World} {B j : Nat} {xs : List Value} {kv : Value} {wr w5 w6 w7 : World} {k : St D} {x0 x1 x2 x3 : Value} {v' : Value}
    (h : InJ F wi wk B j xs kv wr) (hb5 : Below wr.heap.size wr w5) (hrd : KW (fun b => b < wr.heap.size) w5 fun W => RdS D W [x0, x1, x2, x3] k) (hk : k = F j)
    (h6 : Below w5.heap.size w5 w6)
    (ho : w7.ownsRow wk.heap.size 32 4 v' (j + 1) (xs ++ [x0, x1, x2, x3])) (hg : w6.grownBy w7 kv.ownBlock)
    (hat : v'.ownBlock = kv.ownBlock ∨ v'.ownBlock = some w6.heap.size) :
    InJ F wi wk B (j + 1) (xs ++ [x0, x1, x2, x3]) v' (w7.setCell ⟨B, 3, none⟩ v') := by
  obtain ⟨hv1, hv2⟩ := h.vr
  have bi5 := via hb5 h6
  have hrow : ∀ b, kv.ownBlock = some b → wk.heap.size ≤ b ∧ b < wr.heap.size := fun b e => ⟨(own_blk h.own e).2, (own_blk h.own e).1.lt⟩
  have hs5 : wr.heap.size ≤ w6.heap.size := bi5.size
  have hsz := h.sz
  have hwi := h.bl.size
  have hg7 := hg.size
  have hG : ∀ b, b < w6.heap.size → (b < wk.heap.size ∨ v'.ownBlock = some b) → (b < wk.heap.size ∨ kv.ownBlock = some b) := fun b hb e => by
    rcases e with e | e
    · exact .inl e
    · rcases hat with e2 | e2
      · exact .inr (e2 ▸ e)
      · rw [e2] at e; have := Option.some.inj e; omega
  refine ⟨?_, ?_, ?_, ?_, ?_, ?_, h.vr⟩
  · have hb7 : Below wi.heap.size wi w7 := (h.bl.trans (bi5.mono hwi)).grown hg (by omega) fun b e => by have := (hrow b e).1; omega
    exact hb7.setCell (by show wi.heap.size ≤ B; omega) _
  · show wk.heap.size ≤ (w7.setCell ⟨B, 3, none⟩ v').heap.size
    simp [World.setCell]; omega
  · intro b hb hne
    rw [Below.heap_setCell _ _ _ _ (show b ≠ B from hne), hg.block b (by omega) (fun e => by have := (hrow b e.symm).1; omega), bi5.block b (by omega)]
    exact h.bk b hb hne
  · exact ((h.tb.below bi5).grown hg fun e => by have := (hrow _ e).1; omega).set3 _
  · refine own_keep ho fun g e => Below.heap_setCell _ _ _ _ ?_
    have := (own_blk ho e).2
    show g ≠ B; omega
  · rw [range_map_succ, ← hk]
    refine KK.set (p := ⟨B, 3, none⟩) (hp := .inl hv2) (u := v') (KK.add ?_ _ _ rfl ?_)
    · exact (h.kk.below bi5).grown hg (fun b e => .inr e) hG
    · refine (hrd.below h6).grown hg (fun b e => (hrow b e).2) fun b hb e => ?_
      rcases hG b hb e with e2 | e2
      · show b < wr.heap.size; omega
      · exact (hrow b e2).2

/-- The row of structs is read. -/
theorem InJ.read {D : Nat} {F : Nat → St D} {wi wk : World} {B j : Nat} {xs : List Value} {kv : Value} {wr : World} (h : InJ F wi wk B j xs kv wr) (hj : j ≤ 1000) :
    KW (fun b => b < wi.heap.size) wr fun W => RdF D W [.int .u64 0, .string ⟨#[]⟩, .slice none 0 0, kv] ⟨0#64, ⟨#[]⟩, [], (List.range j).map F⟩ := by
  obtain ⟨hv1, hv2⟩ := h.vr
  have h1 : KK (RdS D) (fun b => b < wi.heap.size) wr xs ((List.range j).map F) := h.kk.mono fun b _ e => .inl (by omega)
  have h2 := h1.kids h.own (by simp) fun g e => by have := (own_blk h.own e).2; show ¬ g < wi.heap.size; omega
  intro W hW
  exact RdN.mk' (t := ⟨0#64, ⟨#[]⟩, [], (List.range j).map F⟩) ⟨by show (⟨#[]⟩ : ByteArray).size ≤ 1000; decide, by simp, by simp; exact hj⟩ (Row.nil W 1) (by have := h2 W hW; simpa using this)

theorem OutJ.done {D : Nat} {F : Nat → Node (St D)} {w w2 : World} {R V N : Nat} {xs : List Value} {vk : Value} {wr w9 : World} (h : OutJ F w w2 R V N xs vk wr)
    (hn : N ≤ 1000) (hk : ∀ b, b ≠ R → w9.heap[b]? = wr.heap[b]?) (hs : w9.heap.size = wr.heap.size) :
    KW (fun b => b < w.heap.size) w9 (fun W => RdS (D + 1) W [.int .u64 0, .string ⟨#[]⟩, .slice none 0 0, vk] (⟨0#64, ⟨#[]⟩, [], (List.range N).map F⟩ : Node (Node (St D)))) := by
  obtain ⟨hv1, hv2, hv3⟩ := h.vr
  have hne : ∀ g, vk.ownBlock = some g → g ≠ R ∧ ¬ g < w2.heap.size := fun g e => by have := (own_blk h.own e).2; omega
  have ho : w9.ownsRow w2.heap.size 32 4 vk N xs := own_keep h.own fun g e => hk g (hne g e).1
  have h1 : KK (RdF D) (fun b => b < w2.heap.size) w9 xs ((List.range N).map F) := h.kk.step (by omega) fun b hb hg => ⟨fun e => hg (.inl e), hk b fun e => hg (.inl (by omega))⟩
  have h2 := h1.kids ho (by simp) fun g e => (hne g e).2
  intro W hW
  have h3 := h2 W fun b hb hg => hW b hb fun e => hg (by omega)
  exact RdN.mk' (t := (⟨0#64, ⟨#[]⟩, [], (List.range N).map F⟩ : Node (Node (St D)))) ⟨by show (⟨#[]⟩ : ByteArray).size ≤ 1000; decide, by simp, by simp; exact hn⟩ (Row.nil W 1) (by simpa using h3)
end SDecI

end Go.Proofs.YtblbhlgihlgncaaDoor

