/- Ranging over strings; maps with strings for keys. No conditions: definitions and lemmas only. -/
import Derived.Test.YtmpifmapdmhgkaaDoorAM19
import Derived.Laws.RangeAny
import Derived.Lib.OthersKept
namespace Go.AM
open Go.RowKit (Below)

/-- What a character is, at a place of a text. -/
theorem decode_spec (l : List UInt8) (pos : Nat) (c : UInt8) (hc : l[pos]? = some c) :
    (c.toNat < 128 → Utf8.decode ⟨⟨l⟩⟩ pos = (c.toNat, 1)) ∧
    (128 ≤ c.toNat → 128 ≤ (Utf8.decode ⟨⟨l⟩⟩ pos).1 ∧ 1 ≤ (Utf8.decode ⟨⟨l⟩⟩ pos).2 ∧ pos + (Utf8.decode ⟨⟨l⟩⟩ pos).2 ≤ l.length ∧
      ∀ j, pos < j → j < pos + (Utf8.decode ⟨⟨l⟩⟩ pos).2 → ∃ b, l[j]? = some b ∧ 128 ≤ b.toNat) := by
  have hlt : pos < l.length := (List.getElem?_eq_some_iff.1 hc).1
  have hge : ∀ k, (h : pos + k < l.length) → ((⟨⟨l⟩⟩ : ByteArray).get! (pos + k)) = l[pos + k] := by
    intro k h
    show (⟨l⟩ : Array UInt8)[pos + k]! = _
    simp [h]
  have h0 : ((⟨⟨l⟩⟩ : ByteArray).get! (pos + 0)) = c := by
    rw [hge 0 hlt]
    exact (List.getElem?_eq_some_iff.1 hc).2
  have hsz : (⟨⟨l⟩⟩ : ByteArray).size = l.length := rfl
  constructor
  · intro h
    simp only [Utf8.decode, h0, h, if_true]
  · intro h
    have hn : ¬ c.toNat < 128 := by omega
    have ok1 : ∀ p : Nat × Nat, p = (Utf8.runeError, 1) → 128 ≤ p.1 ∧ 1 ≤ p.2 ∧ pos + p.2 ≤ l.length ∧ ∀ j, pos < j → j < pos + p.2 → ∃ b, l[j]? = some b ∧ 128 ≤ b.toNat := by
      rintro p rfl
      refine ⟨by decide, Nat.le_refl _, hlt, fun j h1 h2 => ?_⟩
      simp only at h2
      omega
    have okk : ∀ (w r : Nat), 128 ≤ r → 1 ≤ w → (∀ k, 1 ≤ k → k < w → pos + k < l.length ∧ ((⟨⟨l⟩⟩ : ByteArray).get! (pos + k)).toNat / 64 = 2) →
        128 ≤ ((r, w) : Nat × Nat).1 ∧ 1 ≤ ((r, w) : Nat × Nat).2 ∧ pos + ((r, w) : Nat × Nat).2 ≤ l.length ∧ ∀ j, pos < j → j < pos + ((r, w) : Nat × Nat).2 → ∃ b, l[j]? = some b ∧ 128 ≤ b.toNat := by
      intro w r hr hw hk
      refine ⟨hr, hw, ?_, fun j h1 h2 => ?_⟩
      · rcases Nat.lt_or_ge 1 w with h | h
        · have := (hk (w - 1) (by omega) (by omega)).1
          show pos + w ≤ l.length
          omega
        · show pos + w ≤ l.length
          omega
      · obtain ⟨k, rfl⟩ : ∃ k, j = pos + k := ⟨j - pos, by omega⟩
        simp only at h2
        obtain ⟨h3, h4⟩ := hk k (by omega) (by omega)
        rw [hge k h3] at h4
        exact ⟨_, List.getElem?_eq_getElem h3, by omega⟩
    unfold Utf8.decode
    simp only [h0, hn, if_false, hsz]
    have hcont : ∀ k, (decide (pos + k < l.length) && (((⟨⟨l⟩⟩ : ByteArray).get! (pos + k)).toNat / 64 == 2)) = true → pos + k < l.length ∧ ((⟨⟨l⟩⟩ : ByteArray).get! (pos + k)).toNat / 64 = 2 := by
      intro k h
      simpa using h
    split
    · rename_i h1
      simp only [Bool.and_eq_true] at h1
      split
      · rename_i h2
        exact okk 2 _ h2 (by omega) fun k k1 k2 => by
          obtain rfl : k = 1 := by omega
          exact hcont 1 (by simpa using h1.2)
      · exact ok1 _ rfl
    · split
      · rename_i _ h1
        simp only [Bool.and_eq_true] at h1
        split
        · rename_i h2
          simp only [Bool.and_eq_true, decide_eq_true_eq] at h2
          exact okk 3 _ (by omega) (by omega) fun k k1 k2 => by
            rcases (show k = 1 ∨ k = 2 by omega) with rfl | rfl
            · exact hcont 1 (by simpa using h1.1.2)
            · exact hcont 2 (by simpa using h1.2)
        · exact ok1 _ rfl
      · split
        · rename_i _ _ h1
          simp only [Bool.and_eq_true] at h1
          split
          · rename_i h2
            simp only [Bool.and_eq_true, decide_eq_true_eq] at h2
            exact okk 4 _ (by omega) (by omega) fun k k1 k2 => by
              rcases (show k = 1 ∨ k = 2 ∨ k = 3 by omega) with rfl | rfl | rfl
              · exact hcont 1 (by simpa using h1.1.1.2)
              · exact hcont 2 (by simpa using h1.1.2)
              · exact hcont 3 (by simpa using h1.2)
          · exact ok1 _ rfl
        · exact ok1 _ rfl

section
variable {P : Program} {n : Nat} {K : Post} {E : EPost} {T : Tmps} {st : St} {ops : Array Oper} {rest : List Oper}
variable {d : Tmp} {dd : Option Tmp} {x y z : Operand} {ty : TypeId} {pos : String} {es : Array Edge} {gd : Option (Nat × Bool)}

/-- A range over a string begins. -/
theorem rgs {t : TypeId} [hu : Und P t .string] {l : List UInt8} (hg : goes ops n T ⟨dd, .range t x, ty, pos, es, gd⟩ = some d) (hx : ev st T x = some (.str l))
    (k : ∀ o, st.obj o = none → AOps P n ops rest K E ((d, .iter o) :: T) (st.set o (.iter l 0))) : AOps P n ops (⟨dd, .range t x, ty, pos, es, gd⟩ :: rest) K E T st :=
  AOps.stepAny hg fun g w a hs hk => by
    have h1 := ev_R hs hk hx
    generalize hux : a.eval x = ux at h1
    cases h1
    obtain ⟨g', he, hs', hob, hnone⟩ := hs.newObj (.stringIter ⟨⟨l⟩⟩ 0) (.iter l 0) 0 (fun g' he => heap_alloc_new w _)
    refine ⟨.pointer (some ⟨w.heap.size, 0, none⟩), g', w.alloc (.stringIter ⟨⟨l⟩⟩ 0), _, _, ?_, he, hs', .iter g.next w.heap.size 0 hob, k g.next hnone⟩
    simp only [execOp, hux, Sem.run_bind, run_range_string w t ⟨⟨l⟩⟩ hu.out, Result.andThen_ok, Sem.run_pure]
    rfl

theorem Sim.iterStep {g : G} {w : World} (hs : Sim g w st) {o : Nat} {l : List UInt8} {ps ps' : Nat} {b m : Nat} (ho : st.obj o = some (.iter l ps)) (hb : g.obj o = some (b, m)) :
    Ext g w g (w.iterAt b ⟨⟨l⟩⟩ ps') ∧ Sim g (w.iterAt b ⟨⟨l⟩⟩ ps') (st.set o (.iter l ps')) := by
  obtain ⟨_, hat, _⟩ := hs.objOf ho hb
  have hlt := hs.objlt o b m hb
  refine hs.write ho hb _ ?_ rfl rfl rfl ?_ ?_
  · simp [World.iterAt]
  · intro k hk
    simp [World.iterAt, Ne.symm hk]
  · intro _
    show (w.iterAt b ⟨⟨l⟩⟩ ps').heap[b]? = _
    simp [World.iterAt, hlt]

/-- The next character. -/
theorem nxs {o ps : Nat} {l : List UInt8} {c : UInt8} (hg : goes ops n T ⟨dd, .next x true, ty, pos, es, gd⟩ = some d) (hx : ev st T x = some (.iter o)) (ho : st.obj o = some (.iter l ps)) (hc : l[ps]? = some c)
    (ka : c.toNat < 128 → AOps P n ops rest K E ((d, .tuple [.bool true, .int .i64 (ps : Int), .int .i32 (c.toNat : Int)]) :: T) (st.set o (.iter l (ps + 1))))
    (kn : 128 ≤ c.toNat → ∀ r w : Nat, 128 ≤ r → 1 ≤ w → ps + w ≤ l.length → (∀ j, ps < j → j < ps + w → ∃ b, l[j]? = some b ∧ 128 ≤ b.toNat) →
      AOps P n ops rest K E ((d, .tuple [.bool true, .int .i64 (ps : Int), .int .i32 (r : Int)]) :: T) (st.set o (.iter l (ps + w)))) :
    AOps P n ops (⟨dd, .next x true, ty, pos, es, gd⟩ :: rest) K E T st :=
  AOps.stepAny hg fun g w a hs hk => by
    have h1 := ev_R hs hk hx
    generalize hux : a.eval x = ux at h1
    cases h1 with
    | iter _ b m hb =>
      obtain ⟨_, hat, _⟩ := hs.objOf ho hb
      have hlt : ps < l.length := (List.getElem?_eq_some_iff.1 hc).1
      have hrun := Go.Lib.run_next_any_at (P := P) w b ⟨⟨l⟩⟩ ps ty hat hlt
      obtain ⟨d1, d2⟩ := decode_spec l ps c hc
      have hexec : (execOp a.eval ⟨dd, .next x true, ty, pos, es, gd⟩).run P w = .ok (.value (.tuple #[.bool true, .int .i64 ps, .int .i32 (Utf8.decode ⟨⟨l⟩⟩ ps).1])) (w.iterAt b ⟨⟨l⟩⟩ (ps + (Utf8.decode ⟨⟨l⟩⟩ ps).2)) := by
        simp only [execOp, hux, Sem.run_bind, hrun, Result.andThen_ok, Sem.run_pure]
      have hR : ∀ (r : Nat) g' w', R g' w' (.tuple [.bool true, .int .i64 (ps : Int), .int .i32 (r : Int)]) (.tuple #[.bool true, .int .i64 ps, .int .i32 r]) := fun r g' w' => by
        refine .tuple _ _ rfl fun i c v hc hv => ?_
        match i with
        | 0 => cases hc; cases hv; exact .bool _
        | 1 => cases hc; cases hv; exact .int _ _
        | 2 => cases hc; cases hv; exact .int _ _
        | i + 3 => cases hc
      obtain ⟨e1, e2⟩ := hs.iterStep (ps' := ps + (Utf8.decode ⟨⟨l⟩⟩ ps).2) ho hb
      rcases Nat.lt_or_ge c.toNat 128 with h | h
      · rw [d1 h] at hexec e1 e2
        exact ⟨_, g, _, _, _, hexec, e1, e2, hR _ _ _, ka h⟩
      · obtain ⟨q1, q2, q3, q4⟩ := d2 h
        exact ⟨_, g, _, _, _, hexec, e1, e2, hR _ _ _, kn h _ _ q1 q2 q3 q4⟩

/-- The end of a string. -/
theorem nxe {o ps : Nat} {l : List UInt8} (hg : goes ops n T ⟨dd, .next x true, ty, pos, es, gd⟩ = some d) (hx : ev st T x = some (.iter o)) (ho : st.obj o = some (.iter l ps)) (hle : l.length ≤ ps)
    (k : AOps P n ops rest K E ((d, .tuple [.bool false]) :: T) st) : AOps P n ops (⟨dd, .next x true, ty, pos, es, gd⟩ :: rest) K E T st :=
  AOps.stepAny hg fun g w a hs hk => by
    have h1 := ev_R hs hk hx
    generalize hux : a.eval x = ux at h1
    cases h1 with
    | iter _ b m hb =>
      obtain ⟨_, hat, _⟩ := hs.objOf ho hb
      have hrun := Go.Lib.run_next_end_at (P := P) w b ⟨⟨l⟩⟩ ps ty hat (Nat.not_lt.2 hle)
      refine ⟨.tuple #[.bool false], g, w, .tuple [.bool false], st, ?_, .refl _ _, hs, ?_, k⟩
      · simp only [execOp, hux, Sem.run_bind, hrun, Result.andThen_ok, Sem.run_pure]
      · refine .tuple _ _ rfl fun i c v hc hv => ?_
        match i with
        | 0 => cases hc; cases hv; exact .bool _
        | i + 1 => cases hc

/-! maps -/

def supd (k : List UInt8) (v : AV) : List (List UInt8 × AV) → List (List UInt8 × AV)
  | [] => [(k, v)]
  | (k', v') :: r => if k = k' then (k, v) :: r else (k', v') :: supd k v r
def slook (k : List UInt8) : List (List UInt8 × AV) → Option AV
  | [] => none
  | (k', v') :: r => if k = k' then some v' else slook k r

/-- A new map. -/
theorem mkm {t : TypeId} (hg : goes ops n T ⟨dd, .makeMap t none, ty, pos, es, gd⟩ = some d)
    (k : ∀ o, st.obj o = none → AOps P n ops rest K E ((d, .amap o) :: T) (st.set o (.smap []))) : AOps P n ops (⟨dd, .makeMap t none, ty, pos, es, gd⟩ :: rest) K E T st :=
  AOps.stepAny hg fun g w a hs hk => by
    obtain ⟨g', he, hs', hob, hnone⟩ := hs.newObj (.map #[] 0) (.smap []) 0 (fun g' he => ⟨#[], 0, heap_alloc_new w _, rfl, fun i e h => by simp at h, fun i e k a h => by simp at h⟩)
    refine ⟨.map (some w.heap.size), g', w.alloc (.map #[] 0), _, _, ?_, he, hs', .amap g.next w.heap.size 0 hob, k g.next hnone⟩
    simp only [execOp, Option.map_none, Instr.makeMap, Sem.run_bind, Sem.run_pure]
    rfl

theorem findNow_str (k : List UInt8) : ∀ (es : List (List UInt8 × AV)) (ents : List MapEntry) (i : Nat), ents.length = es.length → (∀ (j : Nat) e p, ents[j]? = some e → es[j]? = some p → e.key = .string ⟨⟨p.1⟩⟩) →
    Instr.findNow .string (.string ⟨⟨k⟩⟩) ents i = some ((es.findIdx? (fun p => decide (k = p.1))).bind fun j => (ents[j]?).map fun e => (i + j, e.val))
  | [], ents, i, hl, _ => by
    have : ents = [] := List.eq_nil_of_length_eq_zero (by simpa using hl)
    subst this
    rfl
  | p :: es, [], _, hl, _ => by simp at hl
  | p :: es, e :: ents, i, hl, h => by
    have h0 := h 0 e p rfl rfl
    have ih := findNow_str k es ents (i + 1) (by simpa using hl) (fun j e' p' h1 h2 => h (j + 1) e' p' (by simpa using h1) (by simpa using h2))
    have hb : ((⟨⟨k⟩⟩ : ByteArray) == ⟨⟨p.1⟩⟩) = decide (k = p.1) := by
      rw [beq_toListBytes, ByteArray.toList_mk, ByteArray.toList_mk, Bool.eq_iff_iff]
      simp
    simp only [Instr.findNow, h0, Instr.sameNow, hb, List.findIdx?_cons]
    by_cases hk : k = p.1
    · simp [hk]
    · simp only [hk, decide_false, ih, Bool.false_eq_true, if_false]
      cases (es.findIdx? fun p => decide (k = p.1)) with
      | none => rfl
      | some j => simp [Nat.add_comm, Nat.add_left_comm]

theorem supd_eq (k : List UInt8) (v : AV) : ∀ es, supd k v es = match es.findIdx? (fun p => decide (k = p.1)) with | some i => es.set i (k, v) | none => es ++ [(k, v)]
  | [] => rfl
  | p :: es => by
    have ih := supd_eq k v es
    rw [supd, List.findIdx?_cons]
    by_cases hk : k = p.1
    · simp [hk]
    · simp only [hk, decide_false, if_false, Bool.false_eq_true, ih]
      cases es.findIdx? (fun p => decide (k = p.1)) <;> rfl

theorem slook_eq (k : List UInt8) : ∀ es, slook k es = (es.findIdx? (fun p => decide (k = p.1))).bind fun i => (es[i]?).map (·.2)
  | [] => rfl
  | p :: es => by
    have ih := slook_eq k es
    rw [slook, List.findIdx?_cons]
    by_cases hk : k = p.1
    · simp [hk]
    · simp only [hk, decide_false, if_false, Bool.false_eq_true, ih]
      cases es.findIdx? (fun p => decide (k = p.1)) <;> rfl

theorem run_checkKey_str1 (w : World) {t : TypeId} (ht : P.underlying t = some .string) (b : Bool) (s : ByteArray) (n : Nat) : (Instr.checkKey b (n + 1) t (.string s)).run P w = .ok () w := by
  simp only [Instr.checkKey, Sem.run_bind, run_underlying ht, Result.andThen_ok, Sem.run_pure]
theorem run_checkKey_str (w : World) {t : TypeId} (ht : P.underlying t = some .string) (b : Bool) (s : ByteArray) : (Instr.checkKey b 10000 t (.string s)).run P w = .ok () w :=
  run_checkKey_str1 w ht b s 9999
theorem sameBits_str (n : Nat) (s : ByteArray) : Instr.sameBits n (.string s) (.string s) = true := by
  have h : (s == s) = true := by rw [beq_toListBytes]; simp
  cases n <;> simp [Instr.sameBits, h]

theorem run_findKey_str (w : World) {t : TypeId} (ht : P.underlying t = some .string) (k : List UInt8) (es : List (List UInt8 × AV)) (ents : List MapEntry) (hl : ents.length = es.length) (h : ∀ (j : Nat) e p, ents[j]? = some e → es[j]? = some p → e.key = .string ⟨⟨p.1⟩⟩) :
    (Instr.findKey t (.string ⟨⟨k⟩⟩) ents).run P w = .ok ((es.findIdx? (fun p => decide (k = p.1))).bind fun j => (ents[j]?).map fun e => (j, e.val)) w := by
  simp only [Instr.findKey, Sem.run_bind, run_underlying ht, Result.andThen_ok, findNow_str k es ents 0 hl h, Nat.zero_add, Sem.run_pure]

/-- A value of a map is set. -/
theorem mup {t kt et : TypeId} [hu : Und P t (.map kt et)] [hk' : Und P kt .string] {o : Nat} {m : List (List UInt8 × AV)} {key : List UInt8} {v : AV} (hw : wantedA ops T ⟨none, .mapUpdate t x y z, ty, pos, es, gd⟩ = some true)
    (hx : ev st T x = some (.amap o)) (hy : ev st T y = some (.str key)) (hz : ev st T z = some v) (ho : st.obj o = some (.smap m))
    (k : AOps P n ops rest K E T (st.set o (.smap (supd key v m)))) : AOps P n ops (⟨none, .mapUpdate t x y z, ty, pos, es, gd⟩ :: rest) K E T st := by
  refine AOps.step hw rfl (.lit undef) _ (fun g w a hs hk => ?_) k
  have h1 := ev_R hs hk hx
  have h2 := ev_R hs hk hy
  have h3 := ev_R hs hk hz
  generalize hux : a.eval x = ux at h1
  generalize huy : a.eval y = uy at h2
  generalize huz : a.eval z = uz at h3
  cases h2
  cases h1 with
  | amap _ b mm hb =>
    obtain ⟨_, ⟨ents, clock, e1, e2, e3, e4⟩, _⟩ := hs.objOf ho hb
    have hlt := hs.objlt o b mm hb
    have hkeys : ∀ (j : Nat) e p, ents.toList[j]? = some e → m[j]? = some p → e.key = .string ⟨⟨p.1⟩⟩ := fun j e p he hp => (e4 j e p.1 p.2 (by simpa using he) hp).1
    have hfind := run_findKey_str (P := P) w hk'.out key m ents.toList (by simpa using e2) hkeys
    have hget : (getObj b).run P w = .ok (.map ents clock) w := by
      simp [getObj, Sem.run, e1]
    have hset : ∀ o', (setObj b o').run P w = .ok () { w with heap := w.heap.setIfInBounds b o' } := by
      intro o'
      simp [setObj, Sem.run, e1]
    rw [supd_eq]
    cases hi : m.findIdx? (fun p => decide (key = p.1)) with
    | none =>
      rw [hi] at hfind
      simp only [Option.bind_none] at hfind
      have hrun : (Instr.mapUpdate t (.map (some b)) (.string ⟨⟨key⟩⟩) uz).run P w = .ok () { w with heap := w.heap.setIfInBounds b (.map (ents.push { key := .string ⟨⟨key⟩⟩, val := uz, born := clock }) (clock + 1)) } := by
        simp only [Instr.mapUpdate, Sem.run_bind, run_underlying hu.out, hget, run_checkKey_str (P := P) w hk'.out, hfind, Result.andThen_ok, hset]
      obtain ⟨q1, q2⟩ := hs.write (c' := .smap (m ++ [(key, v)])) ho hb { w with heap := w.heap.setIfInBounds b (.map (ents.push { key := .string ⟨⟨key⟩⟩, val := uz, born := clock }) (clock + 1)) } (by simp) rfl rfl rfl (fun k hk => by simp [Ne.symm hk]) (fun he => by
        refine ⟨ents.push { key := .string ⟨⟨key⟩⟩, val := uz, born := clock }, clock + 1, by simp [hlt], by simp [e2], fun i e h => ?_, fun i e k a h h' => ?_⟩
        · rw [Array.getElem?_push] at h
          split at h
          · cases h; simp
          · exact Nat.lt_succ_of_lt (e3 i e h)
        · rw [Array.getElem?_push] at h
          split at h
          · rename_i hi'
            cases h
            rw [hi', e2, List.getElem?_append_right (Nat.le_refl _), Nat.sub_self] at h'
            cases h'
            exact ⟨rfl, h3.ext he⟩
          · have hil : i < m.length := by
              have := (Array.getElem?_eq_some_iff.1 h).1
              omega
            rw [List.getElem?_append_left hil] at h'
            exact ⟨(e4 i e k a h h').1, (e4 i e k a h h').2.ext he⟩)
      refine ⟨undef, g, _, .inr ⟨?_, rfl⟩, q1, q2, .lit _⟩
      simp only [execOp, hux, huy, huz, Sem.run_bind, hrun, Result.andThen_ok, Sem.run_pure]
    | some i =>
      obtain ⟨hil, hip, _⟩ := List.findIdx?_eq_some_iff_getElem.1 hi
      have hie : i < ents.size := by omega
      rw [hi] at hfind
      have hei : ents.toList[i]? = some ents[i] := by simp [hie]
      simp only [Option.bind_some, hei, Option.map_some] at hfind
      have hki : ents[i].key = .string ⟨⟨key⟩⟩ := by
        have := hkeys i ents[i] m[i] hei (List.getElem?_eq_getElem hil)
        rw [this]
        have : key = m[i].1 := by simpa using hip
        rw [this]
      have hstay : ∀ w, (Instr.keyThatStays (.string ⟨⟨key⟩⟩) (.string ⟨⟨key⟩⟩)).run P w = .ok (.string ⟨⟨key⟩⟩) w := by
        intro w
        simp [Instr.keyThatStays, sameBits_str]
      have hei' : ents[i]? = some ents[i] := by simp [hie]
      have hrun : (Instr.mapUpdate t (.map (some b)) (.string ⟨⟨key⟩⟩) uz).run P w = .ok () { w with heap := w.heap.setIfInBounds b (.map (ents.modify i fun e => { e with key := .string ⟨⟨key⟩⟩, val := uz }) clock) } := by
        simp only [Instr.mapUpdate, Sem.run_bind, run_underlying hu.out, hget, run_checkKey_str (P := P) w hk'.out, hfind, Result.andThen_ok, hset, hei', Option.map_some, Option.getD_some, hki, hstay]
      obtain ⟨q1, q2⟩ := hs.write (c' := .smap (m.set i (key, v))) ho hb { w with heap := w.heap.setIfInBounds b (.map (ents.modify i fun e => { e with key := .string ⟨⟨key⟩⟩, val := uz }) clock) } (by simp) rfl rfl rfl (fun k hk => by simp [Ne.symm hk]) (fun he => by
        refine ⟨ents.modify i fun e => { e with key := .string ⟨⟨key⟩⟩, val := uz }, clock, by simp [hlt], by simp [e2], fun j e h => ?_, fun j e k a h h' => ?_⟩
        · rw [Array.getElem?_modify] at h
          split at h
          · rename_i hij
            simp only [Option.map_eq_some_iff] at h
            obtain ⟨e0, h0, rfl⟩ := h
            exact e3 j e0 h0
          · exact e3 j e h
        · rw [Array.getElem?_modify] at h
          rw [List.getElem?_set] at h'
          split at h
          · rename_i hij
            subst hij
            rw [if_pos rfl, if_pos hil] at h'
            cases h'
            simp only [Option.map_eq_some_iff] at h
            obtain ⟨e0, h0, rfl⟩ := h
            exact ⟨rfl, h3.ext he⟩
          · rename_i hij
            rw [if_neg hij] at h'
            exact ⟨(e4 j e k a h h').1, (e4 j e k a h h').2.ext he⟩)
      refine ⟨undef, g, _, .inr ⟨?_, rfl⟩, q1, q2, .lit _⟩
      simp only [execOp, hux, huy, huz, Sem.run_bind, hrun, Result.andThen_ok, Sem.run_pure]

/-- A value of a map, or the zero value. -/
theorem lku {t kt et : TypeId} [hu : Und P t (.map kt et)] [hk' : Und P kt .string] {sz by_ : Nat} {zz : Value} [hi : Inf P et sz by_ zz] {o : Nat} {m : List (List UInt8 × AV)} {key : List UInt8} (hg : goes ops n T ⟨dd, .lookup t x y false, ty, pos, es, gd⟩ = some d)
    (hx : ev st T x = some (.amap o)) (hy : ev st T y = some (.str key)) (ho : st.obj o = some (.smap m))
    (k : AOps P n ops rest K E ((d, (slook key m).getD (absV zz)) :: T) st) : AOps P n ops (⟨dd, .lookup t x y false, ty, pos, es, gd⟩ :: rest) K E T st := by
  obtain ⟨hw, hd, hok⟩ := goes_some hg
  simp only at hd
  subst hd
  refine AOps.pure hw hok _ (fun g w a hs hk => ?_) k
  have h1 := ev_R hs hk hx
  have h2 := ev_R hs hk hy
  generalize hux : a.eval x = ux at h1
  generalize huy : a.eval y = uy at h2
  cases h2
  cases h1 with
  | amap _ b mm hb =>
    obtain ⟨_, ⟨ents, clock, e1, e2, e3, e4⟩, _⟩ := hs.objOf ho hb
    have hkeys : ∀ (j : Nat) e p, ents.toList[j]? = some e → m[j]? = some p → e.key = .string ⟨⟨p.1⟩⟩ := fun j e p he hp => (e4 j e p.1 p.2 (by simpa using he) hp).1
    have hfind := run_findKey_str (P := P) w hk'.out key m ents.toList (by simpa using e2) hkeys
    have hget : (getObj b).run P w = .ok (.map ents clock) w := by
      simp [getObj, Sem.run, e1]
    rw [slook_eq]
    cases hf : m.findIdx? (fun p => decide (key = p.1)) with
    | none =>
      rw [hf] at hfind
      simp only [Option.bind_none] at hfind ⊢
      refine ⟨zz, ?_, R_absV g w zz⟩
      simp [execOp, hux, huy, Instr.lookup, run_und (P := P) (t := t) w, hget, run_checkKey_str (P := P) w hk'.out, hfind, run_zero (P := P) (t := et) w]
    | some i =>
      obtain ⟨hil, hip, _⟩ := List.findIdx?_eq_some_iff_getElem.1 hf
      have hie : i < ents.size := by omega
      rw [hf] at hfind
      have hei : ents.toList[i]? = some ents[i] := by simp [hie]
      simp only [Option.bind_some, hei, Option.map_some] at hfind
      simp only [Option.bind_some, List.getElem?_eq_getElem hil, Option.map_some, Option.getD_some]
      refine ⟨ents[i].val, ?_, (e4 i ents[i] m[i].1 m[i].2 (by simp [hie]) (List.getElem?_eq_getElem hil)).2⟩
      simp [execOp, hux, huy, Instr.lookup, run_und (P := P) (t := t) w, hget, run_checkKey_str (P := P) w hk'.out, hfind]

end
end Go.AM
