/-
  Each operation does in the world what the evaluator says: maps, iterators, lengths. No condition.
-/
import Derived.Test.YtboejpobmpfifaaGreatDoorEng8
namespace Go.Proofs.YtboejpobmpfifaaGreatDoor.Eng
open Go Go.RowKit
set_option linter.unusedSimpArgs false

section
variable {P : Program} {B : Nat} {w0 : World} {S : Sit}

/-- A key type's kind. -/
def KindOk (kk : Nat) (d : TypeDesc) : Prop := (kk = 0 ∧ d = .string) ∨ (kk = 1 ∧ ∃ k, d = .int k) ∨ (kk = 2 ∧ d = .bool)

theorem keyKind_ok {t : TypeId} {kk : Nat} (h : keyKind P t = some kk) : ∃ d, P.underlying t = some d ∧ KindOk kk d := by
  unfold keyKind at h
  split at h <;> simp at h <;> subst h
  · rename_i hu; exact ⟨_, hu, .inl ⟨rfl, rfl⟩⟩
  · rename_i k hu; exact ⟨_, hu, .inr (.inl ⟨rfl, k, rfl⟩)⟩
  · rename_i hu; exact ⟨_, hu, .inr (.inr ⟨rfl, rfl⟩)⟩

theorem keyOk_one {kk : Nat} {k : V} (h : keyOk kk k = true) : k.one = true := by
  unfold keyOk at h
  split at h <;> first | rfl | cases h

theorem keyOk_cases {kk : Nat} {k : V} {c : Value} (h : keyOk kk k = true) (hk : Rel S k c) {d : TypeDesc} (hd : KindOk kk d) :
    (∃ s, k = .str s ∧ c = .string ⟨s.toArray⟩ ∧ d = .string) ∨ (∃ j n j', k = .int j n ∧ c = .int j n ∧ d = .int j') ∨ (∃ b, k = .bool b ∧ c = .bool b ∧ d = .bool) := by
  unfold keyOk at h
  split at h
  · rename_i s
    rcases hd with ⟨_, hd⟩ | ⟨h', _⟩ | ⟨h', _⟩
    · exact .inl ⟨s, rfl, hk.str_inv, hd⟩
    · cases h'
    · cases h'
  · rename_i j n
    rcases hd with ⟨h', _⟩ | ⟨_, j', hd⟩ | ⟨h', _⟩
    · cases h'
    · exact .inr (.inl ⟨j, n, j', rfl, hk.int_inv, hd⟩)
    · cases h'
  · rename_i b
    rcases hd with ⟨h', _⟩ | ⟨h', _⟩ | ⟨_, hd⟩
    · cases h'
    · cases h'
    · exact .inr (.inr ⟨b, rfl, hk.bool_inv, hd⟩)
  · cases h

theorem keyEq_ok {kk : Nat} {k k' : V} {c c' : Value} (h : keyOk kk k = true) (hk : Rel S k c) (hk' : Rel S k' c') {d : TypeDesc} (hd : KindOk kk d) {b : Bool}
    (he : keyEq k k' = some b) : Instr.sameNow d c c' = some b ∧ (b = true → c' = c ∧ k' = k ∧ ∀ n, Instr.sameBits n c' c = true) := by
  have hlist : ∀ a b : List UInt8, ((⟨a.toArray⟩ : ByteArray) == ⟨b.toArray⟩) = decide (a = b) := by
    intro a b
    show (a.toArray == b.toArray) = _
    rw [Bool.eq_iff_iff]
    simp
  rcases keyOk_cases h hk hd with ⟨s, rfl, rfl, rfl⟩ | ⟨j, n, j', rfl, rfl, rfl⟩ | ⟨x, rfl, rfl, rfl⟩
  · cases k' <;> simp [keyEq] at he
    rename_i s'
    rw [hk'.str_inv]
    refine ⟨by simp only [Instr.sameNow, hlist]; exact congrArg some he, fun hb => ?_⟩
    subst hb
    simp at he
    subst he
    exact ⟨rfl, rfl, fun n => by cases n <;> simp only [Instr.sameBits, hlist] <;> simp⟩
  · cases k' <;> simp [keyEq] at he
    rename_i j'' n'
    obtain ⟨rfl, he⟩ := he
    rw [hk'.int_inv]
    refine ⟨?_, fun hb => ?_⟩
    · simp only [Instr.sameNow, if_true]
      rw [← he]
      congr 1
    · subst hb
      simp at he
      subst he
      exact ⟨rfl, rfl, fun n => by cases n <;> simp [Instr.sameBits]⟩
  · cases k' <;> simp [keyEq] at he
    rename_i x'
    rw [hk'.bool_inv]
    refine ⟨?_, fun hb => ?_⟩
    · simp only [Instr.sameNow]
      rw [← he]
      congr 1
    · subst hb
      simp at he
      subst he
      exact ⟨rfl, rfl, fun n => by cases n <;> simp [Instr.sameBits]⟩

theorem find_ok {kk : Nat} {k : V} {c : Value} (h : keyOk kk k = true) (hk : Rel S k c) {d : TypeDesc} (hd : KindOk kk d) {es : List (V × V × Nat)} {l : List MapEntry}
    (hr : RelE S es l) : ∀ (start : Nat) (r : Option (V × Nat)), find k es = some r →
      match r with
      | none => Instr.findNow d c l start = some none
      | some (v, b) => ∃ i e, Instr.findNow d c l start = some (some (start + i, e.val)) ∧ l[i]? = some e ∧ Rel S v e.val ∧ e.born = b ∧ e.key = c ∧
          (∀ n, Instr.sameBits n e.key c = true) ∧ (∀ v' c', Rel S v' c' → RelE S (setKey k v' es) (l.modify i fun e => { e with key := c, val := c' })) := by
  induction hr with
  | nil => intro start r hf; simp [find] at hf; subst hf; rfl
  | cons k' v b es e l h1 h2 h3 h4 hrest ih =>
    intro start r hf
    simp only [find] at hf
    cases hq : keyEq k k' with
    | none => rw [hq] at hf; cases hf
    | some t =>
      obtain ⟨hs, ht⟩ := keyEq_ok h hk h2 hd hq
      rw [hq] at hf
      cases t with
      | true =>
        obtain ⟨e1, e2, e3⟩ := ht rfl
        simp at hf
        subst hf
        refine ⟨0, e, by simp [Instr.findNow, hs], rfl, h3, h4, e1, fun n => by rw [e1]; have := e3 n; rw [e1] at this; exact this, ?_⟩
        intro v' c' hv'
        simp only [setKey, hq, if_true, List.modify_zero_cons]
        exact .cons k' v' b es _ l h1 (by simpa [e2] using hk) hv' h4 hrest
      | false =>
        have := ih (start + 1) r hf
        cases r with
        | none => simpa [Instr.findNow, hs] using this
        | some q =>
          obtain ⟨i, e', g1, g2, g3, g4, g5, g6, g7⟩ := this
          refine ⟨i + 1, e', ?_, by simpa using g2, g3, g4, g5, g6, ?_⟩
          · simp only [Instr.findNow, hs]
            rw [g1]
            congr 3
            omega
          · intro v' c' hv'
            simp only [setKey, hq]
            have hne : ¬ (some false = some true) := by simp
            rw [if_neg hne]
            exact .cons k' v b _ e _ h1 h2 h3 h4 (g7 v' c' hv')

theorem findKey_ok {kk : Nat} {k : V} {c : Value} (h : keyOk kk k = true) (hk : Rel S k c) {kt : TypeId} {d : TypeDesc} (hu : P.underlying kt = some d) (hd : KindOk kk d) {es : List (V × V × Nat)} {l : List MapEntry}
    (hr : RelE S es l) {r : Option (V × Nat)} (hf : find k es = some r) (w : World) :
    match r with
    | none => (Instr.findKey kt c l).run P w = .ok none w
    | some (v, b) => ∃ i e, (Instr.findKey kt c l).run P w = .ok (some (i, e.val)) w ∧ l[i]? = some e ∧ Rel S v e.val ∧ e.born = b ∧ e.key = c ∧
          (∀ n, Instr.sameBits n e.key c = true) ∧ (∀ v' c', Rel S v' c' → RelE S (setKey k v' es) (l.modify i fun e => { e with key := c, val := c' })) := by
  have := find_ok h hk hd hr 0 r hf
  cases r with
  | none => simp only at this ⊢; simp [Instr.findKey, run_underlying hu, this]
  | some q =>
    obtain ⟨i, e, g1, g2⟩ := this
    simp only [Nat.zero_add] at g1
    exact ⟨i, e, by simp [Instr.findKey, run_underlying hu, g1], g2⟩

theorem checkKey_ok {kk : Nat} {k : V} {c : Value} (h : keyOk kk k = true) (hk : Rel S k c) {kt : TypeId} {d : TypeDesc} (hu : P.underlying kt = some d) (hd : KindOk kk d) (b : Bool) (w : World) :
    (Instr.checkKey b 10000 kt c).run P w = .ok () w := by
  have e : Instr.checkKey b 10000 kt c = Instr.checkKey b (9999 + 1) kt c := rfl
  rw [e, Instr.checkKey, Sem.run_bind, run_underlying hu]
  rcases keyOk_cases h hk hd with ⟨s, rfl, rfl, rfl⟩ | ⟨j, n, j', rfl, rfl, rfl⟩ | ⟨x, rfl, rfl, rfl⟩ <;> rfl

theorem RelE.length {es : List (V × V × Nat)} {l : List MapEntry} (h : RelE S es l) : es.length = l.length := by
  induction h with
  | nil => rfl
  | cons _ _ _ _ _ _ _ _ _ _ _ ih => simp [ih]

theorem mapOf_ok {t kt et : TypeId} (h : mapOf P t = some (kt, et)) : P.underlying t = some (.map kt et) := by
  unfold mapOf at h
  split at h
  · rename_i k e hu; simp at h; obtain ⟨rfl, rfl⟩ := h; exact hu
  · cases h

theorem Inv.mapAt (h : Inv B w0 S) {id : Nat} {es : List (V × V × Nat)} {clock : Nat} (hid : S.st.obs[id]? = some (.map es clock)) :
    ∃ l, S.w.heap[S.μ id]? = some (.map (List.toArray l) clock) ∧ RelE S es l := (h.obj id _ hid).2

theorem getObj_run {w : World} {r : Nat} {o : Obj} (h : w.heap[r]? = some o) (hn : ∀ c e f, o ≠ .cells c e f) : (getObj r).run P w = .ok o w := by
  cases o <;> first | (simp [getObj, Sem.run, h]; done) | exact absurd rfl (hn _ _ _)

theorem setObj_run {w : World} {r : Nat} {o : Obj} (o' : Obj) (h : w.heap[r]? = some o) (hn : ∀ c e f, o ≠ .cells c e f) : (setObj r o').run P w = .ok () { w with heap := w.heap.setIfInBounds r o' } := by
  cases o <;> first | (simp [setObj, Sem.run, h]; done) | exact absurd rfl (hn _ _ _)

theorem evLook_ok {kk : Nat} {k : V} {c : Value} (h : keyOk kk k = true) (hk : Rel S k c) {kt et : TypeId} {d : TypeDesc} (hu : P.underlying kt = some d) (hd : KindOk kk d) {es : List (V × V × Nat)} {l : List MapEntry}
    (hr : RelE S es l) {z : V} {zc : Value} (_hzr : ∀ w, (zeroValue et).run P w = .ok zc w) (hz : Rel S z zc) {ok : Bool} {v : V} (he : evLook z ok es k = some v) :
    (∃ i val, (Instr.findKey kt c l).run P S.w = .ok (some (i, val)) S.w ∧ Rel S v (if ok then .tuple #[val, .bool true] else val)) ∨
    ((Instr.findKey kt c l).run P S.w = .ok none S.w ∧ Rel S v (if ok then .tuple #[zc, .bool false] else zc)) := by
  unfold evLook at he
  split at he
  · rename_i u b hf
    obtain ⟨i, e, g1, g2, g3, _⟩ := findKey_ok h hk hu hd hr hf S.w
    simp only [Option.some.injEq] at he
    subst he
    cases ok with
    | true => exact .inl ⟨i, e.val, g1, .tup _ _ (.cons _ _ _ _ g3 (.cons _ _ _ _ (.bool true) .nil))⟩
    | false => exact .inl ⟨i, e.val, g1, g3⟩
  · rename_i hf
    have g1 := findKey_ok h hk hu hd hr hf S.w
    simp only at g1
    simp only [Option.some.injEq] at he
    subst he
    cases ok with
    | true => exact .inr ⟨g1, .tup _ _ (.cons _ _ _ _ hz (.cons _ _ _ _ (.bool false) .nil))⟩
    | false => exact .inr ⟨g1, hz⟩
  · cases he

theorem lookup_ok (hI : Inv B w0 S) {t kt et : TypeId} (hm : mapOf P t = some (kt, et)) {kk : Nat} (hkk : keyKind P kt = some kk) {z : V} (hz : zeroV P et = some z)
    {m k : V} {mc c : Value} (hmr : Rel S m mc) (hk : Rel S k c) {ok : Bool} {v : V} {s' : St}
    (he : evLookup kk z ok m k S.st = some (v, s')) : s' = S.st ∧ ∃ r, (Instr.lookup t mc c ok).run P S.w = .ok r S.w ∧ Rel S v r := by
  have hu := mapOf_ok hm
  obtain ⟨d, hkd, hd⟩ := keyKind_ok hkk
  obtain ⟨zc, hzr, hzrel, _⟩ := run_zeroV (S := S) hz
  cases m with
  | mnil =>
    simp only [evLookup] at he
    split at he
    · rename_i hko
      simp only [Option.map_eq_some_iff, Prod.mk.injEq] at he
      obtain ⟨u, hu', rfl, rfl⟩ := he
      rw [hmr.mnil_inv]
      refine ⟨rfl, ?_⟩
      unfold Instr.lookup
      rcases evLook_ok (P := P) hko hk hkd hd (es := []) (l := []) .nil hzr hzrel hu' with ⟨i, val, g1, g2⟩ | ⟨g1, g2⟩
      · refine ⟨_, ?_, g2⟩
        simp only [Sem.run_bind, run_underlying hu, Result.andThen_ok, Sem.run_pure, checkKey_ok hko hk hkd hd, g1]
      · refine ⟨_, ?_, g2⟩
        simp only [Sem.run_bind, run_underlying hu, Result.andThen_ok, Sem.run_pure, checkKey_ok hko hk hkd hd, g1, hzr]
    · cases he
  | map id =>
    simp only [evLookup] at he
    split at he
    · rename_i es clock hid
      split at he
      · rename_i hko
        simp only [Option.map_eq_some_iff, Prod.mk.injEq] at he
        obtain ⟨u, hu', rfl, rfl⟩ := he
        obtain ⟨rfl, _⟩ := hmr.map_inv
        obtain ⟨l, hl, hrel⟩ := hI.mapAt hid
        refine ⟨rfl, ?_⟩
        have hg := getObj_run (P := P) hl (by intro _ _ _ q; cases q)
        unfold Instr.lookup
        rcases evLook_ok (P := P) hko hk hkd hd hrel hzr hzrel hu' with ⟨i, val, g1, g2⟩ | ⟨g1, g2⟩
        · refine ⟨_, ?_, g2⟩
          simp only [Sem.run_bind, run_underlying hu, Result.andThen_ok, Sem.run_pure, hg, checkKey_ok hko hk hkd hd, g1]
        · refine ⟨_, ?_, g2⟩
          simp only [Sem.run_bind, run_underlying hu, Result.andThen_ok, Sem.run_pure, hg, checkKey_ok hko hk hkd hd, g1, hzr]
      · cases he
    · cases he
  | _ => cases he

theorem keyThatStays_ok {old new : Value} (h : ∀ n, Instr.sameBits n old new = true) (w : World) : (Instr.keyThatStays old new).run P w = .ok new w := by
  unfold Instr.keyThatStays
  rw [if_pos (h 10000)]
  rfl

theorem RelE.push {es : List (V × V × Nat)} {l : List MapEntry} (h : RelE S es l) {k v : V} {c d : Value} (h1 : k.one = true) (hk : Rel S k c) (hv : Rel S v d) (b : Nat) :
    RelE S (es ++ [(k, v, b)]) (l ++ [{ key := c, val := d, born := b }]) := by
  induction h with
  | nil => exact .cons k v b [] _ [] h1 hk hv rfl .nil
  | cons k' v' b' es e l g1 g2 g3 g4 _ ih => exact .cons k' v' b' _ e _ g1 g2 g3 g4 ih

/-- A map's entries turned. -/
theorem setObj_ok (hI : Inv B w0 S) {id : Nat} {es : List (V × V × Nat)} {clock : Nat} (hid : S.st.obs[id]? = some (.map es clock)) {es' : List (V × V × Nat)} {l' : List MapEntry}
    (hr : RelE S es' l') (clock' : Nat) :
    ∃ w', (setObj (S.μ id) (.map l'.toArray clock')).run P S.w = .ok () w' ∧ Inv B w0 (S.turn id (.map es' clock') w') ∧ Ext S (S.turn id (.map es' clock') w') := by
  obtain ⟨l, hl, _⟩ := hI.mapAt hid
  have hidl := lt_of_get hid
  have htn := Turns.setObj S.w (S.μ id) (.map l'.toArray clock') (by intro _ _ _ q; cases q) (by intro _ _ _ q; rw [hl] at q; cases q)
  have hE := Ext.turn hI hidl (by rw [hid]; simp) htn (.map es' clock')
  refine ⟨_, setObj_run _ hl (by intro _ _ _ q; cases q), hI.turn hidl (by rw [hid]; simp) htn ⟨l', ?_, hr.mono hE⟩ (fun _ _ q => by cases q), hE⟩
  have := hI.mu_lt hidl
  simp [Sit.turn, this]

theorem mapUpdate_ok (hI : Inv B w0 S) {t kt et : TypeId} (hm : mapOf P t = some (kt, et)) {kk : Nat} (hkk : keyKind P kt = some kk)
    {m k x v : V} {mc c d' : Value} (hmr : Rel S m mc) (hk : Rel S k c) (hx : Rel S x d') {s' : St}
    (he : evMupd kk m k x S.st = some (v, s')) :
    v = .tup [] ∧ ∃ S', (Instr.mapUpdate t mc c d').run P S.w = .ok () S'.w ∧ S'.st = s' ∧ Inv B w0 S' ∧ Ext S S' := by
  have hu := mapOf_ok hm
  obtain ⟨d, hkd, hd⟩ := keyKind_ok hkk
  cases m with
  | map id =>
    simp only [evMupd] at he
    split at he
    · rename_i es clock hid
      split at he
      · rename_i hko
        obtain ⟨rfl, _⟩ := hmr.map_inv
        obtain ⟨l, hl, hrel⟩ := hI.mapAt hid
        have hg := getObj_run (P := P) hl (by intro _ _ _ q; cases q)
        split at he
        · rename_i q hf
          obtain ⟨u, b⟩ := q
          simp only [Option.some.injEq, Prod.mk.injEq] at he
          obtain ⟨rfl, rfl⟩ := he
          obtain ⟨i, e, g1, g2, g3, g4, g5, g6, g7⟩ := findKey_ok hko hk hkd hd hrel hf S.w
          obtain ⟨w', h1, h2, h3⟩ := setObj_ok (P := P) hI hid (g7 x d' hx) clock
          refine ⟨rfl, _, ?_, rfl, h2, h3⟩
          unfold Instr.mapUpdate
          simp only [Sem.run_bind, run_underlying hu, Result.andThen_ok, Sem.run_pure, hg, checkKey_ok hko hk hkd hd, g1]
          have hkey : ((l.toArray[i]?).map (·.key)).getD c = e.key := by simp [g2]
          rw [hkey]
          simp only [keyThatStays_ok g6, Result.andThen_ok]
          have hmod : l.toArray.modify i (fun e => { e with key := c, val := d' }) = (l.modify i fun e => { e with key := c, val := d' }).toArray := by simp
          rw [hmod]
          exact h1
        · rename_i hf
          simp only [Option.some.injEq, Prod.mk.injEq] at he
          obtain ⟨rfl, rfl⟩ := he
          have g1 := findKey_ok hko hk hkd hd hrel hf S.w
          simp only at g1
          obtain ⟨w', h1, h2, h3⟩ := setObj_ok (P := P) hI hid (hrel.push (keyOk_one hko) hk hx clock) (clock + 1)
          refine ⟨rfl, _, ?_, rfl, h2, h3⟩
          unfold Instr.mapUpdate
          simp only [Sem.run_bind, run_underlying hu, Result.andThen_ok, Sem.run_pure, hg, checkKey_ok hko hk hkd hd, g1]
          have hpush : l.toArray.push (⟨c, d', clock⟩ : MapEntry) = (l ++ [(⟨c, d', clock⟩ : MapEntry)]).toArray := by simp
          rw [hpush]
          exact h1
        · cases he
      · cases he
    · cases he
  | _ => cases he

theorem modify_same {l : List MapEntry} {i : Nat} {e : MapEntry} {c : Value} (h : l[i]? = some e) (hk : e.key = c) : l.modify i (fun e => { e with key := c }) = l := by
  apply List.ext_getElem?
  intro j
  rw [List.getElem?_modify]
  by_cases hj : i = j
  · subst hj
    rw [h]
    simp [← hk]
  · cases l[j]? <;> simp [hj]

theorem mapEntry_ok (hI : Inv B w0 S) {t kt et : TypeId} (hm : mapOf P t = some (kt, et)) {kk : Nat} (hkk : keyKind P kt = some kk) {z : V} (hz : zeroV P et = some z)
    {m k v : V} {mc c : Value} (hmr : Rel S m mc) (hk : Rel S k c) {s' : St}
    (he : evMent kk z m k S.st = some (v, s')) :
    ∃ S' r, (Instr.mapEntry t mc c).run P S.w = .ok r S'.w ∧ S'.st = s' ∧ Inv B w0 S' ∧ Ext S S' ∧ Rel S' v r := by
  have hu := mapOf_ok hm
  obtain ⟨d, hkd, hd⟩ := keyKind_ok hkk
  obtain ⟨zc, hzr, hzrel, _⟩ := run_zeroV (S := S) hz
  cases m with
  | map id =>
    simp only [evMent] at he
    split at he
    · rename_i es clock hid
      split at he
      · rename_i hko
        obtain ⟨rfl, _⟩ := hmr.map_inv
        obtain ⟨l, hl, hrel⟩ := hI.mapAt hid
        have hg := getObj_run (P := P) hl (by intro _ _ _ q; cases q)
        split at he
        · rename_i u b hf
          simp only [Option.some.injEq, Prod.mk.injEq] at he
          obtain ⟨rfl, rfl⟩ := he
          obtain ⟨i, e, g1, g2, g3, g4, g5, g6, _⟩ := findKey_ok hko hk hkd hd hrel hf S.w
          obtain ⟨w', h1, h2, h3⟩ := setObj_ok (P := P) hI hid hrel clock
          have hsame : S.turn id (.map es clock) w' = { S with w := w' } := by
            have : S.st.obs.set id (.map es clock) = S.st.obs := by
              apply List.ext_getElem?
              intro j
              by_cases hj : id = j
              · subst hj; rw [List.getElem?_set_self (lt_of_get hid), hid]
              · rw [List.getElem?_set_ne hj]
            simp [Sit.turn, this]
          refine ⟨_, .tuple #[e.val, .int .i64 b], ?_, ?_, h2, h3, .tup _ _ (.cons _ _ _ _ (g3.mono h3) (.cons _ _ _ _ (.int _ _) .nil))⟩
          · unfold Instr.mapEntry
            simp only [Sem.run_bind, run_underlying hu, Result.andThen_ok, Sem.run_pure, hg, checkKey_ok hko hk hkd hd, g1]
            have hkey : ((l.toArray[i]?).map (·.key)).getD c = e.key := by simp [g2]
            have hborn : ((l.toArray[i]?).map (fun x => (x.born : Int))).getD 0 = (b : Int) := by simp [g2, g4]
            have hmod : l.toArray.modify i (fun e => { e with key := c }) = l.toArray := by
              rw [List.modify_toArray, modify_same g2 g5]
            rw [hkey]
            simp only [keyThatStays_ok g6, Result.andThen_ok, hmod, h1, hborn, goInt]
            rfl
          · rw [hsame]
        · rename_i hf
          simp only [Option.some.injEq, Prod.mk.injEq] at he
          obtain ⟨rfl, rfl⟩ := he
          have g1 := findKey_ok hko hk hkd hd hrel hf S.w
          simp only at g1
          obtain ⟨w', h1, h2, h3⟩ := setObj_ok (P := P) hI hid (hrel.push (keyOk_one hko) hk hzrel clock) (clock + 1)
          refine ⟨_, .tuple #[zc, .int .i64 clock], ?_, rfl, h2, h3, .tup _ _ (.cons _ _ _ _ (hzrel.mono h3) (.cons _ _ _ _ (.int _ _) .nil))⟩
          unfold Instr.mapEntry
          simp only [Sem.run_bind, run_underlying hu, Result.andThen_ok, Sem.run_pure, hg, checkKey_ok hko hk hkd hd, g1, hzr]
          have hpush : l.toArray.push (⟨c, zc, clock⟩ : MapEntry) = (l ++ [(⟨c, zc, clock⟩ : MapEntry)]).toArray := by simp
          rw [hpush]
          simp only [h1, Result.andThen_ok, goInt]
          rfl
        · cases he
      · cases he
    · cases he
  | _ => cases he

theorem setBorn_ok {n : Int} {v : V} {c : Value} (hv : Rel S v c) {b : Nat} (hb : (b : Int) = n) {es es' : List (V × V × Nat)} {l : List MapEntry} (hr : RelE S es l) (h : setBorn b v es = some es') :
    ∃ i, l.findIdx? (fun e => (e.born : Int) == n) = some i ∧ RelE S es' (l.modify i fun e => { e with val := c }) := by
  induction hr generalizing es' with
  | nil => simp [setBorn] at h
  | cons k u b' es e l h1 h2 h3 h4 hrest ih =>
    simp only [setBorn] at h
    split at h
    · rename_i hbb
      simp at h; subst h
      refine ⟨0, ?_, ?_⟩
      · simp only [List.findIdx?_cons]
        rw [if_pos (by simp; omega)]
      · simp only [List.modify_zero_cons]
        exact .cons k v b' es _ l h1 h2 hv h4 hrest
    · rename_i hbb
      simp only [Option.map_eq_some_iff] at h
      obtain ⟨es'', hes, rfl⟩ := h
      obtain ⟨i, g1, g2⟩ := ih hes
      refine ⟨i + 1, ?_, ?_⟩
      · simp only [List.findIdx?_cons]
        rw [if_neg (by simp; omega), g1]
        rfl
      · exact .cons k u b' _ e _ h1 h2 h3 h4 g2

theorem entryStore_ok (hI : Inv B w0 S) {t : TypeId} {m b x v : V} {mc bc d : Value} (hmr : Rel S m mc) (hb : Rel S b bc) (hx : Rel S x d) {s' : St}
    (he : evEst m b x S.st = some (v, s')) :
    v = .tup [] ∧ ∃ S', (Instr.entryStore t mc bc d).run P S.w = .ok () S'.w ∧ S'.st = s' ∧ Inv B w0 S' ∧ Ext S S' := by
  cases m with
  | map id =>
    cases b with
    | int k n =>
      simp only [evEst] at he
      split at he
      · rename_i es clock hid
        split at he
        · rename_i h0
          simp only [Option.map_eq_some_iff, Prod.mk.injEq] at he
          obtain ⟨es', hes, rfl, rfl⟩ := he
          obtain ⟨rfl, _⟩ := hmr.map_inv
          rw [hb.int_inv]
          obtain ⟨l, hl, hrel⟩ := hI.mapAt hid
          have hg := getObj_run (P := P) hl (by intro _ _ _ q; cases q)
          obtain ⟨i, g1, g2⟩ := setBorn_ok (n := n) hx (by omega) hrel hes
          obtain ⟨w', h1, h2, h3⟩ := setObj_ok (P := P) hI hid g2 clock
          refine ⟨rfl, _, ?_, rfl, h2, h3⟩
          have hfi : l.toArray.findIdx? (fun e => (e.born : Int) == n) = some i := by simpa using g1
          have hmod : l.toArray.modify i (fun e => { e with val := d }) = (l.modify i fun e => { e with val := d }).toArray := by simp
          unfold Instr.entryStore
          simp only [Sem.run_bind, Result.andThen_ok, hg, asInt, asIntOf, Sem.run_pure, hfi, hmod]
          exact h1
        · cases he
      · cases he
    | _ => cases he
  | _ => cases he

theorem Inv.iterAt (h : Inv B w0 S) {id : Nat} {b : List UInt8} {pos : Nat} (hid : S.st.obs[id]? = some (.iter b pos)) : S.w.heap[S.μ id]? = some (.stringIter ⟨b.toArray⟩ pos) := (h.obj id _ hid).2

theorem next_ok (hI : Inv B w0 S) {t : TypeId} {x v : V} {c : Value} (hx : Rel S x c) {s' : St}
    (he : evNxt x S.st = some (v, s')) :
    ∃ S' r, (Instr.next c true t).run P S.w = .ok r S'.w ∧ S'.st = s' ∧ Inv B w0 S' ∧ Ext S S' ∧ Rel S' v r := by
  cases x with
  | itr id =>
    simp only [evNxt] at he
    split at he
    · rename_i b pos hid
      obtain ⟨rfl, hidl⟩ := hx.itr_inv
      have hh := hI.iterAt hid
      have hg := getObj_run (P := P) hh (by intro _ _ _ q; cases q)
      have hsize : (⟨b.toArray⟩ : ByteArray).size = b.length := rfl
      split at he
      · rename_i hlt
        simp only [Option.some.injEq, Prod.mk.injEq] at he
        obtain ⟨rfl, rfl⟩ := he
        have htn := Turns.setObj S.w (S.μ id) (.stringIter ⟨b.toArray⟩ (pos + (Utf8.decode ⟨b.toArray⟩ pos).2)) (by intro _ _ _ q; cases q) (by intro _ _ _ q; rw [hh] at q; cases q)
        have hE := Ext.turn hI hidl (by rw [hid]; simp) htn (.iter b (pos + (Utf8.decode ⟨b.toArray⟩ pos).2))
        have hmu := hI.mu_lt hidl
        refine ⟨_, .tuple #[.bool true, .int .i64 pos, .int .i32 (Utf8.decode ⟨b.toArray⟩ pos).1], ?_, rfl, hI.turn hidl (by rw [hid]; simp) htn ?_ (fun _ _ q => by cases q), hE, ?_⟩
        · unfold Instr.next
          simp only [Sem.run_bind, hg, Result.andThen_ok]
          rw [if_pos (by rw [hsize]; exact hlt)]
          simp only [Sem.run_bind, setObj_run (P := P) _ hh (by intro _ _ _ q; cases q), Result.andThen_ok, goInt]
          rfl
        · simp [RelO, Sit.turn, hmu]
        · exact .tup _ _ (.cons _ _ _ _ (.bool _) (.cons _ _ _ _ (.int _ _) (.cons _ _ _ _ (.int _ _) .nil)))
      · rename_i hlt
        simp only [Option.some.injEq, Prod.mk.injEq] at he
        obtain ⟨rfl, rfl⟩ := he
        refine ⟨S, .tuple #[.bool false], ?_, rfl, hI, Ext.refl S, .tup _ _ (.cons _ _ _ _ (.bool _) .nil)⟩
        unfold Instr.next
        simp only [Sem.run_bind, hg, Result.andThen_ok]
        rw [if_neg (by rw [hsize]; exact hlt)]
        rfl
    · cases he
  | _ => cases he

theorem range_ok (hI : Inv B w0 S) {t : TypeId} (hu : P.underlying t = some .string) {b : List UInt8} {c : Value} (hx : Rel S (.str b) c) :
    ∃ r, (Instr.range t c).run P S.w = .ok r (S.alloc (.iter b 0) (.stringIter ⟨b.toArray⟩ 0)).w ∧ Inv B w0 (S.alloc (.iter b 0) (.stringIter ⟨b.toArray⟩ 0)) ∧
      Rel (S.alloc (.iter b 0) (.stringIter ⟨b.toArray⟩ 0)) (.itr S.st.obs.length) r := by
  rw [hx.str_inv]
  refine ⟨.pointer (some ⟨S.w.heap.size, 0, none⟩), ?_, hI.alloc (heap_alloc_new _ _), ?_⟩
  · simp [Instr.range, run_underlying hu, Sit.alloc]
  · have := Rel.itr (S := S.alloc (.iter b 0) (.stringIter ⟨b.toArray⟩ 0)) S.st.obs.length (by simp [Sit.alloc])
    simpa [Sit.alloc] using this

/-- A new object of cells. -/
theorem alloc_ok (hI : Inv B w0 S) {cs : List V} {cc : List Value} (h : RelL S cs cc) (e : TypeId) :
    Inv B w0 (S.alloc (.cells e cs) (.cells cc.toArray e)) ∧ Ext S (S.alloc (.cells e cs) (.cells cc.toArray e)) ∧
      Rel (S.alloc (.cells e cs) (.cells cc.toArray e)) (.ptr S.st.obs.length 0) (.pointer (some ⟨S.w.heap.size, 0, none⟩)) := by
  have hE := Ext.alloc hI (.cells e cs) (.cells cc.toArray e)
  refine ⟨hI.alloc ⟨cc, heap_alloc_new _ _, h.mono hE⟩, hE, ?_⟩
  have := Rel.ptr (S := S.alloc (.cells e cs) (.cells cc.toArray e)) S.st.obs.length 0 (by simp [Sit.alloc])
  simpa [Sit.alloc] using this

theorem makeMap_ok (hI : Inv B w0 S) : Inv B w0 (S.alloc (.map [] 0) (.map #[] 0)) ∧ Ext S (S.alloc (.map [] 0) (.map #[] 0)) ∧
      Rel (S.alloc (.map [] 0) (.map #[] 0)) (.map S.st.obs.length) (.map (some S.w.heap.size)) := by
  have hE := Ext.alloc hI (.map [] 0) (.map #[] 0)
  refine ⟨hI.alloc ⟨[], heap_alloc_new _ _, .nil⟩, hE, ?_⟩
  have := Rel.map (S := S.alloc (.map [] 0) (.map #[] 0)) S.st.obs.length (by simp [Sit.alloc])
  simpa [Sit.alloc] using this

end
end Go.Proofs.YtboejpobmpfifaaGreatDoor.Eng
