/-
  JSON: what the functions do, one behind the other. No condition.
-/
import Derived.Test.YtjdppboomglenaaGreatDoorJSpecs
/-
  JSON, read: what a reader holds; blanks, signs, faults. No condition.
-/
namespace Go.Proofs.YtjdppboomglenaaGreatDoor.Eng
open Go
set_option linter.unusedSimpArgs false
set_option linter.unusedVariables false

attribute [local simp] evC_reg evC_regD evR_cons evR_nil runR_some regK_some evC_ret evC_skip evC_exit Out_seq Out_blk Out_some seqQ_norm seqQ_ret seqQ_exit blkQ_norm blkQ_ret blkQ_exit loopQ_norm loopQ_ret loopQ_exit
attribute [local simp] stepR evOp put upd_apply X.ev initEnv cells_agg cells_int cells_str cells_bool cells_sl cells_ptr cells_pnil cells_fn cells_map vc_length vc_take vc_plain vc_und toVs_plain toPs_plain toVs_und toPs_und takeN evBin isSh intBin strBin callK resOf packR V.plain plainL V.und undL scK kill dstsO dstsL dstsR ite_some ite_pair ite_vbool evUn evLoad evLen V.real finLoop_false quietK_false kill_none

/-! ### The plain parser -/
def isBl (x : UInt8) : Bool := decide (x = 32) || decide (x = 9) || decide (x = 10) || decide (x = 13)
def skp (l : List UInt8) : List UInt8 := l.dropWhile isBl
/-- What is read, and the rest; or the rest at which something is wrong, and what. -/
inductive PR (α : Type) where
  | ok (v : α) (l : List UInt8)
  | err (l : List UInt8) (e : Int)

theorem skp_suf (l : List UInt8) : skp l <:+ l := List.dropWhile_suffix _
theorem skp_skp (l : List UInt8) : skp (skp l) = skp l := by
  induction l with
  | nil => rfl
  | cons x l ih =>
    by_cases h : isBl x = true
    · simp only [skp, List.dropWhile_cons, h, if_true]; exact ih
    · simp [skp, List.dropWhile_cons, h]

/-- A reader of text b, of which l is left. -/
def rdr (b l : List UInt8) (bad e : Int) : AObj := .cells 45 [.str b, .int .i64 ((b.length - l.length : Nat) : Int), .int .i64 bad, .int .i64 e]
/-- ... with another object there. -/
abbrev upR (s : St) (r : Nat) (o : AObj) : St := ⟨s.obs.set r o, s.bufs⟩

theorem suf_drop {b l : List UInt8} (h : l <:+ b) : b.drop (b.length - l.length) = l := (List.suffix_iff_eq_drop.1 h).symm
theorem suf_len {b l : List UInt8} (h : l <:+ b) : l.length ≤ b.length := h.length_le
theorem suf_get {b l : List UInt8} (h : l <:+ b) : b[b.length - l.length]? = l[0]? := by
  have := suf_drop h
  conv => rhs; rw [← this]
  simp [List.getElem?_drop]
theorem suf_tail {b : List UInt8} {c : UInt8} {l : List UInt8} (h : (c :: l) <:+ b) : l <:+ b := (List.suffix_cons c l).trans h
theorem pos_tail {b : List UInt8} {c : UInt8} {l : List UInt8} (h : (c :: l) <:+ b) : b.length - l.length = b.length - (c :: l).length + 1 := by
  have := suf_len h
  simp only [List.length_cons] at this ⊢
  omega

theorem fin_up (s : St) {r : Nat} {o : AObj} (hr : r < s.obs.length) (ho : o.und s.obs.length s.bufs.length = true) (junk : List AObj) (ex : List (Nat × Nat × TypeId)) {v : V} (hv : v.plain.und s.obs.length 0 = true) :
    ∃ ex', fin false s ⟨s.obs.set r o ++ junk, s.bufs ++ ex⟩ v = (v.plain, ⟨s.obs.set r o, s.bufs ++ ex'⟩) ∧ (ex = [] → ex' = []) := by
  have hl : (s.obs.set r o).length = s.obs.length := by simp
  have ht : (s.obs.set r o ++ junk).take s.obs.length = s.obs.set r o := by rw [← hl, List.take_left]
  unfold fin
  simp only [Bool.false_eq_true, if_false, ht]
  split
  · rename_i h
    have h1 : s.obs.set r o = s.obs := by rw [← ht]; exact h.1
    exact ⟨[], by rw [h1]; simp, fun _ => rfl⟩
  · rename_i h
    rw [if_pos]
    · exact ⟨ex, rfl, fun h => h⟩
    · refine ⟨fun i hi => ?_, hv⟩
      by_cases e : i = r
      · subst e
        right
        intro o' ho'
        rw [List.getElem?_append_left (by omega), List.getElem?_set_self hi] at ho'
        cases ho'
        exact AObj.und_mono (Nat.le_refl _) (by simp) _ ho
      · left
        rw [List.getElem?_append_left (by omega), List.getElem?_set_ne (by omega)]

theorem fin_up0 (s : St) {r : Nat} {o : AObj} (hr : r < s.obs.length) (ho : o.und s.obs.length s.bufs.length = true) (junk : List AObj) {v : V} (hv : v.plain.und s.obs.length 0 = true) :
    fin false s ⟨s.obs.set r o ++ junk, s.bufs⟩ v = (v.plain, ⟨s.obs.set r o, s.bufs⟩) := by
  obtain ⟨ex', h1, h2⟩ := fin_up s hr ho junk [] hv
  rw [h2 rfl] at h1
  simpa using h1
theorem fin_up1 (s : St) {r : Nat} {o : AObj} (hr : r < s.obs.length) (ho : o.und s.obs.length s.bufs.length = true) {v : V} (hv : v.plain.und s.obs.length 0 = true) :
    fin false s ⟨s.obs.set r o, s.bufs⟩ v = (v.plain, ⟨s.obs.set r o, s.bufs⟩) := by
  have := fin_up0 s hr ho [] hv
  simpa using this
theorem fin_id (s : St) {v : V} (hv : v.plain.und s.obs.length 0 = true) : fin false s s v = (v.plain, s) := by
  unfold fin
  simp [hv]

theorem rdr_und (b l : List UInt8) (bad e : Int) (n m : Nat) : (rdr b l bad e).und n m = true := rfl
theorem get_lt {s : St} {r : Nat} {o : AObj} (h : s.obs[r]? = some o) : r < s.obs.length := (List.getElem?_eq_some_iff.1 h).1
theorem set_same {s : St} {r : Nat} {o : AObj} (h : s.obs[r]? = some o) : upR s r o = s := by
  have hr := get_lt h
  have : s.obs[r] = o := by rw [List.getElem?_eq_getElem hr] at h; exact Option.some.inj h
  simp only [upR]
  rw [← this, List.set_getElem_self hr]

theorem upR_upR (s : St) (r : Nat) (o o' : AObj) : upR (upR s r o) r o' = upR s r o' := by simp [upR]
theorem upR_get (s : St) {r : Nat} (hr : r < s.obs.length) (o : AObj) : (upR s r o).obs[r]? = some o := by simp [upR, hr]

/-! ### fail -/
theorem fail_spec {b l : List UInt8} {bad e at_ e2 : Int} {r : Nat} {s : St} (hs : s.obs[r]? = some (rdr b l bad e)) :
    call G 16 [.ptr r 0, .int .i64 at_, .int .i64 e2] s = some (.tup [], upR s r (rdr b l (if e = 0 then at_ else bad) (if e = 0 then e2 else e))) := by
  have hr := get_lt hs
  have hs' := hs
  unfold rdr at hs'
  refine call_out (F := af16) rfl rfl ?_
  simp [af16, af16b, hs']
  refine Out_cond _ _ _ _ _ _ _ rfl (fun h => ?_) (fun h => ?_)
  · simp at h
    subst h
    simp [evStore, V.one, ↓hs', hr, putL]
    exact fin_up1 s hr (rdr_und b l at_ e2 _ _) (v := .tup []) rfl
  · simp at h
    simp [h]
    rw [fin_id s (v := .tup []) rfl, set_same hs]
    rfl

/-! ### skip -/
theorem ib_bl (c : UInt8) : (0 ≤ Lib.indexByte [32, 9, 10, 13] c) ↔ isBl c = true := by
  have h1 := Lib.indexByte_ge ([] : List UInt8) c
  unfold isBl
  simp only [Lib.indexByte, Bool.or_eq_true, decide_eq_true_eq, beq_iff_eq]
  by_cases a : (32 : UInt8) = c
  · simp [← a]
  by_cases b : (9 : UInt8) = c
  · simp [← b]
  by_cases d : (10 : UInt8) = c
  · simp [← d]
  by_cases e : (13 : UInt8) = c
  · simp [← e]
  simp [a, b, d, e, Ne.symm a, Ne.symm b, Ne.symm d, Ne.symm e, eq_comm]

theorem ib_spec (b : List UInt8) (c : UInt8) (s : St) : call G 33 [.str b, .int .u8 c.toNat] s = some (.int .i64 (Lib.indexByte b c), s) := by
  rw [call_prim G 33 _ s primIB rfl]
  simp [primIB]

theorem skipLoop {b : List UInt8} (hb : b.length ≤ 1000000000) (bad e : Int) {r : Nat} : ∀ (l : List UInt8) (env : Env) (s : St), l <:+ b → env 0 = .ptr r 0 → s.obs[r]? = some (rdr b l bad e) →
    Out (evC G (.loop false af15l0) env s) (fun ex env' s' => ex = .exit 0 ∧ s' = upR s r (rdr b (skp l) bad e)) := by
  intro l
  induction l with
  | nil =>
    intro env s hl h0 hs
    have hs' := hs
    unfold rdr at hs'
    refine Out_loop G false _ _ af15l0.eq_1 _ _ _ ?_
    simp [h0, hs']
    refine Out_cond _ _ _ _ _ _ _ rfl (fun h => by simp at h) (fun _ => ?_)
    simp [skp]
    rw [set_same hs]
  | cons c l ih =>
    intro env s hl h0 hs
    have hs' := hs
    unfold rdr at hs'
    have hr := get_lt hs
    have hlen := suf_len hl
    simp only [List.length_cons] at hlen
    have hlt : b.length - (l.length + 1) < b.length := by omega
    have hg := suf_get hl
    simp only [List.length_cons, List.getElem?_cons_zero] at hg
    have hgi : b[(((b.length - (l.length + 1) : Nat) : Int)).toNat]? = some c := by rw [Int.toNat_natCast]; exact hg
    refine Out_loop G false _ _ af15l0.eq_1 _ _ _ ?_
    simp [h0, hs', hlt, ↓hgi, ib_spec]
    refine Out_cond _ _ _ _ _ _ _ rfl (fun h => ?_) (fun h => ?_)
    · have hbl : isBl c = true := (ib_bl c).1 (by simpa using h)
      have hw : IntKind.i64.wrap (((b.length - (l.length + 1) : Nat) : Int) + 1) = ((b.length - l.length : Nat) : Int) := by rw [wrap_in (by omega) (by omega)]; omega
      simp [h0, ↓hs', evStore, V.one, hr, putL, hw]
      refine Out.mono (ih _ _ (suf_tail hl) ?_ ?_) ?_
      · simp [h0]
      · simp [hr, rdr]
      · rintro ex env' s' ⟨rfl, rfl⟩
        refine ⟨rfl, ?_⟩
        simp [skp, hbl]
    · have hbl : ¬ isBl c = true := fun q => by
        have := (ib_bl c).2 q
        simp at h
        omega
      simp [skp, hbl]
      rw [set_same hs]

theorem skip_spec {b l : List UInt8} (hb : b.length ≤ 1000000000) (hl : l <:+ b) {bad e : Int} {r : Nat} {s : St} (hs : s.obs[r]? = some (rdr b l bad e)) :
    call G 15 [.ptr r 0] s = some (.tup [], upR s r (rdr b (skp l) bad e)) := by
  refine call_out (F := af15) rfl rfl ?_
  simp [af15, af15b]
  refine Out.mono (skipLoop hb bad e l _ s hl rfl hs) ?_
  rintro ex env' s' ⟨rfl, rfl⟩
  simp
  exact fin_up1 s (get_lt hs) (rdr_und _ _ _ _ _ _) (v := .tup []) rfl

/-- The first byte; 0 at the end. -/
def hd0 (l : List UInt8) : UInt8 := (l[0]?).getD 0

theorem peek_spec {b l : List UInt8} (hb : b.length ≤ 1000000000) (hl : l <:+ b) {bad e : Int} {r : Nat} {s : St} (hs : s.obs[r]? = some (rdr b l bad e)) :
    call G 25 [.ptr r 0] s = some (.int .u8 (hd0 (skp l)).toNat, upR s r (rdr b (skp l) bad e)) := by
  have hr := get_lt hs
  have hsl := (skp_suf l).trans hl
  refine call_out (F := af25) rfl rfl ?_
  simp [af25, af25b, skip_spec hb hl hs]
  have hg := suf_get hsl
  have hlen := suf_len hsl
  generalize hm : skp l = m at *
  simp [rdr, hr]
  refine Out_cond _ _ _ _ _ _ _ rfl (fun h => ?_) (fun h => ?_)
  · simp at h
    cases m with
    | nil => simp at h
    | cons c m =>
      simp only [List.length_cons, List.getElem?_cons_zero] at hg
      have hgi : b[(((b.length - (m.length + 1) : Nat) : Int)).toNat]? = some c := by rw [Int.toNat_natCast]; exact hg
      simp [hr, ↓hgi]
      exact fin_up1 s hr (rdr_und b (c :: m) bad e _ _) (v := .int .u8 c.toNat) rfl
  · simp at h
    cases m with
    | nil =>
      simp
      exact fin_up1 s hr (rdr_und b [] bad e _ _) (v := .int .u8 0) rfl
    | cons c m => simp at h hlen; omega

/-- A sign that must be there. -/
theorem sign_spec {b l : List UInt8} (hb : b.length ≤ 1000000000) (hl : l <:+ b) {bad : Int} {r : Nat} {s : St} (hs : s.obs[r]? = some (rdr b l bad 0)) (c : UInt8) :
    call G 55 [.ptr r 0, .int .u8 c.toNat] s = some (.tup [], upR s r (match skp l with
      | x :: t => if x = c then rdr b t bad 0 else rdr b (x :: t) ((b.length - (x :: t).length : Nat) : Int) 4
      | [] => rdr b [] (b.length : Nat) 4)) := by
  have hr := get_lt hs
  have hsl := (skp_suf l).trans hl
  refine call_out (F := af55) rfl rfl ?_
  have hp := peek_spec hb hl hs
  generalize hm : skp l = m at *
  have hlen := suf_len hsl
  simp [af55, af55b, hp]
  cases m with
  | nil =>
    by_cases hc : c.toNat = 0
    · simp [hd0, hc, rdr, hr]
      refine Out_cond _ _ _ _ _ _ _ rfl (fun _ => ?_) (fun h => by cases h)
      have hf := fail_spec (b := b) (l := []) (bad := bad) (e := 0) (at_ := b.length) (e2 := 4) (r := r) (s := upR s r (rdr b [] bad 0)) (by simp [hr])
      simp [rdr] at hf
      simp [hr, hf]
      rw [upR_upR]
      exact fin_up1 s hr (rdr_und b [] _ 4 _ _) (v := .tup []) rfl
    · have hc' : ¬ ((0 : Int) = (c.toNat : Int)) := by omega
      simp [hd0, hc', rdr, hr]
      refine Out_cond _ _ _ _ _ _ _ rfl (fun _ => ?_) (fun h => by cases h)
      have hf := fail_spec (b := b) (l := []) (bad := bad) (e := 0) (at_ := b.length) (e2 := 4) (r := r) (s := upR s r (rdr b [] bad 0)) (by simp [hr])
      simp [rdr] at hf
      simp [hr, hf]
      rw [upR_upR]
      exact fin_up1 s hr (rdr_und b [] _ 4 _ _) (v := .tup []) rfl
  | cons x t =>
    simp only [List.length_cons] at hlen
    by_cases hx : x = c
    · subst hx
      have hne : ¬ b.length - (t.length + 1) = b.length := by omega
      have hne' : ¬ ((b.length - (t.length + 1) : Nat) : Int) = (b.length : Int) := by omega
      have hw : IntKind.i64.wrap (((b.length - (t.length + 1) : Nat) : Int) + 1) = ((b.length - t.length : Nat) : Int) := by rw [wrap_in (by omega) (by omega)]; omega
      simp [hd0, rdr, hr, hne, hne']
      refine Out_cond _ _ _ _ _ _ _ rfl (fun h => by first | cases h | (simp at h; omega)) (fun _ => ?_)
      simp [hr, evStore, V.one, putL, hw]
      exact fin_up1 s hr (rdr_und b t _ 0 _ _) (v := .tup []) rfl
    · have hxn : ¬ ((x.toNat : Int) = (c.toNat : Int)) := fun q => hx (UInt8.toNat_inj.1 (by omega))
      simp [hd0, rdr, hr, hxn, hx]
      refine Out_cond _ _ _ _ _ _ _ rfl (fun _ => ?_) (fun h => by cases h)
      have hf := fail_spec (b := b) (l := x :: t) (bad := bad) (e := 0) (at_ := ((b.length - (t.length + 1) : Nat) : Int)) (e2 := 4) (r := r) (s := upR s r (rdr b (x :: t) bad 0)) (by simp [hr])
      simp [rdr] at hf
      simp [hr, hf]
      rw [upR_upR]
      exact fin_up1 s hr (rdr_und b (x :: t) _ 4 _ _) (v := .tup []) rfl

end Go.Proofs.YtjdppboomglenaaGreatDoor.Eng

/-
  JSON, read: words, numbers. No condition.
-/
namespace Go.Proofs.YtjdppboomglenaaGreatDoor.Eng
open Go
set_option linter.unusedSimpArgs false
set_option linter.unusedVariables false

attribute [local simp] evC_reg evC_regD evR_cons evR_nil runR_some regK_some evC_ret evC_skip evC_exit Out_seq Out_blk Out_some seqQ_norm seqQ_ret seqQ_exit blkQ_norm blkQ_ret blkQ_exit loopQ_norm loopQ_ret loopQ_exit
attribute [local simp] stepR evOp put upd_apply X.ev initEnv cells_agg cells_int cells_str cells_bool cells_sl cells_ptr cells_pnil cells_fn cells_map vc_length vc_take vc_plain vc_und toVs_plain toPs_plain toVs_und toPs_und takeN evBin isSh intBin strBin callK resOf packR V.plain plainL V.und undL scK kill dstsO dstsL dstsR ite_some ite_pair ite_vbool evUn evLoad evLen V.real finLoop_false quietK_false kill_none

def jNull : JV := .mk 0 0 [] [] []
def jBool (t : Bool) : JV := .mk 1 (if t then 1 else 0) [] [] []
def wNull : List UInt8 := [110, 117, 108, 108]
def wTrue : List UInt8 := [116, 114, 117, 101]
def wFalse : List UInt8 := [102, 97, 108, 115, 101]
/-- Does it begin so? -/
def begs (l w : List UInt8) : Bool := decide (w.length ≤ l.length) && decide (l.take w.length = w)

def pword (l : List UInt8) : PR JV :=
  if begs l wNull = true then .ok jNull (l.drop 4)
  else if begs l wTrue = true then .ok (jBool true) (l.drop 4)
  else if begs l wFalse = true then .ok (jBool false) (l.drop 5)
  else .err l 4

theorem hp_spec (l w : List UInt8) (hl : l.length ≤ 9223372036854775807) (s : St) : call G 57 [.str l, .str w] s = some (.bool (begs l w), s) := by
  have h84 : call G 72 [.str l, .str w] s = some (.bool (begs l w), s) := by
    refine call_out (F := af72) rfl rfl ?_
    by_cases h : w.length ≤ l.length
    · have h' : ((w.length : Nat) : Int) ≤ (l.length : Int) := by omega
      simp [af72, af72b, h, h', evSlcS, bnd]
      rw [fin_id s (v := .bool _) rfl]
      simp [begs, h]
    · have h' : ¬ ((w.length : Nat) : Int) ≤ (l.length : Int) := by omega
      simp [af72, af72b, h, h']
      rw [fin_id s (v := .bool _) rfl]
      simp [begs, h]
  refine call_out (F := af57) rfl rfl ?_
  simp [af57, af57b, h84]
  exact fin_id s (v := .bool _) rfl

/-- What a reader's function leaves: the reader behind what was read; or with its first fault. -/
def After {α : Type} (b : List UInt8) (bad : Int) (p : PR α) (v : α) (o : AObj) : Prop :=
  match p with
  | .ok w l' => v = w ∧ o = rdr b l' bad 0
  | .err l' e => ∃ at_ : Int, o = .cells 45 [.str b, .int .i64 at_, .int .i64 ((b.length - l'.length : Nat) : Int), .int .i64 e]

theorem begs_nil (w : List UInt8) (h : w ≠ []) : begs [] w = false := by
  cases w with
  | nil => exact absurd rfl h
  | cons => simp [begs]
theorem begs_len {l w : List UInt8} (h : begs l w = true) : w.length ≤ l.length := by
  simp only [begs, Bool.and_eq_true, decide_eq_true_eq] at h
  exact h.1
theorem pos_drop {b l : List UInt8} (hl : l <:+ b) {n : Nat} (hn : n ≤ l.length) : b.length - (l.drop n).length = b.length - l.length + n := by
  have := suf_len hl
  simp only [List.length_drop]
  omega

theorem putL_pv (w : List UInt8) (v : JV) : putL [.str [], .int .i64 0, .int .i64 0, .str [], .sl .nil [], .sl .nil []] 0 (.str w :: vc v) = .str w :: vc v := by cases v; simp [vc, putL]
theorem putL_zv (v : JV) : putL [.int .i64 0, .int .i64 0, .str [], .sl .nil [], .sl .nil []] 0 (vc v) = vc v := by cases v; simp [vc, putL]
theorem vc_one (v : JV) : (vc v).all V.one = true := by cases v; simp [vc, V.one]
def wds : List (List UInt8 × JV) := [(wNull, jNull), (wTrue, jBool true), (wFalse, jBool false)]
def findW : List (List UInt8 × JV) → List UInt8 → Option (JV × Nat)
  | [], _ => none
  | p :: ws, l => if begs l p.1 = true then some (p.2, p.1.length) else findW ws l

abbrev zV : List V := [.int .i64 0, .int .i64 0, .str [], .sl .nil [], .sl .nil []]

theorem wordLoop {b l : List UInt8} (hb : b.length ≤ 1000000000) (hl : l <:+ b) {bad : Int} {r : Nat} {s : St} (hs : s.obs[r]? = some (rdr b l bad 0)) :
    ∀ (ws pre : List (List UInt8 × JV)) (env : Env) (junk : List AObj), pre ++ ws = wds → env 0 = .ptr r 0 → env 2 = .ptr s.obs.length 0 → env 11 = .sl .no (toPs wds) → env 12 = .int .i64 3 → env 13 = .int .i64 pre.length →
      Out (evC G (.loop false af32l0) env ⟨s.obs ++ .cells 26 zV :: junk, s.bufs⟩) (fun e env' S' => env' 0 = .ptr r 0 ∧ env' 2 = .ptr s.obs.length 0 ∧ match findW ws l with
        | some (v, k) => e = .ret ∧ ∃ junk', S' = ⟨s.obs.set r (rdr b (l.drop k) bad 0) ++ .cells 26 (vc v) :: junk', s.bufs⟩
        | none => e = .exit 0 ∧ ∃ junk', S' = ⟨s.obs ++ .cells 26 zV :: junk', s.bufs⟩) := by
  have hr := get_lt hs
  have hs' := hs
  unfold rdr at hs'
  have hlen := suf_len hl
  have hd := suf_drop hl
  have hsl : evSlcS (.str b) (some (.int .i64 ((b.length - l.length : Nat) : Int))) none = some (.str l) := by
    simp [evSlcS, bnd, hd]
  have e1 : ∀ X : List AObj, (s.obs ++ X)[r]? = some (.cells 45 [.str b, .int .i64 ((b.length - l.length : Nat) : Int), .int .i64 bad, .int .i64 0]) := fun X => by
    rw [List.getElem?_append_left hr]; exact hs'
  have e2 : ∀ (X : List AObj) o, (s.obs ++ X).set r o = s.obs.set r o ++ X := fun X o => List.set_append_left _ _ hr
  have hll : l.length ≤ 9223372036854775807 := by omega
  intro ws
  induction ws with
  | nil =>
    intro pre env junk hpre h0 h2 h11 h12 h13
    have hp3 : pre.length = 3 := by rw [List.append_nil] at hpre; rw [hpre]; rfl
    refine Out_loop G false _ _ af32l0.eq_1 _ _ _ ?_
    simp [h12, h13, hp3]
    refine Out_cond _ _ _ _ _ _ _ rfl (fun h => by cases h) (fun _ => ?_)
    simp [h0, h2, findW]
  | cons p ws ih =>
    intro pre env junk hpre h0 h2 h11 h12 h13
    obtain ⟨w, v⟩ := p
    have hlt : pre.length < 3 := by have := congrArg List.length hpre; simp [wds] at this; omega
    have hget : (toPs wds)[pre.length]? = some (.agg (.str w :: vc v)) := by
      rw [toPs_get, ← hpre]; simp
    have hgi : (toPs wds)[((pre.length : Nat) : Int).toNat]? = some (.agg (.str w :: vc v)) := by rw [Int.toNat_natCast]; exact hget
    refine Out_loop G false _ _ af32l0.eq_1 _ _ _ ?_
    have hlt' : ((pre.length : Nat) : Int) < 3 := by omega
    simp [h12, h13, hlt']
    refine Out_cond _ _ _ _ _ _ _ rfl (fun _ => ?_) (fun h => by cases h)
    have ho := vc_one v
    have e3 : ∀ (X : List AObj) (o : AObj) (Y : List AObj), (s.obs ++ o :: (X ++ Y)) = s.obs ++ (o :: X) ++ Y := by intros; simp
    have e5 : ∀ (o : AObj) (X : List AObj) (o1 : AObj), (s.obs.set r o ++ .cells 26 zV :: X)[s.obs.length]? = some (.cells 26 zV) := by intros; simp
    simp [h0, h2, h11, h13, ↓hgi, evStore, putL_pv, V.one, e1, hsl, hp_spec l _ hll, ho]
    refine Out_cond _ _ _ _ _ _ _ rfl (fun hb => ?_) (fun hb => ?_)
    · have hwl := begs_len hb
      have hw : IntKind.i64.wrap (((b.length - l.length : Nat) : Int) + (w.length : Int)) = ((b.length - (l.drop w.length).length : Nat) : Int) := by rw [pos_drop hl hwl, wrap_in (by omega) (by omega)]; omega
      simp [h0, h2, e1, evStore, V.one, putL, e2, hw, ho, putL_zv, findW, hb, rdr]
    · have hw : IntKind.i64.wrap ((pre.length : Int) + 1) = (((pre ++ [(w, v)]).length : Nat) : Int) := by rw [wrap_in (by omega) (by omega)]; simp
      simp [h13, hw, findW, hb]
      refine Out.mono (ih (pre ++ [(w, v)]) _ (junk ++ [.cells 92 (.str w :: vc v)]) (by simpa using hpre) ?_ ?_ ?_ ?_ ?_) (fun e env' S' h => h)
      · simp [h0]
      · simp [h2]
      · simp [h11]
      · simp [h12]
      · simp

theorem fin_upV (s : St) {r : Nat} {o : AObj} (hr : r < s.obs.length) (ho : o.und 0 0 = true) (junk : List AObj) (v : JV) :
    fin false s ⟨s.obs.set r o ++ junk, s.bufs⟩ (.agg (vc v)) = (.agg (vc v), upR s r o) := by
  have := fin_up0 s hr (AObj.und_mono (Nat.zero_le _) (Nat.zero_le _) _ ho) junk (v := .agg (vc v)) (by simp)
  rw [this]
  simp

theorem findW_pword (l : List UInt8) : pword l = match findW wds l with | some (v, k) => .ok v (l.drop k) | none => .err l 4 := by
  simp only [pword, findW, wds]
  split
  · rfl
  · split
    · rfl
    · split <;> rfl

theorem word_spec {b l : List UInt8} (hb : b.length ≤ 1000000000) (hl : l <:+ b) {bad : Int} {r : Nat} {s : St} (hs : s.obs[r]? = some (rdr b l bad 0)) :
    ∃ v o, call G 32 [.ptr r 0] s = some (toV v, upR s r o) ∧ o.und 0 0 = true ∧ After b bad (pword l) v o := by
  have hr := get_lt hs
  have hs' := hs
  unfold rdr at hs'
  have e1 : ∀ X : List AObj, (s.obs ++ X)[r]? = some (.cells 45 [.str b, .int .i64 ((b.length - l.length : Nat) : Int), .int .i64 bad, .int .i64 0]) := fun X => by
    rw [List.getElem?_append_left hr]; exact hs'
  have e2 : ∀ (X : List AObj) o, (s.obs ++ X).set r o = s.obs.set r o ++ X := fun X o => List.set_append_left _ _ hr
  have hW : V.sl .no (toPs wds) = .sl .no [.agg [.str wNull, .int .i64 0, .int .i64 0, .str [], .sl .no [], .sl .no []], .agg [.str wTrue, .int .i64 1, .int .i64 1, .str [], .sl .no [], .sl .no []],
      .agg [.str wFalse, .int .i64 1, .int .i64 0, .str [], .sl .no [], .sl .no []]] := by
    simp [wds, toPs, vc, jNull, jBool, toVs]
  rw [findW_pword]
  have hL := fun env h0 h2 h11 h12 h13 => wordLoop hb hl hs wds [] env [] rfl h0 h2 h11 h12 h13
  cases hF : findW wds l with
  | some p =>
    obtain ⟨v, k⟩ := p
    simp only [hF] at hL
    refine ⟨v, rdr b (l.drop k) bad 0, ?_, rfl, rfl, rfl⟩
    refine call_out (F := af32) rfl rfl ?_
    simp [af32, af32b, fillL, putL, fillS, V.one]
    refine Out.mono (hL _ ?_ ?_ ?_ ?_ ?_) ?_
    · simp
    · simp
    · simp [hW, wNull, wTrue, wFalse]
    · simp
    · simp
    rintro e env' S' ⟨g0, g2, rfl, junk', rfl⟩
    simp [g2]
    exact fin_upV s hr rfl (.cells 26 (vc v) :: junk') v
  | none =>
    simp only [hF] at hL
    refine ⟨jNull, rdr b l ((b.length - l.length : Nat) : Int) 4, ?_, rfl, ⟨_, rfl⟩⟩
    refine call_out (F := af32) rfl rfl ?_
    simp [af32, af32b, fillL, putL, fillS, V.one]
    refine Out.mono (hL _ ?_ ?_ ?_ ?_ ?_) ?_
    · simp
    · simp
    · simp [hW, wNull, wTrue, wFalse]
    · simp
    · simp
    rintro e env' S' ⟨g0, g2, rfl, junk', rfl⟩
    have hf := fail_spec (b := b) (l := l) (bad := bad) (e := 0) (at_ := ((b.length - l.length : Nat) : Int)) (e2 := 4) (r := r) (s := ⟨s.obs ++ .cells 26 zV :: junk', s.bufs⟩) (by rw [e1]; rfl)
    simp [upR, e2] at hf
    simp [g0, g2, e1, hf, e2, evStore, V.one, putL, fillL]
    exact fin_upV s hr rfl (.cells 26 _ :: junk') jNull

end Go.Proofs.YtjdppboomglenaaGreatDoor.Eng

/-
  JSON, read: numbers. No condition.
-/
namespace Go.Proofs.YtjdppboomglenaaGreatDoor.Eng
open Go
set_option linter.unusedSimpArgs false
set_option linter.unusedVariables false

attribute [local simp] evC_reg evC_regD evR_cons evR_nil runR_some regK_some evC_ret evC_skip evC_exit Out_seq Out_blk Out_some seqQ_norm seqQ_ret seqQ_exit blkQ_norm blkQ_ret blkQ_exit loopQ_norm loopQ_ret loopQ_exit
attribute [local simp] stepR evOp put upd_apply X.ev initEnv cells_agg cells_int cells_str cells_bool cells_sl cells_ptr cells_pnil cells_fn cells_map vc_length vc_take vc_plain vc_und toVs_plain toPs_plain toVs_und toPs_und takeN evBin isSh intBin strBin callK resOf packR V.plain plainL V.und undL scK kill dstsO dstsL dstsR ite_some ite_pair ite_vbool evUn evLoad evLen V.real finLoop_false quietK_false kill_none

/-- Behind a sign. -/
def numT : List UInt8 → List UInt8
  | [] => []
  | x :: t => if x = 45 then t else x :: t
def dgs (l : List UInt8) : List UInt8 := (numT l).takeWhile isDig
def rst (l : List UInt8) : List UInt8 := (numT l).dropWhile isDig
def isNeg (l : List UInt8) : Bool := decide (hd0 l = 45)
def pnum (l : List UInt8) : PR JV :=
  if dgs l = [] ∨ (dgs l = [48] ∧ isNeg l = true) then .err l 4
  else if hd0 (dgs l) = 48 ∧ 1 < (dgs l).length then .err ((numT l).drop 1) 4
  else if 9007199254740991 < valD (dgs l) then .err l 6
  else .ok (.mk 2 (if isNeg l = true then -(valD (dgs l) : Int) else (valD (dgs l) : Int)) [] [] []) (rst l)

theorem digit_spec {b : List UInt8} (hb : b.length ≤ 1000000000) {u : List UInt8} (hu : u <:+ b) {r : Nat} {s : St} {at_ bad e : V} (hs : s.obs[r]? = some (.cells 45 [.str b, at_, bad, e])) :
    call G 53 [.ptr r 0, .int .i64 ((b.length - u.length : Nat) : Int)] s = some (.bool (match u with | c :: _ => isDig c | [] => false), s) := by
  have hlen := suf_len hu
  have hg := suf_get hu
  refine call_out (F := af53) rfl rfl ?_
  cases u with
  | nil =>
    simp [af53, af53b, hs]
    exact fin_id s (v := .bool false) rfl
  | cons c u =>
    simp only [List.length_cons, List.getElem?_cons_zero] at hg hlen
    have hgi : b[(((b.length - (u.length + 1) : Nat) : Int)).toNat]? = some c := by rw [Int.toNat_natCast]; exact hg
    have hlt : b.length - (u.length + 1) < b.length := by omega
    by_cases h48 : 48 ≤ c.toNat
    · have h48' : (48 : Int) ≤ (c.toNat : Int) := by omega
      simp [af53, af53b, hs, hlt, ↓hgi, h48']
      rw [fin_id s (v := .bool _) rfl]
      simp [isDig, h48]
      omega
    · have h48' : ¬ (48 : Int) ≤ (c.toNat : Int) := by omega
      simp [af53, af53b, hs, hlt, ↓hgi, h48']
      rw [fin_id s (v := .bool _) rfl]
      simp [isDig, h48]

theorem digLoop {b : List UInt8} (hb : b.length ≤ 1000000000) {r : Nat} {at_ bad e : V} (v3 v4 : V) : ∀ (u : List UInt8) (env : Env) (s : St), u <:+ b → env 0 = .ptr r 0 → env 3 = v3 → env 4 = v4 → env 5 = .int .i64 ((b.length - u.length : Nat) : Int) →
    s.obs[r]? = some (.cells 45 [.str b, at_, bad, e]) →
    Out (evC G (.loop false af27l0) env s) (fun ex env' s' => ex = .exit 0 ∧ s' = s ∧ env' 0 = .ptr r 0 ∧ env' 2 = env 2 ∧ env' 3 = v3 ∧ env' 4 = v4 ∧ env' 5 = .int .i64 ((b.length - (u.dropWhile isDig).length : Nat) : Int)) := by
  intro u
  induction u with
  | nil =>
    intro env s hu h0 h3 h4 h5 hs
    have hd := digit_spec hb hu hs
    simp at hd
    refine Out_loop G false _ _ af27l0.eq_1 _ _ _ ?_
    simp [h0, h5, hd]
    refine Out_cond _ _ _ _ _ _ _ rfl (fun h => by cases h) (fun _ => ?_)
    simp [h0, h3, h4, h5]
  | cons c u ih =>
    intro env s hu h0 h3 h4 h5 hs
    have hd := digit_spec hb hu hs
    simp at hd
    have hlen := suf_len hu
    simp only [List.length_cons] at hlen
    refine Out_loop G false _ _ af27l0.eq_1 _ _ _ ?_
    simp [h0, h5, hd]
    refine Out_cond _ _ _ _ _ _ _ rfl (fun h => ?_) (fun h => ?_)
    · have hw : IntKind.i64.wrap (((b.length - (u.length + 1) : Nat) : Int) + 1) = ((b.length - u.length : Nat) : Int) := by rw [wrap_in (by omega) (by omega)]; omega
      simp [h5, hw]
      refine Out.mono (ih _ s (suf_tail hu) ?_ ?_ ?_ ?_ hs) ?_
      · simp [h0]
      · simp [h3]
      · simp [h4]
      · simp
      · rintro ex env' s' ⟨rfl, rfl, g0, g2, g3, g4, g5⟩
        simp at g2
        simp [g0, g2, g3, g4, g5, List.dropWhile_cons, h]
    · simp [h0, h3, h4, h5, List.dropWhile_cons, h]

/-! ### ParseInt -/
theorem valF_ge (l : List UInt8) : ∀ a : Nat, a ≤ l.foldl (fun a x => 10 * a + (x.toNat - 48)) a := by
  induction l with
  | nil => intro a; exact Nat.le_refl _
  | cons x l ih =>
    intro a
    simp only [List.foldl_cons]
    exact Nat.le_trans (by omega) (ih _)

theorem parseU : ∀ (l : List UInt8) (a : Nat), (∀ x ∈ l, isDig x = true) →
    (Lib.parseUintM 18446744073709551615 a l = .ok (l.foldl (fun a x => 10 * a + (x.toNat - 48)) a)) ∨ (Lib.parseUintM 18446744073709551615 a l = .range ∧ 18446744073709551615 < l.foldl (fun a x => 10 * a + (x.toNat - 48)) a)
  | [], a, _ => .inl rfl
  | x :: l, a, h => by
    have hx := h x (by simp)
    simp only [isDig, Bool.and_eq_true, decide_eq_true_eq] at hx
    simp only [Lib.parseUintM, if_pos hx, List.foldl_cons]
    have hge := valF_ge l (10 * a + (x.toNat - 48))
    split
    · exact .inr ⟨rfl, by omega⟩
    · split
      · exact .inr ⟨rfl, by omega⟩
      · rw [show a * 10 + (x.toNat - 48) = 10 * a + (x.toNat - 48) by omega]
        exact parseU l _ (fun y hy => h y (by simp [hy]))

/-- Behind ParseInt: a number, or a fault. -/
def erV (t : Bool) : V := if t = true then .ifc 119 .junk else .nilI

theorem pi_spec (w : List UInt8) (hw : w.length ≤ 1000000000) : ∃ n eb, (∀ s, call G 54 [.str w, .int .i64 10, .int .i64 64] s = some (.tup [.int .i64 n, erV eb], s)) ∧
    (eb = true ∧ (∀ v, Lib.parseIntB 64 w ≠ .ok v) ∨ eb = false ∧ Lib.parseIntB 64 w = .ok n) := by
  have h := fun s => call_prim G 54 [.str w, .int .i64 10, .int .i64 64] s primPI rfl
  have hle : w.length ≤ 281474976710656 := by omega
  simp only [primPI, if_pos hle] at h
  cases hp : Lib.parseIntB 64 w with
  | ok v => simp only [hp] at h; exact ⟨v, false, h, .inr ⟨rfl, rfl⟩⟩
  | range => simp only [hp] at h; exact ⟨_, true, h, .inl ⟨rfl, fun v q => by cases q⟩⟩
  | _ => simp only [hp] at h; exact ⟨0, true, h, .inl ⟨rfl, fun v q => by cases q⟩⟩

theorem takeWhile_all (l : List UInt8) : ∀ x ∈ l.takeWhile isDig, isDig x = true := fun x hx => by
  have := List.all_takeWhile (p := isDig) (l := l)
  rw [List.all_eq_true] at this
  exact this x hx

/-- What ParseInt makes of digits, with a sign or without. -/
theorem pi_val {ds : List UInt8} (hd : ∀ x ∈ ds, isDig x = true) (hne : ds ≠ []) (ng : Bool) :
    (valD ds ≤ 9007199254740991 → Lib.parseIntB 64 (if ng = true then 45 :: ds else ds) = .ok (if ng = true then -(valD ds : Int) else (valD ds : Int))) ∧
    (9007199254740991 < valD ds → ∀ n, Lib.parseIntB 64 (if ng = true then 45 :: ds else ds) = .ok n → n < -9007199254740991 ∨ 9007199254740991 < n) := by
  have hu := parseU ds 0 hd
  have hB : Lib.parseUintB 64 ds = Lib.parseUintM 18446744073709551615 0 ds := by simp [Lib.parseUintB, hne]
  have hv : ds.foldl (fun a x => 10 * a + (x.toNat - 48)) 0 = valD ds := rfl
  rw [hv, ← hB] at hu
  have hfirst : ∀ c r, ds = c :: r → c.toNat ≠ 43 ∧ c.toNat ≠ 45 := by
    rintro c r rfl
    have := hd c (by simp)
    simp only [isDig, Bool.and_eq_true, decide_eq_true_eq] at this
    omega
  have hP : Lib.parseIntB 64 (if ng = true then 45 :: ds else ds) = match Lib.parseUintB 64 ds with
      | Lib.NumEnd.syntax => Lib.NumEnd.syntax
      | .range => .range
      | .ok u => if ¬ ng = true ∧ 2 ^ 63 ≤ u then .range else if ng = true ∧ 2 ^ 63 < u then .range else .ok (if ng = true then -(u : Int) else u) := by
    cases ng with
    | true => simp [Lib.parseIntB]; cases Lib.parseUintB 64 ds <;> rfl
    | false =>
      cases ds with
      | nil => exact absurd rfl hne
      | cons c r =>
        obtain ⟨h1, h2⟩ := hfirst c r rfl
        simp [Lib.parseIntB, h1, h2]
        cases Lib.parseUintB 64 (c :: r) <;> rfl
  rw [hP]
  refine ⟨fun hle => ?_, fun hgt n => ?_⟩
  · rcases hu with hu | ⟨_, hu⟩
    · rw [hu]
      cases ng <;> simp <;> omega
    · omega
  · rcases hu with hu | ⟨hu, _⟩
    · rw [hu]
      intro h
      simp only at h
      split at h
      · cases h
      · split at h
        · cases h
        · simp only [Lib.NumEnd.ok.injEq] at h
          split at h <;> omega
    · rw [hu]
      intro h
      cases h

end Go.Proofs.YtjdppboomglenaaGreatDoor.Eng

/-
  JSON, read: the function that reads a number. No condition.
-/
namespace Go.Proofs.YtjdppboomglenaaGreatDoor.Eng
open Go
set_option linter.unusedSimpArgs false
set_option linter.unusedVariables false

attribute [local simp] evC_reg evC_regD evR_cons evR_nil runR_some regK_some evC_ret evC_skip evC_exit Out_seq Out_blk Out_some seqQ_norm seqQ_ret seqQ_exit blkQ_norm blkQ_ret blkQ_exit loopQ_norm loopQ_ret loopQ_exit
attribute [local simp] stepR evOp put upd_apply X.ev initEnv cells_agg cells_int cells_str cells_bool cells_sl cells_ptr cells_pnil cells_fn cells_map vc_length vc_take vc_plain vc_und toVs_plain toPs_plain toVs_und toPs_und takeN evBin isSh intBin strBin callK resOf packR V.plain plainL V.und undL scK kill dstsO dstsL dstsR ite_some ite_pair ite_vbool evUn evLoad evLen V.real finLoop_false quietK_false kill_none

theorem numT_suf (l : List UInt8) : numT l <:+ l := by
  cases l with
  | nil => exact List.suffix_refl _
  | cons x t =>
    simp only [numT]
    split
    · exact List.suffix_cons _ _
    · exact List.suffix_refl _
theorem rst_suf (l : List UInt8) : rst l <:+ l := (List.dropWhile_suffix _).trans (numT_suf l)
theorem dgs_len (l : List UInt8) : (numT l).length = (dgs l).length + (rst l).length := by
  have := congrArg List.length (List.takeWhile_append_dropWhile (p := isDig) (l := numT l))
  simp only [List.length_append] at this
  exact this.symm
theorem numT_eq (l : List UInt8) : numT l = dgs l ++ rst l := (List.takeWhile_append_dropWhile (p := isDig) (l := numT l)).symm

/-- The first fault of a number, and where. -/
def numF (l : List UInt8) : Nat :=
  if dgs l = [] ∨ (dgs l = [48] ∧ isNeg l = true) then 1 else if hd0 (dgs l) = 48 ∧ 1 < (dgs l).length then 2 else 0

theorem valD_ge : ∀ (l : List UInt8) (a : Nat), 10 ^ l.length * a ≤ l.foldl (fun a x => 10 * a + (x.toNat - 48)) a
  | [], a => by simp
  | x :: l, a => by
    simp only [List.foldl_cons, List.length_cons]
    refine Nat.le_trans ?_ (valD_ge l _)
    rw [Nat.pow_succ, Nat.mul_assoc]
    exact Nat.mul_le_mul_left _ (by omega)

/-- So many digits, of which the first isn't 0, are a great number. -/
theorem valD_big {ds : List UInt8} (hd : ∀ x ∈ ds, isDig x = true) (h0 : hd0 ds ≠ 48) (hl : 17 ≤ ds.length) : 9007199254740991 < valD ds := by
  cases ds with
  | nil => simp at hl
  | cons x r =>
    have hx := hd x (by simp)
    simp only [isDig, Bool.and_eq_true, decide_eq_true_eq] at hx
    have hx0 : x.toNat ≠ 48 := fun q => h0 (by simp only [hd0, List.getElem?_cons_zero, Option.getD_some]; exact UInt8.toNat_inj.1 q)
    have h1 := valD_ge r (10 * 0 + (x.toNat - 48))
    have h2 : 10 ^ 16 * 1 ≤ 10 ^ r.length * (10 * 0 + (x.toNat - 48)) := Nat.mul_le_mul (Nat.pow_le_pow_right (by omega) (by simp at hl; omega)) (by omega)
    have h3 : valD (x :: r) = r.foldl (fun a x => 10 * a + (x.toNat - 48)) (10 * 0 + (x.toNat - 48)) := rfl
    rw [h3]
    have : (10 : Nat) ^ 16 = 10000000000000000 := by decide
    omega

theorem seqQ_mono {G : Gp} {b : ACode} {Q Q' : AExit → Env → St → Prop} (h : ∀ e env s, Q e env s → Q' e env s) : ∀ e env s, seqQ G b Q e env s → seqQ G b Q' e env s
  | .norm, env, s, q => Out.mono q h
  | .ret, env, s, q => h _ _ _ q
  | .exit i, env, s, q => h _ _ _ q

theorem numR_spec {b l : List UInt8} (hb : b.length ≤ 1000000000) (hl : l <:+ b) (hne : l ≠ []) {bad : Int} {r : Nat} {s : St} (hs : s.obs[r]? = some (rdr b l bad 0)) :
    ∃ v o, call G 27 [.ptr r 0] s = some (toV v, upR s r o) ∧ o.und 0 0 = true ∧ After b bad (pnum l) v o := by
  have hr := get_lt hs
  have hs' := hs
  unfold rdr at hs'
  have hlen := suf_len hl
  have ht := (numT_suf l).trans hl
  have hrs := (rst_suf l).trans hl
  have htl := suf_len (numT_suf l)
  have hrl := suf_len (rst_suf l)
  have hdl := dgs_len l
  have e1 : ∀ (o : AObj) (X : List AObj), (s.obs.set r o ++ X)[r]? = some o := fun o X => by
    rw [List.getElem?_append_left (by simpa using hr), List.getElem?_set_self hr]
  have e0 : ∀ X : List AObj, (s.obs ++ X)[r]? = some (.cells 45 [.str b, .int .i64 ((b.length - l.length : Nat) : Int), .int .i64 bad, .int .i64 0]) := fun X => by
    rw [List.getElem?_append_left hr]; exact hs'
  have e2 : ∀ (X : List AObj) o, (s.obs ++ X).set r o = s.obs.set r o ++ X := fun X o => List.set_append_left _ _ hr
  have e3 : ∀ (X : List AObj) o o', (s.obs.set r o ++ X).set r o' = s.obs.set r o' ++ X := fun X o o' => by
    rw [List.set_append_left _ _ (by simpa using hr), List.set_set]
  -- the first byte, and where the digits begin
  obtain ⟨c, l', rfl⟩ := List.exists_cons_of_ne_nil hne
  have hgl := suf_get hl
  simp only [List.getElem?_cons_zero] at hgl
  have hgli : b[(((b.length - (c :: l').length : Nat) : Int)).toNat]? = some c := by rw [Int.toNat_natCast]; exact hgl
  simp only [List.length_cons] at hgli
  have hc45 : (((c.toNat : Nat) : Int) = 45) ↔ c = 45 := ⟨fun q => UInt8.toNat_inj.1 (by simp; omega), fun q => by subst q; rfl⟩
  have hneg : isNeg (c :: l') = decide (c = 45) := by simp [isNeg, hd0]
  have hT : ((b.length - (numT (c :: l')).length : Nat) : Int) = ((b.length - (c :: l').length : Nat) : Int) + (if c = 45 then 1 else 0) := by
    have hl2 := hlen
    simp only [List.length_cons] at hl2
    simp only [numT]
    split
    · simp only [List.length_cons]; omega
    · simp only [List.length_cons]; omega
  have hwT : c = 45 → IntKind.i64.wrap (((b.length - (l'.length + 1) : Nat) : Int) + 1) = ((b.length - (numT (c :: l')).length : Nat) : Int) := by
    intro h
    rw [wrap_in (by omega) (by omega), hT, if_pos h]
    simp
  generalize hF : ((b.length - (c :: l').length : Nat) : Int) = F at *
  have hF' : ((b.length - (l'.length + 1) : Nat) : Int) = F := hF
  generalize hTT : ((b.length - (numT (c :: l')).length : Nat) : Int) = T at *
  have hE : ((b.length - (rst (c :: l')).length : Nat) : Int) = T + (dgs (c :: l')).length := by
    have := suf_len ht
    rw [← hTT]; omega
  generalize hEE : ((b.length - (rst (c :: l')).length : Nat) : Int) = E at *
  have hFr : 0 ≤ F ∧ F ≤ 1000000000 := by omega
  have hTr : 0 ≤ T ∧ T ≤ 1000000000 := by omega
  have hEr : 0 ≤ E ∧ E ≤ 1000000000 := by omega
  have hwT1 : IntKind.i64.wrap (T + 1) = T + 1 := wrap_in (by omega) (by omega)
  have hwEF : IntKind.i64.wrap (E - F) = E - F := wrap_in (by omega) (by omega)
  -- the text of the number
  have hds : ∀ x ∈ dgs (c :: l'), isDig x = true := takeWhile_all (numT (c :: l'))
  have hsl : evSlcS (.str b) (some (.int .i64 F)) (some (.int .i64 E)) = some (.str (if isNeg (c :: l') = true then 45 :: dgs (c :: l') else dgs (c :: l'))) := by
    have h1 : (b.take E.toNat).drop F.toNat = if isNeg (c :: l') = true then 45 :: dgs (c :: l') else dgs (c :: l') := by
      have hdr := suf_drop hl
      rw [List.drop_take]
      have hFn : F.toNat = b.length - (c :: l').length := by omega
      rw [hFn, hdr]
      have hn := numT_eq (c :: l')
      rw [hneg]
      by_cases h45 : c = 45
      · have : E.toNat - (b.length - (c :: l').length) = (dgs (c :: l')).length + 1 := by
          rw [if_pos h45] at hT
          omega
        rw [this, if_pos (by simpa using h45)]
        simp only [numT, if_pos h45] at hn
        rw [h45]
        simp only [List.take_succ_cons]
        congr 1
        rw [← h45]
        have hn2 := congrArg (List.take (dgs (c :: l')).length) hn
        rw [List.take_left] at hn2
        exact hn2
      · have : E.toNat - (b.length - (c :: l').length) = (dgs (c :: l')).length := by
          rw [if_neg h45] at hT
          omega
        rw [this, if_neg (by simpa using h45)]
        simp only [numT, if_neg h45] at hn
        have hn2 := congrArg (List.take (dgs (c :: l')).length) hn
        rw [List.take_left] at hn2
        exact hn2
    have hEF : F ≤ E := by
      rw [hE, hT]; split <;> omega
    simp only [evSlcS, bnd, hFr.1, hEr.1, if_true]
    rw [if_pos (by omega), h1]
  -- the bounds of what is read at the digits' place
  have hgt : dgs (c :: l') ≠ [] → b[T.toNat]? = some (hd0 (dgs (c :: l'))) := by
    intro hd
    obtain ⟨d, r', hdr⟩ := List.exists_cons_of_ne_nil hd
    have h1 := suf_get ht
    rw [numT_eq, hdr] at h1
    have : T.toNat = b.length - (numT (c :: l')).length := by omega
    rw [this, numT_eq, hdr, h1]
    simp [hd0]
  have h48 : ∀ x : UInt8, (((x.toNat : Nat) : Int) = 48) ↔ x = 48 := fun x => ⟨fun q => UInt8.toNat_inj.1 (by simp; omega), fun q => by subst q; rfl⟩
  have hdn : ((dgs (c :: l')).length : Int) = 0 ↔ dgs (c :: l') = [] := by
    rw [← List.length_eq_zero_iff]; omega
  have hT0 : (0 : Int) ≤ T := hTr.1
  -- the switch
  have hlen4 : ∀ X : List AObj, (s.obs ++ X).length = s.obs.length + X.length := fun X => by simp
  have hwl : (if isNeg (c :: l') = true then 45 :: dgs (c :: l') else dgs (c :: l')).length ≤ 1000000000 := by
    have hl2 := hlen
    simp only [List.length_cons] at hl2
    by_cases h45 : c = 45
    · have : (numT (c :: l')).length = l'.length := by simp [numT, h45]
      split <;> (try simp only [List.length_cons]) <;> omega
    · have hh : ¬ isNeg (c :: l') = true := by rw [hneg]; simpa using h45
      rw [if_neg hh]
      simp only [List.length_cons] at htl
      omega
  obtain ⟨n, eb, hpi, hpe⟩ := pi_spec (if isNeg (c :: l') = true then 45 :: dgs (c :: l') else dgs (c :: l')) hwl
  generalize hQ : (decide (17 < E - F) || eb || decide (n < -9007199254740991) || decide (9007199254740991 < n)) = Q
  let bad1 : Int := if numF (c :: l') = 1 then F else if numF (c :: l') = 2 then T + 1 else bad
  let er1 : Int := if numF (c :: l') = 0 then 0 else 4
  refine ⟨.mk 2 n [] [] [], .cells 45 [.str b, .int .i64 E, .int .i64 (if Q = true ∧ er1 = 0 then F else bad1), .int .i64 (if Q = true ∧ er1 = 0 then 6 else er1)], call_out (F := af27) rfl rfl ?_, rfl, ?_⟩
  · simp [af27, af27b, e0, hF', ↓hgli, hFr.1]
    refine Out.mono (Q := fun e env' s' => e = .norm ∧ env' 0 = .ptr r 0 ∧ env' 2 = .ptr s.obs.length 0 ∧ env' 3 = .int .i64 F ∧ env' 4 = .int .i64 T ∧ s' = ⟨s.obs ++ [.cells 26 zV], s.bufs⟩) ?_ ?_
    · refine Out_cond _ _ _ _ _ _ _ rfl (fun h => ?_) (fun h => ?_)
      · have h45 : c = 45 := hc45.1 (by simpa using h)
        simp [hwT h45]
      · have h45 : ¬ c = 45 := fun q => by simp [hc45.2 q] at h
        simp [hT, h45]
    rintro e env1 s1 ⟨rfl, g0, g2, g3, g4, rfl⟩
    simp [g4]
    refine Out.mono (digLoop hb (.int .i64 F) (.int .i64 T) (numT (c :: l')) _ _ ht (r := r) ?_ ?_ ?_ ?_ (e0 _)) ?_
    · simp [g0]
    · simp [g3]
    · simp [g4]
    · simp [hTT]
    rintro e env2 s2 ⟨rfl, rfl, k0, k2, k3, k4, k5⟩
    simp [g2] at k2
    have k5' : env2 5 = .int .i64 E := by rw [k5, ← hEE]; rfl
    simp [k0, k3, k4, k5']
    refine Out.mono (Q := seqQ G _ (fun e env' s' => e = .norm ∧ env' 0 = .ptr r 0 ∧ env' 2 = .ptr s.obs.length 0 ∧ env' 3 = .int .i64 F ∧ env' 5 = .int .i64 E ∧
      s' = ⟨s.obs.set r (.cells 45 [.str b, .int .i64 F, .int .i64 bad1, .int .i64 er1]) ++ [.cells 26 zV], s.bufs⟩)) ?_ (seqQ_mono ?_)
    · have hfail : ∀ at_ : Int, call G 16 [.ptr r 0, .int .i64 at_, .int .i64 4] ⟨s.obs ++ [.cells 26 zV], s.bufs⟩ = some (.tup [], ⟨s.obs.set r (.cells 45 [.str b, .int .i64 F, .int .i64 at_, .int .i64 4]) ++ [.cells 26 zV], s.bufs⟩) := by
        intro at_
        have hf := fail_spec (b := b) (l := c :: l') (bad := bad) (e := 0) (at_ := at_) (e2 := 4) (r := r) (s := ⟨s.obs ++ [.cells 26 zV], s.bufs⟩) (by rw [e0]; simp only [rdr, hF])
        simp [upR, e2, rdr, hF'] at hf
        simpa using hf
      by_cases hd : dgs (c :: l') = []
      · have hET : E = T := by rw [hE, hd]; simp
        have hn1 : numF (c :: l') = 1 := by simp [numF, hd]
        simp [hET]
        refine Out_cond _ _ _ _ _ _ _ rfl (fun _ => ?_) (fun h => by cases h)
        simp [k0, k2, k3, k5', hfail, hET, bad1, er1, hn1]
      · have hg := hgt hd
        have hdp : 0 < (dgs (c :: l')).length := by
          rcases Nat.eq_zero_or_pos (dgs (c :: l')).length with h | h
          · exact absurd (List.length_eq_zero_iff.1 h) hd
          · exact h
        have hET : ¬ E = T := by omega
        have hFT : (F < T) ↔ isNeg (c :: l') = true := by
          rw [hneg]
          constructor
          · intro h
            by_cases h45 : c = 45
            · simp [h45]
            · rw [if_neg h45] at hT; omega
          · intro h
            have h45 : c = 45 := by simpa using h
            rw [if_pos h45] at hT; omega
        by_cases h1 : (dgs (c :: l')).length = 1
        · have hE1 : E = T + 1 := by omega
          obtain ⟨d, hdd⟩ : ∃ d, dgs (c :: l') = [d] := List.length_eq_one_iff.1 h1
          have hdd0 : hd0 (dgs (c :: l')) = d := by rw [hdd]; rfl
          rw [hdd0] at hg
          have hT1 : ¬ (T + 1 = T) := by omega
          by_cases hz : d = 48
          · by_cases hng : isNeg (c :: l') = true
            · have hn1 : numF (c :: l') = 1 := by simp [numF, hdd, hz, hng]
              have hlt : F < T := hFT.2 hng
              simp [hE1, hT1, hwT1, k0, k3, k4, e0, hT0, ↓hg, hz, hlt]
              refine Out_cond _ _ _ _ _ _ _ rfl (fun _ => ?_) (fun h => by cases h)
              simp [k0, k2, k3, k5', hfail, hE1, bad1, er1, hn1]
            · have hn1 : numF (c :: l') = 0 := by simp [numF, hdd, hz, hng, Eng.hd0]
              have hlt : ¬ F < T := fun q => hng (hFT.1 q)
              simp [hE1, hT1, hwT1, k0, k3, k4, e0, hT0, ↓hg, hz, hlt]
              refine Out_cond _ _ _ _ _ _ _ rfl (fun h => by cases h) (fun _ => ?_)
              simp [k0, k2, k3, k4, k5', hE1, hwT1, e0, hT0, ↓hg, hz]
              refine Out_cond _ _ _ _ _ _ _ rfl (fun h => by cases h) (fun _ => ?_)
              simp [k0, k2, k3, k5', hE1, bad1, er1, hn1]
              have := set_same (s := ⟨s.obs ++ [.cells 26 zV], s.bufs⟩) (e0 [.cells 26 zV])
              simpa [upR, e2] using this.symm
          · have hz' : ¬ ((d.toNat : Int) = 48) := fun q => hz ((h48 d).1 q)
            have hn1 : numF (c :: l') = 0 := by simp [numF, hdd, hz, Eng.hd0]
            simp [hE1, hT1, hwT1, k0, k3, k4, e0, hT0, ↓hg, hz']
            refine Out_cond _ _ _ _ _ _ _ rfl (fun h => by cases h) (fun _ => ?_)
            simp [k0, k2, k3, k4, k5', hE1, hwT1, e0, hT0, ↓hg, hz']
            refine Out_cond _ _ _ _ _ _ _ rfl (fun h => by cases h) (fun _ => ?_)
            simp [k0, k2, k3, k5', hE1, bad1, er1, hn1]
            have := set_same (s := ⟨s.obs ++ [.cells 26 zV], s.bufs⟩) (e0 [.cells 26 zV])
            simpa [upR, e2] using this.symm
        · have hE1 : ¬ E = T + 1 := by omega
          have hE2 : T + 1 < E := by omega
          have hl1 : ∀ x, dgs (c :: l') ≠ [x] := fun x q => h1 (by rw [q]; rfl)
          simp [hET, hE1, hwT1, k0, k3, k4, e0, hT0]
          refine Out_cond _ _ _ _ _ _ _ rfl (fun h => by cases h) (fun _ => ?_)
          by_cases hz : Eng.hd0 (dgs (c :: l')) = 48
          · have hn1 : numF (c :: l') = 2 := by simp [numF, hd, hl1, hz]; omega
            rw [hz] at hg
            simp [k0, k2, k3, k4, k5', hwT1, e0, hT0, ↓hg, hE2]
            refine Out_cond _ _ _ _ _ _ _ rfl (fun _ => ?_) (fun h => by cases h)
            simp [k0, k2, k3, k4, k5', hwT1, hfail, bad1, er1, hn1]
          · have hz' : ¬ (((Eng.hd0 (dgs (c :: l'))).toNat : Int) = 48) := fun q => hz ((h48 _).1 q)
            have hn1 : numF (c :: l') = 0 := by simp [numF, hd, hl1, hz]
            simp [k0, k2, k3, k4, k5', hwT1, e0, hT0, ↓hg, hz']
            refine Out_cond _ _ _ _ _ _ _ rfl (fun h => by cases h) (fun _ => ?_)
            simp [k0, k2, k3, k5', bad1, er1, hn1]
            have := set_same (s := ⟨s.obs ++ [.cells 26 zV], s.bufs⟩) (e0 [.cells 26 zV])
            simpa [upR, e2] using this.symm
    rintro e env3 s3 ⟨rfl, j0, j2, j3, j5, rfl⟩
    clear_value bad1 er1
    simp [j0, j3, j5, e1, hsl, hpi, hwEF]
    refine Out.mono (Q := fun e env' s' => e = .norm ∧ env' 0 = .ptr r 0 ∧ env' 2 = .ptr s.obs.length 0 ∧ env' 3 = .int .i64 F ∧ env' 5 = .int .i64 E ∧ env' 6 = .int .i64 n ∧ env' 102 = .bool Q ∧
      s' = ⟨s.obs.set r (.cells 45 [.str b, .int .i64 F, .int .i64 bad1, .int .i64 er1]) ++ [.cells 26 zV], s.bufs⟩) ?_ ?_
    · by_cases q1 : 17 < E - F
      · have q1' : ¬ E - F ≤ 17 := by omega
        have hQ' : Q = true := by rw [← hQ]; simp [q1]
        simp [q1, q1', hQ', j0, j2, j3, j5]
      · have q1' : E - F ≤ 17 := by omega
        cases eb with
        | true =>
          have hQ' : Q = true := by rw [← hQ]; simp
          simp [q1, q1', hQ', j0, j2, j3, j5, erV]
        | false =>
          by_cases q2 : n < -9007199254740991
          · have hQ' : Q = true := by rw [← hQ]; simp [q2]
            simp [q1, q1', hQ', j0, j2, j3, j5, erV, q2]
          · by_cases q3 : 9007199254740991 < n
            · have hQ' : Q = true := by rw [← hQ]; simp [q3]
              simp [q1, q1', hQ', j0, j2, j3, j5, erV, q2, q3]
            · have hQ' : Q = false := by rw [← hQ]; simp [q1, q2, q3]
              simp [q1, q1', hQ', j0, j2, j3, j5, erV, q2, q3]
    rintro e env4 s4 ⟨rfl, i0, i2, i3, i5, i6, i102, rfl⟩
    simp
    refine Out.mono (Q := fun e env' s' => e = .norm ∧ env' 0 = .ptr r 0 ∧ env' 2 = .ptr s.obs.length 0 ∧ env' 5 = .int .i64 E ∧ env' 6 = .int .i64 n ∧
      s' = ⟨s.obs.set r (.cells 45 [.str b, .int .i64 F, .int .i64 (if Q = true ∧ er1 = 0 then F else bad1), .int .i64 (if Q = true ∧ er1 = 0 then 6 else er1)]) ++ [.cells 26 zV], s.bufs⟩) ?_ ?_
    · refine Out_cond _ _ _ _ _ _ _ i102 (fun hq => ?_) (fun hq => ?_)
      · have hf := fail_spec (b := b) (l := c :: l') (bad := bad1) (e := er1) (at_ := F) (e2 := 6) (r := r) (s := ⟨s.obs.set r (.cells 45 [.str b, .int .i64 F, .int .i64 bad1, .int .i64 er1]) ++ [.cells 26 zV], s.bufs⟩) (by rw [e1]; simp only [rdr, hF])
        simp [upR, e3, rdr, hF'] at hf
        simp [i0, i2, i3, i5, i6, hf, hq]
      · simp [i0, i2, i5, i6, hq]
    rintro e env5 s5 ⟨rfl, m0, m2, m5, m6, rfl⟩
    simp [m0, m2, m5, m6, e1, e3, evStore, V.one, putL, fillL]
    exact fin_upV s hr rfl [.cells 26 _] (.mk 2 n [] [] [])
  · have hFl : ((b.length - (c :: l').length : Nat) : Int) = F := hF
    unfold pnum
    by_cases hA : dgs (c :: l') = [] ∨ (dgs (c :: l') = [48] ∧ isNeg (c :: l') = true)
    · have hn1 : numF (c :: l') = 1 := by simp only [numF, if_pos hA]
      rw [if_pos hA]
      refine ⟨E, ?_⟩
      simp [bad1, er1, hn1, hF']
    · rw [if_neg hA]
      have hd : dgs (c :: l') ≠ [] := fun q => hA (.inl q)
      by_cases hB : hd0 (dgs (c :: l')) = 48 ∧ 1 < (dgs (c :: l')).length
      · have hn1 : numF (c :: l') = 2 := by simp only [numF, if_neg hA, if_pos hB]
        rw [if_pos hB]
        refine ⟨E, ?_⟩
        have hP : ((b.length - ((numT (c :: l')).drop 1).length : Nat) : Int) = T + 1 := by
          rw [pos_drop ht (by omega)]
          omega
        simp [bad1, er1, hn1]
        simpa using hP.symm
      · have hn1 : numF (c :: l') = 0 := by simp only [numF, if_neg hA, if_neg hB]
        rw [if_neg hB]
        obtain ⟨p1, p2⟩ := pi_val hds hd (isNeg (c :: l'))
        by_cases hV : 9007199254740991 < valD (dgs (c :: l'))
        · rw [if_pos hV]
          have hQt : Q = true := by
            rw [← hQ]
            rcases hpe with ⟨rfl, _⟩ | ⟨rfl, hok⟩
            · simp
            · rcases p2 hV n hok with h | h
              · simp [h]
              · simp [h]
          refine ⟨E, ?_⟩
          simp [bad1, er1, hn1, hQt, hF']
        · rw [if_neg hV]
          have hok := p1 (by omega)
          have hlen17 : ¬ 17 < E - F := by
            intro h17
            have h17' : 17 ≤ (dgs (c :: l')).length := by
              rw [hE, hT] at h17
              split at h17 <;> omega
            exact hV (valD_big hds (fun q => hB ⟨q, by omega⟩) h17')
          rcases hpe with ⟨_, hno⟩ | ⟨rfl, hok2⟩
          · exact absurd hok (hno _)
          · rw [hok] at hok2
            simp only [Lib.NumEnd.ok.injEq] at hok2
            have hQf : Q = false := by
              rw [← hQ]
              simp only [hlen17, decide_false, Bool.false_or]
              have : ¬ n < -9007199254740991 ∧ ¬ 9007199254740991 < n := by rw [← hok2]; split <;> omega
              simp [this.1, this.2]
            refine ⟨by rw [hok2], ?_⟩
            simp only [rdr, hEE, bad1, er1, hn1, hQf]
            simp

end Go.Proofs.YtjdppboomglenaaGreatDoor.Eng

/-
  Quoted texts, read: what stands behind a sign 5c. No condition.
-/
namespace Go.Proofs.YtjdppboomglenaaGreatDoor.Eng
open Go
set_option linter.unusedSimpArgs false
set_option linter.unusedVariables false

attribute [local simp] evC_reg evC_regD evR_cons evR_nil runR_some regK_some evC_ret evC_skip evC_exit Out_seq Out_blk Out_some seqQ_norm seqQ_ret seqQ_exit blkQ_norm blkQ_ret blkQ_exit loopQ_norm loopQ_ret loopQ_exit
attribute [local simp] stepR evOp put upd_apply X.ev initEnv cells_agg cells_int cells_str cells_bool cells_sl cells_ptr cells_pnil cells_fn cells_map vc_length vc_take vc_plain vc_und toVs_plain toPs_plain toVs_und toPs_und takeN evBin isSh intBin strBin callK resOf packR fin V.plain plainL V.und undL scK kill dstsO dstsL dstsR ite_some ite_pair ite_vbool evUn evLoad evLen V.real finLoop_false quietK_false kill_none

/-- A hexadecimal digit; -1: none. -/
def hexD (x : UInt8) : Int :=
  if 48 ≤ x.toNat ∧ x.toNat ≤ 57 then x.toNat - 48
  else if 97 ≤ x.toNat ∧ x.toNat ≤ 102 then x.toNat - 87
  else if 65 ≤ x.toNat ∧ x.toNat ≤ 70 then x.toNat - 55
  else -1

theorem wrap8 {n : Int} (h0 : 0 ≤ n) (h1 : n < 256) : IntKind.u8.wrap n = n := by rw [wrapU8 h0]; omega

theorem hexD_spec (x : UInt8) (s : St) : call G 94 [.int .u8 x.toNat] s = some (.int .i32 (hexD x), s) := by
  have hx := x.toNat_lt
  refine call_out (F := af94) rfl rfl ?_
  by_cases a1 : 48 ≤ x.toNat ∧ x.toNat ≤ 57
  · have i1 : (48 : Int) ≤ (x.toNat : Int) := by omega
    have i2 : (x.toNat : Int) ≤ 57 := by omega
    have w1 : IntKind.u8.wrap ((x.toNat : Int) - 48) = x.toNat - 48 := wrap8 (by omega) (by omega)
    have w2 : IntKind.i32.wrap ((x.toNat : Int) - 48) = x.toNat - 48 := wrap32 (by omega) (by omega)
    simp [af94, af94b, i1, i2]
    refine Out_cond _ _ _ _ _ _ _ rfl (fun _ => ?_) (fun h => by cases h)
    simp [w1, w2, hexD, a1]
  · have h1 : hexD x = if 97 ≤ x.toNat ∧ x.toNat ≤ 102 then (x.toNat : Int) - 87 else if 65 ≤ x.toNat ∧ x.toNat ≤ 70 then (x.toNat : Int) - 55 else -1 := by
      unfold hexD; rw [if_neg a1]
    have c1 : ∀ (Q : AExit → Env → St → Prop) env, Out (evC G (.reg [⟨(some 4), .mov (.tmp 0)⟩, ⟨(some 5), .bin .geq (.tmp 4) (.c (.int .u8 48))⟩,
        ⟨(some 9), .sc 6 true (.tmp 5) [⟨(some 7), .mov (.tmp 0)⟩, ⟨(some 8), .bin .leq (.tmp 7) (.c (.int .u8 57))⟩] (.tmp 8)⟩, ⟨(some 3), .mov (.tmp 9)⟩]) env s) Q → True := fun _ _ _ => trivial
    by_cases i1 : (48 : Int) ≤ (x.toNat : Int)
    · have i2 : ¬ (x.toNat : Int) ≤ 57 := by omega
      simp [af94, af94b, i1, i2]
      refine Out_cond _ _ _ _ _ _ _ rfl (fun h => by cases h) (fun _ => ?_)
      by_cases b1 : (97 : Int) ≤ (x.toNat : Int)
      · by_cases b2 : (x.toNat : Int) ≤ 102
        · have w1 : IntKind.u8.wrap ((x.toNat : Int) - 97) = x.toNat - 97 := wrap8 (by omega) (by omega)
          have w2 : IntKind.i32.wrap ((x.toNat : Int) - 97) = x.toNat - 97 := wrap32 (by omega) (by omega)
          have w3 : IntKind.i32.wrap ((x.toNat : Int) - 97 + 10) = x.toNat - 87 := by rw [wrap32 (by omega) (by omega)]; omega
          simp [b1, b2]
          refine Out_cond _ _ _ _ _ _ _ rfl (fun _ => ?_) (fun h => by cases h)
          simp [w1, w2, w3, h1]
          omega
        · simp [b1, b2]
          refine Out_cond _ _ _ _ _ _ _ rfl (fun h => by cases h) (fun _ => ?_)
          have d1 : (65 : Int) ≤ (x.toNat : Int) := by omega
          have d2 : ¬ (x.toNat : Int) ≤ 70 := by omega
          simp [d1, d2]
          refine Out_cond _ _ _ _ _ _ _ rfl (fun h => by cases h) (fun _ => ?_)
          simp [h1]
          rw [if_neg (by omega), if_neg (by omega)]
      · simp [b1]
        refine Out_cond _ _ _ _ _ _ _ rfl (fun h => by cases h) (fun _ => ?_)
        by_cases d1 : (65 : Int) ≤ (x.toNat : Int)
        · by_cases d2 : (x.toNat : Int) ≤ 70
          · have w1 : IntKind.u8.wrap ((x.toNat : Int) - 65) = x.toNat - 65 := wrap8 (by omega) (by omega)
            have w2 : IntKind.i32.wrap ((x.toNat : Int) - 65) = x.toNat - 65 := wrap32 (by omega) (by omega)
            have w3 : IntKind.i32.wrap ((x.toNat : Int) - 65 + 10) = x.toNat - 55 := by rw [wrap32 (by omega) (by omega)]; omega
            simp [d1, d2]
            refine Out_cond _ _ _ _ _ _ _ rfl (fun _ => ?_) (fun h => by cases h)
            simp [w1, w2, w3, h1]
            rw [if_neg (by omega), if_pos (by omega)]
          · simp [d1, d2]
            refine Out_cond _ _ _ _ _ _ _ rfl (fun h => by cases h) (fun _ => ?_)
            simp [h1]
            rw [if_neg (by omega), if_neg (by omega)]
        · simp [d1]
          refine Out_cond _ _ _ _ _ _ _ rfl (fun h => by cases h) (fun _ => ?_)
          simp [h1]
          rw [if_neg (by omega), if_neg (by omega)]
    · simp [af94, af94b, i1]
      refine Out_cond _ _ _ _ _ _ _ rfl (fun h => by cases h) (fun _ => ?_)
      have b1 : ¬ (97 : Int) ≤ (x.toNat : Int) := by omega
      simp [b1]
      refine Out_cond _ _ _ _ _ _ _ rfl (fun h => by cases h) (fun _ => ?_)
      have d1 : ¬ (65 : Int) ≤ (x.toNat : Int) := by omega
      simp [d1]
      refine Out_cond _ _ _ _ _ _ _ rfl (fun h => by cases h) (fun _ => ?_)
      simp [h1]
      rw [if_neg (by omega), if_neg (by omega)]

theorem hexD_le (x : UInt8) : -1 ≤ hexD x ∧ hexD x ≤ 15 := by
  have hx := x.toNat_lt
  unfold hexD
  repeat' split
  all_goals omega

/-- One byte behind the sign: the rune; is there one? -/
def shortR (x : UInt8) : Int × Bool :=
  if x.toNat = 34 ∨ x.toNat = 92 ∨ x.toNat = 47 then (x.toNat, true)
  else if x.toNat = 98 then (8, true) else if x.toNat = 102 then (12, true) else if x.toNat = 110 then (10, true)
  else if x.toNat = 114 then (13, true) else if x.toNat = 116 then (9, true) else (0, false)

theorem shortR_spec (x : UInt8) (s : St) : call G 81 [.int .u8 x.toNat] s = some (.tup [.int .i32 (shortR x).1, .bool (shortR x).2], s) := by
  have hx := x.toNat_lt
  have w : IntKind.i32.wrap (x.toNat : Int) = x.toNat := wrap32 (by omega) (by omega)
  refine call_out (F := af81) rfl rfl ?_
  by_cases a1 : x.toNat = 34
  · have i1 : (x.toNat : Int) = 34 := by omega
    simp [af81, af81b, i1, ↓shortR, a1]
    refine Out_cond _ _ _ _ _ _ _ rfl (fun _ => ?_) (fun h => by cases h)
    simp
    refine Out_cond _ _ _ _ _ _ _ rfl (fun _ => ?_) (fun h => by cases h)
    simp [i1, show IntKind.i32.wrap 34 = 34 from by decide]
  have j1 : ¬ (x.toNat : Int) = 34 := by omega
  simp [af81, af81b, j1]
  refine Out_cond _ _ _ _ _ _ _ rfl (fun h => by cases h) (fun _ => ?_)
  by_cases a2 : x.toNat = 92
  · have i1 : (x.toNat : Int) = 92 := by omega
    simp [i1]
    refine Out_cond _ _ _ _ _ _ _ rfl (fun _ => ?_) (fun h => by cases h)
    simp
    refine Out_cond _ _ _ _ _ _ _ rfl (fun _ => ?_) (fun h => by cases h)
    simp [i1, show IntKind.i32.wrap 92 = 92 from by decide, shortR, a2]
  have j2 : ¬ (x.toNat : Int) = 92 := by omega
  simp [j2]
  refine Out_cond _ _ _ _ _ _ _ rfl (fun h => by cases h) (fun _ => ?_)
  by_cases a3 : x.toNat = 47
  · have i1 : (x.toNat : Int) = 47 := by omega
    simp [i1]
    refine Out_cond _ _ _ _ _ _ _ rfl (fun _ => ?_) (fun h => by cases h)
    simp [i1, show IntKind.i32.wrap 47 = 47 from by decide, shortR, a3]
  have j3 : ¬ (x.toNat : Int) = 47 := by omega
  simp [j3]
  refine Out_cond _ _ _ _ _ _ _ rfl (fun h => by cases h) (fun _ => ?_)
  by_cases a4 : x.toNat = 98
  · have i1 : (x.toNat : Int) = 98 := by omega
    simp [i1]
    refine Out_cond _ _ _ _ _ _ _ rfl (fun _ => ?_) (fun h => by cases h)
    simp [shortR, a4]
  have j4 : ¬ (x.toNat : Int) = 98 := by omega
  simp [j4]
  refine Out_cond _ _ _ _ _ _ _ rfl (fun h => by cases h) (fun _ => ?_)
  by_cases a5 : x.toNat = 102
  · have i1 : (x.toNat : Int) = 102 := by omega
    simp [i1]
    refine Out_cond _ _ _ _ _ _ _ rfl (fun _ => ?_) (fun h => by cases h)
    simp [shortR, a5]
  have j5 : ¬ (x.toNat : Int) = 102 := by omega
  simp [j5]
  refine Out_cond _ _ _ _ _ _ _ rfl (fun h => by cases h) (fun _ => ?_)
  by_cases a6 : x.toNat = 110
  · have i1 : (x.toNat : Int) = 110 := by omega
    simp [i1]
    refine Out_cond _ _ _ _ _ _ _ rfl (fun _ => ?_) (fun h => by cases h)
    simp [shortR, a6]
  have j6 : ¬ (x.toNat : Int) = 110 := by omega
  simp [j6]
  refine Out_cond _ _ _ _ _ _ _ rfl (fun h => by cases h) (fun _ => ?_)
  by_cases a7 : x.toNat = 114
  · have i1 : (x.toNat : Int) = 114 := by omega
    simp [i1]
    refine Out_cond _ _ _ _ _ _ _ rfl (fun _ => ?_) (fun h => by cases h)
    simp [shortR, a7]
  have j7 : ¬ (x.toNat : Int) = 114 := by omega
  simp [j7]
  refine Out_cond _ _ _ _ _ _ _ rfl (fun h => by cases h) (fun _ => ?_)
  by_cases a8 : x.toNat = 116
  · have i1 : (x.toNat : Int) = 116 := by omega
    simp [i1]
    refine Out_cond _ _ _ _ _ _ _ rfl (fun _ => ?_) (fun h => by cases h)
    simp [shortR, a8]
  have j8 : ¬ (x.toNat : Int) = 116 := by omega
  simp [j8]
  refine Out_cond _ _ _ _ _ _ _ rfl (fun h => by cases h) (fun _ => ?_)
  simp [shortR, a1, a2, a3, a4, a5, a6, a7, a8]

def hexF : Int → List UInt8 → Int
  | n, [] => n
  | n, d :: ds => if hexD d < 0 then -1 else hexF (n * 16 + hexD d) ds
/-- Four digits behind 5c, u; -1: they aren't there. -/
def unitR : List UInt8 → Int
  | a :: u :: d1 :: d2 :: d3 :: d4 :: _ => if a = 92 ∧ u = 117 then hexF 0 [d1, d2, d3, d4] else -1
  | _ => -1

theorem hexF_ge : ∀ (ds : List UInt8) (n : Int), 0 ≤ n → -1 ≤ hexF n ds
  | [], n, h => by simp only [hexF]; omega
  | d :: ds, n, h => by
    simp only [hexF]
    split
    · omega
    · exact hexF_ge ds _ (by omega)

theorem shl_or {n d : Int} (h0 : 0 ≤ n) (h1 : n < 134217728) (h2 : 0 ≤ d) (h3 : d < 16) :
    evBin .or (.int .i32 (IntKind.i32.wrap (n * 2 ^ (min 4 IntKind.i32.bits)))) (.int .i32 d) = some (.int .i32 (n * 16 + d)) := by
  have m : min 4 IntKind.i32.bits = 4 := by decide
  have w : IntKind.i32.wrap (n * 2 ^ (min 4 IntKind.i32.bits)) = n * 16 := by rw [m, wrap32 (by omega) (by omega)]; rfl
  rw [w]
  have hb : IntKind.i32.bits = 32 := rfl
  simp only [evBin, isSh, intBin, Bool.false_eq_true, if_false, if_true, hb]
  have e1 : (BitVec.ofInt 32 (n * 16) ||| BitVec.ofInt 32 d).toNat = (n * 16 + d).toNat := by
    rw [BitVec.toNat_or, BitVec.toNat_ofInt, BitVec.toNat_ofInt]
    have p : ((2 ^ 32 : Nat) : Int) = 4294967296 := by decide
    rw [p, Int.emod_eq_of_lt (by omega) (by omega), Int.emod_eq_of_lt (by omega) (by omega)]
    have q : (n * 16).toNat = 2 ^ 4 * n.toNat := by omega
    rw [q, ← Nat.two_pow_add_eq_or_of_lt (i := 4) (by omega)]
    omega
  have e2 : (BitVec.ofInt IntKind.i32.bits (n * 16) ||| BitVec.ofInt IntKind.i32.bits d).toNat = (n * 16 + d).toNat := e1
  rw [e2, wrap32 (by omega) (by omega)]
  congr 2
  omega

theorem unitR_short {l : List UInt8} (h : l.length < 6) : unitR l = -1 := by
  rcases l with _ | ⟨_, _ | ⟨_, _ | ⟨_, _ | ⟨_, _ | ⟨_, _ | ⟨_, _⟩⟩⟩⟩⟩⟩ <;> first | rfl | (simp at h; omega)

theorem unitLoop (l r : List UInt8) (hl : l.length ≤ 1000000000) : ∀ (ds pre : List UInt8) (i : Nat) (n : Int) (env : Env) (s : St), l = pre ++ ds ++ r → pre.length = 2 + i → ds.length + i = 4 → 0 ≤ n → (n + 1) * 16 ^ ds.length ≤ 65536 →
    env 0 = .str l → env 3 = .int .i32 n → env 19 = .int .i64 i →
    Out (evC G (.loop false af82l0) env s) (fun e env' s' => s' = s ∧ ((hexF n ds = -1 ∧ e = .ret ∧ env' 2 = .int .i32 (-1)) ∨ (0 ≤ hexF n ds ∧ e = .exit 0 ∧ env' 3 = .int .i32 (hexF n ds)))) := by
  intro ds
  induction ds with
  | nil =>
    intro pre i n env s hle hp hd h0 h1 e0 e3 e19
    have hi : i = 4 := by simpa using hd
    subst hi
    refine Out_loop G false _ _ af82l0.eq_1 _ _ _ ?_
    simp [e19]
    refine Out_cond _ _ _ _ _ _ _ rfl (fun h => by cases h) (fun _ => ?_)
    simp [hexF, e3, h0]
  | cons d ds ih =>
    intro pre i n env s hle hp hd h0 h1 e0 e3 e19
    have hi4 : i < 4 := by simp at hd; omega
    have hi4' : (i : Int) < 4 := by omega
    have hg : l[2 + i]? = some d := by
      rw [hle, List.append_assoc, List.getElem?_append_right (by omega), hp]
      simp
    have hw : IntKind.i64.wrap (2 + (i : Int)) = ((2 + i : Nat) : Int) := by rw [wrap_in (by omega) (by omega)]; omega
    have hgi : l[((2 : Int) + (i : Int)).toNat]? = some d := by rw [show ((2 : Int) + (i : Int)).toNat = 2 + i by omega]; exact hg
    have hge : (0 : Int) ≤ 2 + (i : Int) := by omega
    have hdl := hexD_le d
    have hpow : (16 : Int) ^ (ds.length + 1) = 16 ^ ds.length * 16 := by rw [Int.pow_succ]
    have hpos : (1 : Int) ≤ 16 ^ ds.length := by
      have := Nat.one_le_pow ds.length 16 (by omega)
      have h2 : ((16 ^ ds.length : Nat) : Int) = (16 : Int) ^ ds.length := by simp
      omega
    have hn : n < 4096 := by
      simp only [List.length_cons] at h1
      rw [hpow] at h1
      have : (n + 1) * 16 ≤ (n + 1) * (16 ^ ds.length * 16) := by
        refine Int.mul_le_mul_of_nonneg_left ?_ (by omega)
        omega
      omega
    refine Out_loop G false _ _ af82l0.eq_1 _ _ _ ?_
    simp [e19, hi4']
    refine Out_cond _ _ _ _ _ _ _ rfl (fun _ => ?_) (fun h => by cases h)
    simp [e0, e3, e19, hw, hge, ↓hgi, hexD_spec]
    refine Out_cond _ _ _ _ _ _ _ rfl (fun h => ?_) (fun h => ?_)
    · have q1 : hexD d < 0 := by simpa using h
      simp [hexF, q1]
    · have q1 : ¬ hexD d < 0 := by simpa using h
      have o1 := shl_or (n := n) (d := hexD d) h0 (by omega) (by omega) (by omega)
      have hsh : shBin .shl .i32 n 4 = some (.int .i32 (IntKind.i32.wrap (n * 2 ^ (min 4 IntKind.i32.bits)))) := rfl
      have hw2 : IntKind.i64.wrap ((i : Int) + 1) = ((i + 1 : Nat) : Int) := by rw [wrap_in (by omega) (by omega)]; omega
      simp only [evBin, isSh, intBin, Bool.false_eq_true, if_false, if_true, Option.some.injEq] at o1
      simp [e3, e19, hsh, hw2]
      refine Out.mono (ih (pre ++ [d]) (i + 1) (n * 16 + hexD d) _ s ?_ ?_ ?_ ?_ ?_ ?_ ?_ ?_) ?_
      · rw [hle]; simp
      · simp [hp]; omega
      · simp at hd ⊢; omega
      · omega
      · simp only [List.length_cons] at h1
        rw [hpow] at h1
        have e : (n * 16 + hexD d + 1) * 16 ^ ds.length ≤ ((n + 1) * 16) * 16 ^ ds.length := Int.mul_le_mul_of_nonneg_right (by omega) (by omega)
        have e2 : ((n + 1) * 16) * 16 ^ ds.length = (n + 1) * (16 ^ ds.length * 16) := by rw [Int.mul_assoc, Int.mul_comm 16]
        omega
      · simp [e0]
      · simp at o1 ⊢
        exact o1
      · simp
      · rintro e env' s' ⟨rfl, h⟩
        refine ⟨rfl, ?_⟩
        rw [hexF, if_neg q1]
        exact h

theorem unitR_spec (l : List UInt8) (hl : l.length ≤ 1000000000) (s : St) : call G 82 [.str l] s = some (.int .i32 (unitR l), s) := by
  have b92 : ∀ x : UInt8, ((x.toNat : Int) = 92) ↔ x = 92 := fun x => ⟨fun q => UInt8.toNat_inj.1 (by simp; omega), fun q => by subst q; rfl⟩
  have b117 : ∀ x : UInt8, ((x.toNat : Int) = 117) ↔ x = 117 := fun x => ⟨fun q => UInt8.toNat_inj.1 (by simp; omega), fun q => by subst q; rfl⟩
  refine call_out (F := af82) rfl rfl ?_
  by_cases h6 : l.length < 6
  · have h6' : (l.length : Int) < 6 := by omega
    simp [af82, af82b, h6']
    refine Out_cond _ _ _ _ _ _ _ rfl (fun _ => ?_) (fun h => by cases h)
    simp [unitR_short h6]
  rcases l with _ | ⟨a, _ | ⟨u, _ | ⟨d1, _ | ⟨d2, _ | ⟨d3, _ | ⟨d4, r⟩⟩⟩⟩⟩⟩
  iterate 6 (exact absurd (by simp) h6)
  have h6' : (6 : Int) ≤ (r.length : Int) + 1 + 1 + 1 + 1 + 1 + 1 := by omega
  have h6'' : ¬ ((r.length : Int) + 1 + 1 + 1 + 1 + 1 + 1 < 6) := by omega
  by_cases ha : a = 92
  · by_cases hu : u = 117
    · subst ha hu
      simp [af82, af82b, h6', h6'']
      refine Out_cond _ _ _ _ _ _ _ rfl (fun h => by cases h) (fun _ => ?_)
      simp
      refine Out.mono (unitLoop _ r hl [d1, d2, d3, d4] [92, 117] 0 0 _ s (by simp) rfl rfl (by omega) (by simp) ?_ ?_ ?_) ?_
      · simp
      · simp
      · simp
      rintro e env' s' ⟨rfl, ⟨h1, rfl, h2⟩ | ⟨h1, rfl, h2⟩⟩
      · simp [h2, unitR, h1]
      · simp [h2, unitR]
    · have hu' := mt (b117 u).1 hu
      subst ha
      simp [af82, af82b, h6', h6'', hu']
      refine Out_cond _ _ _ _ _ _ _ rfl (fun _ => ?_) (fun h => by cases h)
      simp [unitR, hu]
  · have ha' := mt (b92 a).1 ha
    simp [af82, af82b, h6', h6'', ha']
    refine Out_cond _ _ _ _ _ _ _ rfl (fun _ => ?_) (fun h => by cases h)
    simp [unitR, ha]

/-- The rune behind a sign 5c, and how many bytes it takes; 0: none. -/
def escR (l : List UInt8) : Int × Nat :=
  if 1 < l.length ∧ (shortR ((l[1]?).getD 0)).2 = true then ((shortR ((l[1]?).getD 0)).1, 2)
  else if unitR l < 0 ∨ (56320 ≤ unitR l ∧ unitR l ≤ 57343) then (0, 0)
  else if unitR l < 55296 ∨ 57343 < unitR l then (unitR l, 6)
  else if unitR (l.drop 6) < 56320 ∨ 57343 < unitR (l.drop 6) then (0, 0)
  else (65536 + (unitR l - 55296) * 1024 + unitR (l.drop 6) - 56320, 12)

theorem hexF_lt : ∀ (ds : List UInt8) (n : Int), 0 ≤ n → (n + 1) * 16 ^ ds.length ≤ 65536 → hexF n ds < 65536
  | [], n, h, h1 => by simp [hexF] at h1 ⊢; omega
  | d :: ds, n, h, h1 => by
    have hdl := hexD_le d
    have hpow : (16 : Int) ^ (ds.length + 1) = 16 ^ ds.length * 16 := by rw [Int.pow_succ]
    have hpos : (0 : Int) ≤ 16 ^ ds.length := by
      exact Int.le_of_lt (Int.pow_pos (by omega))
    simp only [hexF]
    split
    · omega
    · refine hexF_lt ds _ (by omega) ?_
      simp only [List.length_cons] at h1
      rw [hpow] at h1
      have e : (n * 16 + hexD d + 1) * 16 ^ ds.length ≤ ((n + 1) * 16) * 16 ^ ds.length := Int.mul_le_mul_of_nonneg_right (by omega) hpos
      have e2 : ((n + 1) * 16) * 16 ^ ds.length = (n + 1) * (16 ^ ds.length * 16) := by rw [Int.mul_assoc, Int.mul_comm 16]
      omega

theorem unitR_le (l : List UInt8) : -1 ≤ unitR l ∧ unitR l < 65536 ∧ (0 ≤ unitR l → 6 ≤ l.length) := by
  rcases l with _ | ⟨a, _ | ⟨u, _ | ⟨d1, _ | ⟨d2, _ | ⟨d3, _ | ⟨d4, r⟩⟩⟩⟩⟩⟩ <;> try (simp [unitR]; done)
  simp only [unitR]
  split
  · exact ⟨hexF_ge _ _ (by omega), hexF_lt _ _ (by omega) (by simp), fun _ => by simp⟩
  · exact ⟨by omega, by omega, fun h => by omega⟩

theorem escR_spec (l : List UInt8) (hl : l.length ≤ 1000000000) (s : St) : call G 69 [.str l] s = some (.tup [.int .i32 (escR l).1, .int .i64 (escR l).2], s) := by
  have hu := unitR_spec l hl
  obtain ⟨u0, u1, u6⟩ := unitR_le l
  have hs6 : 6 ≤ l.length → evSlcS (.str l) (some (.int .i64 6)) none = some (.str (l.drop 6)) := by
    intro h; simp [evSlcS, bnd, h]
  have hd := unitR_spec (l.drop 6) (by simp; omega)
  obtain ⟨v0, v1, _⟩ := unitR_le (l.drop 6)
  refine call_out (F := af69) rfl rfl ?_
  simp [af69, af69b]
  refine Out.mono (Q := fun e env' s' => s' = s ∧ ((e = .ret ∧ 1 < l.length ∧ (shortR ((l[1]?).getD 0)).2 = true ∧ env' 2 = .int .i32 (shortR ((l[1]?).getD 0)).1 ∧ env' 3 = .int .i64 2) ∨
    (e = .norm ∧ env' 0 = .str l ∧ ¬ (1 < l.length ∧ (shortR ((l[1]?).getD 0)).2 = true)))) ?_ ?_
  · refine Out_cond _ _ _ _ _ _ _ rfl (fun h => ?_) (fun h => ?_)
    · have h' : 1 < l.length := by simp at h; omega
      obtain ⟨x, hx⟩ : ∃ x, l[1]? = some x := ⟨_, List.getElem?_eq_getElem (by omega)⟩
      simp [hx, shortR_spec]
      refine Out_cond _ _ _ _ _ _ _ rfl (fun hq => ?_) (fun hq => ?_)
      · simp [h', hq]
      · simp [hq]
    · simp at h
      simp
      omega
  rintro e env1 s1 ⟨rfl, ⟨rfl, h1, h2, h3, h4⟩ | ⟨rfl, g0, hno⟩⟩
  · simp only [h3, h4, escR, h1, h2, and_self, if_true]
    simp [h3, h4]
  · generalize hU : unitR l = U at *
    simp [g0, hu]
    by_cases c1 : U < 0
    · have c1' : ¬ 0 ≤ U := by omega
      simp [c1, c1']
      refine Out_cond _ _ _ _ _ _ _ rfl (fun _ => ?_) (fun h => by cases h)
      simp [escR, hno, hU, c1]
    have c1' : 0 ≤ U := by omega
    by_cases c2 : 56320 ≤ U
    · by_cases c3 : U ≤ 57343
      · simp [c1, c1', c2, c3]
        refine Out_cond _ _ _ _ _ _ _ rfl (fun _ => ?_) (fun h => by cases h)
        simp [escR, hno, hU, c2, c3]
      · have c4 : ¬ U < 55296 := by omega
        have c4' : 55296 ≤ U := by omega
        have c5 : 57343 < U := by omega
        simp [c1, c1', c2, c3, c5]
        refine Out_cond _ _ _ _ _ _ _ rfl (fun h => by cases h) (fun _ => ?_)
        simp [c4, c4', c5]
        refine Out_cond _ _ _ _ _ _ _ rfl (fun _ => ?_) (fun h => by cases h)
        simp [escR, hno, hU, c1, c3, c5]
    · have c2' : U < 56320 := by omega
      simp [c1, c1', c2, c2']
      refine Out_cond _ _ _ _ _ _ _ rfl (fun h => by cases h) (fun _ => ?_)
      by_cases c4 : U < 55296
      · have c4' : ¬ 55296 ≤ U := by omega
        simp [c4, c4']
        refine Out_cond _ _ _ _ _ _ _ rfl (fun _ => ?_) (fun h => by cases h)
        simp [escR, hno, hU, c1, c2, c4]
      · have c4' : 55296 ≤ U := by omega
        have c5 : ¬ 57343 < U := by omega
        have c5' : U ≤ 57343 := by omega
        simp [c4, c4', c5, c5']
        refine Out_cond _ _ _ _ _ _ _ rfl (fun h => by cases h) (fun _ => ?_)
        simp [g0, hs6 (u6 (by omega)), hd]
        generalize hW : unitR (l.drop 6) = W at *
        by_cases d1 : W < 56320
        · have d1' : ¬ 56320 ≤ W := by omega
          simp [d1, d1']
          refine Out_cond _ _ _ _ _ _ _ rfl (fun _ => ?_) (fun h => by cases h)
          simp [escR, hno, hU, c1, c2, c4, c5, hW, d1]
        · have d1' : 56320 ≤ W := by omega
          by_cases d2 : 57343 < W
          · have d2' : ¬ W ≤ 57343 := by omega
            simp [d1, d1', d2, d2']
            refine Out_cond _ _ _ _ _ _ _ rfl (fun _ => ?_) (fun h => by cases h)
            simp [escR, hno, hU, c1, c2, c4, c5, hW, d2]
          · have d2' : W ≤ 57343 := by omega
            have m10 : min 10 IntKind.i32.bits = 10 := by decide
            have w1 : IntKind.i32.wrap (U - 55296) = U - 55296 := wrap32 (by omega) (by omega)
            have w2 : IntKind.i32.wrap ((U - 55296) * 1024) = (U - 55296) * 1024 := by rw [wrap32 (by omega) (by omega)]
            have w3 : IntKind.i32.wrap (65536 + (U - 55296) * 1024) = 65536 + (U - 55296) * 1024 := wrap32 (by omega) (by omega)
            have w4 : IntKind.i32.wrap (65536 + (U - 55296) * 1024 + W) = 65536 + (U - 55296) * 1024 + W := wrap32 (by omega) (by omega)
            have w5 : IntKind.i32.wrap (65536 + (U - 55296) * 1024 + W - 56320) = 65536 + (U - 55296) * 1024 + W - 56320 := wrap32 (by omega) (by omega)
            simp [d1, d1', d2, d2']
            refine Out_cond _ _ _ _ _ _ _ rfl (fun h => by cases h) (fun _ => ?_)
            simp [shBin, m10, w1, w2, w3, w4, w5, escR, hno, hU, c1, c1', c2, c2', c4, c4', c5, c5', hW, d1, d1', d2, d2']

/-- What is behind the sign is a rune. -/
theorem escR_ok (l : List UInt8) (h : (escR l).2 ≠ 0) : ∃ c : Nat, (escR l).1 = c ∧ runeOk c ∧ (escR l).2 ≤ l.length ∧ 2 ≤ (escR l).2 := by
  obtain ⟨u0, u1, u6⟩ := unitR_le l
  obtain ⟨v0, v1, v6⟩ := unitR_le (l.drop 6)
  unfold escR at h ⊢
  split
  · rename_i hc
    have : ∀ x : UInt8, (shortR x).2 = true → ∃ c : Nat, (shortR x).1 = c ∧ runeOk c := by
      intro x hx
      have := x.toNat_lt
      unfold shortR runeOk at *
      (repeat' split) <;> first | exact ⟨_, rfl, by omega, by omega⟩ | skip
      · exact ⟨8, rfl, by omega, by omega⟩
      · exact ⟨12, rfl, by omega, by omega⟩
      · exact ⟨10, rfl, by omega, by omega⟩
      · exact ⟨13, rfl, by omega, by omega⟩
      · exact ⟨9, rfl, by omega, by omega⟩
      · simp_all
    obtain ⟨c, h1, h2⟩ := this _ hc.2
    exact ⟨c, h1, h2, by omega, by omega⟩
  · rename_i hc
    rw [if_neg hc] at h
    split
    · rename_i hd; rw [if_pos hd] at h; exact absurd rfl h
    · rename_i hd
      rw [if_neg hd] at h
      split
      · exact ⟨(unitR l).toNat, by simp only; omega, ⟨by omega, by omega⟩, u6 (by omega), by simp⟩
      · rename_i he
        rw [if_neg he] at h
        split
        · rename_i hf; rw [if_pos hf] at h; exact absurd rfl h
        · have := v6 (by omega)
          simp only [List.length_drop] at this
          exact ⟨(65536 + (unitR l - 55296) * 1024 + unitR (l.drop 6) - 56320).toNat, by simp only; omega, ⟨by omega, by omega⟩, by simp only; omega, by simp⟩

end Go.Proofs.YtjdppboomglenaaGreatDoor.Eng

/-
  Quoted texts, read: the text that is built, and the whole. No condition.
-/
namespace Go.Proofs.YtjdppboomglenaaGreatDoor.Eng
open Go
set_option linter.unusedSimpArgs false
set_option linter.unusedVariables false

attribute [local simp] evC_reg evC_regD evR_cons evR_nil runR_some regK_some evC_ret evC_skip evC_exit Out_seq Out_blk Out_some seqQ_norm seqQ_ret seqQ_exit blkQ_norm blkQ_ret blkQ_exit loopQ_norm loopQ_ret loopQ_exit
attribute [local simp] stepR evOp put upd_apply X.ev initEnv cells_agg cells_int cells_str cells_bool cells_sl cells_ptr cells_pnil cells_fn cells_map vc_length vc_take vc_plain vc_und toVs_plain toPs_plain toVs_und toPs_und takeN evBin isSh intBin strBin callK resOf packR fin V.plain plainL V.und undL scK kill dstsO dstsL dstsR ite_some ite_pair ite_vbool evUn evLoad evLen V.real finLoop_false quietK_false kill_none

theorem app80n_spec (obs : List AObj) (bufs : List (Nat × Nat × TypeId)) (c : Nat) (h0 : 128 ≤ c) (h1 : c ≤ 1114111) (h2 : c < 55296 ∨ 57344 ≤ c) :
    call G 93 [.sl .nil [], .int .i32 c] ⟨obs, bufs⟩ =
      some (.sl (.buf bufs.length) (asBytes (encV c)), ⟨obs, bufs ++ [((encV c).length, 1, 5)]⟩) := by
  have hroom : room = 140737488355328 := by decide
  have w32 : IntKind.u32.wrap (c : Int) = c := wrapU32 (by omega) (by omega)
  have s6 : (c : Int).fdiv 64 = (c : Int) / 64 := Int.fdiv_eq_ediv_of_nonneg _ (by omega)
  have s12 : (c : Int).fdiv 4096 = (c : Int) / 4096 := Int.fdiv_eq_ediv_of_nonneg _ (by omega)
  have s18 : (c : Int).fdiv 262144 = (c : Int) / 262144 := Int.fdiv_eq_ediv_of_nonneg _ (by omega)
  have m6 : min 6 IntKind.i32.bits = 6 := by decide
  have m12 : min 12 IntKind.i32.bits = 12 := by decide
  have m18 : min 18 IntKind.i32.bits = 18 := by decide
  have lw0 : IntKind.u8.wrap (c : Int) = (c : Int) % 256 := wrapU8 (by omega)
  have lw6 : IntKind.u8.wrap ((c : Int) / 64) = (c : Int) / 64 % 256 := wrapU8 (by omega)
  have lw12 : IntKind.u8.wrap ((c : Int) / 4096) = (c : Int) / 4096 % 256 := wrapU8 (by omega)
  have lw18 : IntKind.u8.wrap ((c : Int) / 262144) = (c : Int) / 262144 % 256 := wrapU8 (by omega)
  have t0 : orB 128 (andB ((c : Int) % 256) 63) = 128 + (c : Int) % 64 := by rw [and63 (by omega) (by omega), or128 (by omega) (by omega)]; omega
  have t6 : orB 128 (andB ((c : Int) / 64 % 256) 63) = 128 + (c : Int) / 64 % 64 := by rw [and63 (by omega) (by omega), or128 (by omega) (by omega)]; omega
  have t12 : orB 128 (andB ((c : Int) / 4096 % 256) 63) = 128 + (c : Int) / 4096 % 64 := by rw [and63 (by omega) (by omega), or128 (by omega) (by omega)]; omega
  have hr : 4 ≤ 140737488355328 := by decide
  refine call_out (F := af93) rfl rfl ?_
  simp [-intBin, iB_leq, af93, af93b, w32]
  refine Out_cond _ _ _ _ _ _ _ rfl (fun h => ?_) (fun h => ?_)
  · have hc : c ≤ 2047 := by simp at h; omega
    have o1 : orB 192 ((c : Int) / 64 % 256) = 192 + (c : Int) / 64 := by rw [or192 (by omega) (by omega)]; omega
    have ev : encV c = [UInt8.ofNat (192 + c / 64), UInt8.ofNat (128 + c % 64)] := by simp [encV, show ¬ c < 128 by omega, show c < 2048 by omega]
    have v1 := ofNat_val (n := 192 + c / 64) (by omega)
    have v2 := ofNat_val (n := 128 + c % 64) (by omega)
    have eb : asBytes (encV c) = [.int .u8 (192 + (c : Int) / 64), .int .u8 (128 + (c : Int) % 64)] := by
      rw [ev]
      simp only [asBytes, List.map_cons, List.map_nil, v1, v2]
      simp
    have hr' : 2 ≤ 140737488355328 := by omega
    rw [eb, ev]
    simp [-intBin, iB_or, iB_and, shBin, m6, s6, lw0, lw6, o1, t0, fillS, V.one, evApp, appSrc, asBytes_length, fits_bytes, fits_int, fits_nil, hroom, hr']
  · have hc : ¬ c ≤ 2047 := by simp at h; omega
    simp [-intBin, iB_lss]
    refine Out_cond _ _ _ _ _ _ _ rfl (fun h3 => ?_) (fun h3 => ?_)
    · have hc3 : c < 55296 := by simp at h3; omega
      simp
      refine Out_cond _ _ _ _ _ _ _ rfl (fun _ => ?_) (fun h4 => by simp at h4; omega)
      have o1 : orB 224 ((c : Int) / 4096 % 256) = 224 + (c : Int) / 4096 := by rw [or224 (by omega) (by omega)]; omega
      have ev : encV c = [UInt8.ofNat (224 + c / 4096), UInt8.ofNat (128 + c / 64 % 64), UInt8.ofNat (128 + c % 64)] := by
        simp [encV, show ¬ c < 128 by omega, show ¬ c < 2048 by omega, show c < 65536 by omega]
      have v1 := ofNat_val (n := 224 + c / 4096) (by omega)
      have v2 := ofNat_val (n := 128 + c / 64 % 64) (by omega)
      have v3 := ofNat_val (n := 128 + c % 64) (by omega)
      have eb : asBytes (encV c) = [.int .u8 (224 + (c : Int) / 4096), .int .u8 (128 + (c : Int) / 64 % 64), .int .u8 (128 + (c : Int) % 64)] := by
        rw [ev]
        simp only [asBytes, List.map_cons, List.map_nil, v1, v2, v3]
        simp
      have hr' : 3 ≤ 140737488355328 := by omega
      rw [eb, ev]
      simp [-intBin, iB_or, iB_and, shBin, m6, m12, s6, s12, lw0, lw6, lw12, o1, t0, t6, fillS, V.one, evApp, appSrc, asBytes_length, fits_bytes, fits_int, fits_nil, hroom, hr']
    · have hc3 : ¬ c < 55296 := by simp at h3; omega
      simp [-intBin, iB_lss, iB_leq]
      refine Out_cond _ _ _ _ _ _ _ rfl (fun h4 => ?_) (fun h4 => ?_)
      · have hc4 : c ≤ 65535 := by simp at h4; omega
        have o1 : orB 224 ((c : Int) / 4096 % 256) = 224 + (c : Int) / 4096 := by rw [or224 (by omega) (by omega)]; omega
        have ev : encV c = [UInt8.ofNat (224 + c / 4096), UInt8.ofNat (128 + c / 64 % 64), UInt8.ofNat (128 + c % 64)] := by
          simp [encV, show ¬ c < 128 by omega, show ¬ c < 2048 by omega, show c < 65536 by omega]
        have v1 := ofNat_val (n := 224 + c / 4096) (by omega)
        have v2 := ofNat_val (n := 128 + c / 64 % 64) (by omega)
        have v3 := ofNat_val (n := 128 + c % 64) (by omega)
        have eb : asBytes (encV c) = [.int .u8 (224 + (c : Int) / 4096), .int .u8 (128 + (c : Int) / 64 % 64), .int .u8 (128 + (c : Int) % 64)] := by
          rw [ev]
          simp only [asBytes, List.map_cons, List.map_nil, v1, v2, v3]
          simp
        have hr' : 3 ≤ 140737488355328 := by omega
        rw [eb, ev]
        simp [-intBin, iB_or, iB_and, shBin, m6, m12, s6, s12, lw0, lw6, lw12, o1, t0, t6, fillS, V.one, evApp, appSrc, asBytes_length, fits_bytes, fits_int, fits_nil, hroom, hr']
      · have hc4 : ¬ c ≤ 65535 := by simp at h4; omega
        simp [-intBin, iB_leq, iB_gtr]
        refine Out_cond _ _ _ _ _ _ _ rfl (fun _ => ?_) (fun h5 => by simp at h5; omega)
        have o1 : orB 240 ((c : Int) / 262144 % 256) = 240 + (c : Int) / 262144 := by rw [or240 (by omega) (by omega)]; omega
        have ev : encV c = [UInt8.ofNat (240 + c / 262144), UInt8.ofNat (128 + c / 4096 % 64), UInt8.ofNat (128 + c / 64 % 64), UInt8.ofNat (128 + c % 64)] := by
          simp [encV, show ¬ c < 128 by omega, show ¬ c < 2048 by omega, show ¬ c < 65536 by omega]
        have v1 := ofNat_val (n := 240 + c / 262144) (by omega)
        have v2 := ofNat_val (n := 128 + c / 4096 % 64) (by omega)
        have v3 := ofNat_val (n := 128 + c / 64 % 64) (by omega)
        have v4 := ofNat_val (n := 128 + c % 64) (by omega)
        have eb : asBytes (encV c) = [.int .u8 (240 + (c : Int) / 262144), .int .u8 (128 + (c : Int) / 4096 % 64), .int .u8 (128 + (c : Int) / 64 % 64), .int .u8 (128 + (c : Int) % 64)] := by
          rw [ev]
          simp only [asBytes, List.map_cons, List.map_nil, v1, v2, v3, v4]
          simp
        rw [eb, ev]
        simp [-intBin, iB_or, iB_and, shBin, m6, m12, m18, s6, s12, s18, lw0, lw6, lw12, lw18, o1, t0, t6, t12, fillS, V.one, evApp, appSrc, asBytes_length, fits_bytes, fits_int, fits_nil, hroom, hr]

theorem app65n_spec (obs : List AObj) (bufs : List (Nat × Nat × TypeId)) (c : Nat) (hc : runeOk c) :
    call G 79 [.sl .nil [], .int .i32 c] ⟨obs, bufs⟩ =
      some (.sl (.buf bufs.length) (asBytes (encV c)), ⟨obs, bufs ++ [((encV c).length, 1, 5)]⟩) := by
  obtain ⟨h1, h2⟩ := hc
  have w32 : IntKind.u32.wrap (c : Int) = c := wrapU32 (by omega) (by omega)
  have hr : 4 ≤ 140737488355328 := by decide
  refine call_out (F := af79) rfl rfl ?_
  simp [-intBin, iB_leq, af79, af79b, w32]
  refine Out_cond _ _ _ _ _ _ _ rfl (fun h => ?_) (fun h => ?_)
  · have hc : c < 128 := by simp at h; omega
    have lw0 : IntKind.u8.wrap (c : Int) = c := by rw [wrapU8 (by omega)]; omega
    have v1 := ofNat_val (n := c) (by omega)
    have ev : encV c = [UInt8.ofNat c] := by simp [encV, hc]
    have eb : asBytes (encV c) = [.int .u8 c] := by
      rw [ev]
      simp only [asBytes, List.map_cons, List.map_nil, v1]
    rw [eb, ev]
    have hroom : room = 140737488355328 := by decide
    have hr1 : 1 ≤ 140737488355328 := by omega
    simp [lw0, fillS, V.one, evApp, appSrc, asBytes_length, fits_bytes, fits_int, fits_nil, hroom, hr1]
  · have hc : 128 ≤ c := by simp at h; omega
    simp [app80n_spec obs bufs c hc h1 h2]


theorem rune_bst0 (obs tl : List AObj) (bufs : List (Nat × Nat × TypeId)) (c : Nat) (hc : runeOk c) :
    call G 66 [.ptr obs.length 0, .int .i32 c] (bst0 obs tl bufs) = some (.tup [.int .i64 (encV c).length, .nilI], bst obs tl bufs (encV c)) := by
  have hl := encV_len c
  have hw : IntKind.i64.wrap (((encV c).length : Int) - 0) = (encV c).length := by rw [wrap_in (by omega) (by omega)]; omega
  have h65 := fun o => app65n_spec o bufs c hc
  refine call_out (F := af66) rfl rfl ?_
  simp [af66, af66b, copy_bst0]
  simp [bst, bst1, bObj, asBytes_length]
  simp at h65 hw
  simp [h65, evStore, V.one, putL, asBytes_length, hw]

/-- A builder that holds a text. -/
def ust (o : List AObj) (bufs : List (Nat × Nat × TypeId)) (acc : List UInt8) : St := if acc = [] then bst0 o [] bufs else bst o [] bufs acc

theorem rune_ust (o : List AObj) (bufs : List (Nat × Nat × TypeId)) (acc : List UInt8) (c : Nat) (hc : runeOk c) (hr : acc.length ≤ 4000000000) :
    ∃ v, call G 66 [.ptr o.length 0, .int .i32 c] (ust o bufs acc) = some (v, ust o bufs (acc ++ encV c)) := by
  have hl := encV_len c
  have hne : acc ++ encV c ≠ [] := fun q => by
    have := congrArg List.length q
    simp at this
    rw [this.2] at hl
    simp at hl
  unfold ust
  rw [if_neg hne]
  by_cases h : acc = []
  · subst h
    exact ⟨_, by simpa using rune_bst0 o [] bufs c hc⟩
  · rw [if_neg h]
    exact ⟨_, rune_bst o [] bufs acc c hc (by omega)⟩

theorem string_ust (o : List AObj) (bufs : List (Nat × Nat × TypeId)) (acc : List UInt8) (hr : acc.length ≤ 4000000000) : call G 19 [.ptr o.length 0] (ust o bufs acc) = some (.str acc, ust o bufs acc) := by
  unfold ust
  by_cases h : acc = []
  · subst h
    simp only [if_true]
    refine call_out (F := af19) rfl rfl ?_
    simp [-fin, af19, af19b, bst0]
    exact fin_same _ _ rfl
  · rw [if_neg h]
    exact string_bst o [] bufs acc h (by omega)

theorem fin_ust (o : List AObj) (bufs : List (Nat × Nat × TypeId)) (acc : List UInt8) (r : V) (h : r.plain.und o.length 0 = true) : fin false ⟨o, bufs⟩ (ust o bufs acc) r = (r.plain, ⟨o, bufs⟩) := by
  unfold ust
  split
  · unfold fin
    rw [if_neg (by simp), if_pos]
    · simp [bst0]
    · exact ⟨by simp [bst0], h⟩
  · exact fin_bst o [] bufs acc r h

end Go.Proofs.YtjdppboomglenaaGreatDoor.Eng

/-
  Quoted texts, read. No condition.
-/
namespace Go.Proofs.YtjdppboomglenaaGreatDoor.Eng
open Go
set_option linter.unusedSimpArgs false
set_option linter.unusedVariables false

attribute [local simp] evC_reg evC_regD evR_cons evR_nil runR_some regK_some evC_ret evC_skip evC_exit Out_seq Out_blk Out_some seqQ_norm seqQ_ret seqQ_exit blkQ_norm blkQ_ret blkQ_exit loopQ_norm loopQ_ret loopQ_exit
attribute [local simp] stepR evOp put upd_apply X.ev initEnv cells_agg cells_int cells_str cells_bool cells_sl cells_ptr cells_pnil cells_fn cells_map vc_length vc_take vc_plain vc_und toVs_plain toPs_plain toVs_und toPs_und takeN evBin isSh intBin strBin callK resOf packR V.plain plainL V.und undL scK kill dstsO dstsL dstsR ite_some ite_pair ite_vbool evUn evLoad evLen V.real finLoop_false quietK_false kill_none

def ubody : Nat → List UInt8 → List UInt8 → PR (List UInt8)
  | 0, l, _ => .err l 4
  | f + 1, l, acc =>
    if l = [] then .err [] 4
    else if (decV l 0).1 = 34 then .ok acc (l.drop 1)
    else if (decV l 0).1 < 32 then .err l 4
    else if (decV l 0).1 = 65533 ∧ (decV l 0).2 = 1 then .err l 2
    else if (decV l 0).1 = 92 then
      if (escR l).2 = 0 then .err l 4 else ubody f (l.drop (escR l).2) (acc ++ encV (escR l).1.toNat)
    else ubody f (l.drop (decV l 0).2) (acc ++ encV (decV l 0).1)

def punq (l : List UInt8) : PR (List UInt8) := if begs l [34] = true then ubody l.length (l.drop 1) [] else .err l 4

def prT : PR (List UInt8) → List UInt8
  | .ok t _ => t
  | .err _ _ => []
def PR.rest {α : Type} : PR α → List UInt8
  | .ok _ l => l
  | .err l _ => l
def PR.e {α : Type} : PR α → Int
  | .ok _ _ => 0
  | .err _ e => e

theorem ubody_suf : ∀ (f : Nat) (l acc : List UInt8), (ubody f l acc).rest <:+ l
  | 0, l, acc => List.suffix_refl _
  | f + 1, l, acc => by
    unfold ubody
    split
    · rename_i h; subst h; exact List.suffix_refl _
    · split
      · exact List.drop_suffix _ _
      · split
        · exact List.suffix_refl _
        · split
          · exact List.suffix_refl _
          · split
            · split
              · exact List.suffix_refl _
              · exact (ubody_suf f _ _).trans (List.drop_suffix _ _)
            · exact (ubody_suf f _ _).trans (List.drop_suffix _ _)
theorem punq_suf (l : List UInt8) : (punq l).rest <:+ l := by
  unfold punq
  split
  · exact (ubody_suf _ _ _).trans (List.drop_suffix _ _)
  · exact List.suffix_refl _

theorem unqLoop {q : List UInt8} (hq : q.length ≤ 1000000000) (o : List AObj) (bufs : List (Nat × Nat × TypeId)) : ∀ (f : Nat) (l acc : List UInt8) (env : Env), l <:+ q → l.length < f → acc.length + 4 * l.length ≤ 4000000000 → env 0 = .str q → env 5 = .ptr o.length 0 →
    env 6 = .int .i64 ((q.length - l.length : Nat) : Int) →
    Out (evC G (.loop false af52l0) env (ust o bufs acc)) (fun e env' s' => (∃ acc', s' = ust o bufs acc') ∧
      ((e = .exit 0 ∧ env' 0 = .str q ∧ ubody f l acc = .err [] 4) ∨
       (e = .ret ∧ env' 2 = .str (prT (ubody f l acc)) ∧ env' 3 = .int .i64 ((q.length - (ubody f l acc).rest.length : Nat) : Int) ∧ env' 4 = .int .i64 (ubody f l acc).e))) := by
  intro f
  induction f with
  | zero => intro l acc env hl hf; omega
  | succ f ih =>
    intro l acc env hl hf hacc h0 h5 h6
    have hlen := suf_len hl
    refine Out_loop G false _ _ af52l0.eq_1 _ _ _ ?_
    by_cases hn : l = []
    · subst hn
      simp [h0, h6]
      refine Out_cond _ _ _ _ _ _ _ rfl (fun h => by cases h) (fun _ => ?_)
      simp [h0, ubody]
      exact ⟨acc, rfl⟩
    have hpos : 0 < l.length := by
      rcases Nat.eq_zero_or_pos l.length with h | h
      · exact absurd (List.length_eq_zero_iff.1 h) hn
      · exact h
    have hlt : ((q.length - l.length : Nat) : Int) < (q.length : Int) := by omega
    have hlt' : q.length - l.length < q.length := by omega
    have hsl : evSlcS (.str q) (some (.int .i64 ((q.length - l.length : Nat) : Int))) none = some (.str l) := by
      simp [evSlcS, bnd, suf_drop hl]
    have hdec : ∀ s, call G 68 [.str l] s = some (.tup [.int .i32 ((decV l 0).1 : Nat), .int .i64 ((decV l 0).2 : Nat)], s) := fun s => by
      have h1 := dec_spec l s
      have h2 := decGo_drop l 0 hpos
      rw [List.drop_zero] at h2
      rw [h2] at h1
      exact h1
    obtain ⟨d1, d2, d3⟩ := decV_le l 0 hpos
    have hrok := decV_ok l 0 hpos
    simp only [Nat.zero_add] at d2
    unfold ubody
    rw [if_neg hn]
    generalize hC : (decV l 0).1 = c at *
    generalize hN : (decV l 0).2 = n at *
    simp [h0, h6, hlt']
    refine Out_cond _ _ _ _ _ _ _ rfl (fun _ => ?_) (fun h => by cases h)
    simp [h0, h6, hsl, hdec]
    by_cases c1 : c = 34
    · have i1 : (c : Int) = 34 := by omega
      have hw : IntKind.i64.wrap (((q.length - l.length : Nat) : Int) + 1) = ((q.length - (l.drop 1).length : Nat) : Int) := by rw [pos_drop hl hpos, wrap_in (by omega) (by omega)]; omega
      simp [i1, c1]
      refine Out_cond _ _ _ _ _ _ _ rfl (fun _ => ?_) (fun h => by cases h)
      simp at hw
      simp [h5, h6, string_ust o bufs acc (by omega), hw, prT, PR.rest, PR.e]
      exact ⟨acc, rfl⟩
    have i1 : ¬ (c : Int) = 34 := by omega
    rw [if_neg c1]
    simp [i1, c1]
    refine Out_cond _ _ _ _ _ _ _ rfl (fun h => by cases h) (fun _ => ?_)
    by_cases c2 : c < 32
    · have i2 : (c : Int) < 32 := by omega
      simp [i2, c2]
      refine Out_cond _ _ _ _ _ _ _ rfl (fun _ => ?_) (fun h => by cases h)
      simp [h6, prT, PR.rest, PR.e]
      exact ⟨acc, rfl⟩
    have i2 : ¬ (c : Int) < 32 := by omega
    rw [if_neg c2]
    simp [i2]
    refine Out_cond _ _ _ _ _ _ _ rfl (fun h => by first | cases h | (simp at h; omega)) (fun _ => ?_)
    have hn4 : ∀ c', (encV c').length ≤ 4 := fun c' => (encV_len c').2
    have hadd : ∀ m : Nat, 1 ≤ m → m ≤ l.length → IntKind.i64.wrap (((q.length - l.length : Nat) : Int) + (m : Int)) = ((q.length - (l.drop m).length : Nat) : Int) := fun m h1 h2 => by
      rw [pos_drop hl h2, wrap_in (by omega) (by omega)]; omega
    have next : ∀ (c' m : Nat) (env : Env), runeOk c' → 1 ≤ m → m ≤ l.length → env 0 = .str q → env 5 = .ptr o.length 0 → env 6 = .int .i64 ((q.length - (l.drop m).length : Nat) : Int) →
        Out (evC G (.loop false af52l0) env (ust o bufs (acc ++ encV c'))) (fun e env' s' => (∃ acc', s' = ust o bufs acc') ∧
          ((e = .exit 0 ∧ env' 0 = .str q ∧ ubody f (l.drop m) (acc ++ encV c') = .err [] 4) ∨
           (e = .ret ∧ env' 2 = .str (prT (ubody f (l.drop m) (acc ++ encV c'))) ∧ env' 3 = .int .i64 ((q.length - (ubody f (l.drop m) (acc ++ encV c')).rest.length : Nat) : Int) ∧ env' 4 = .int .i64 (ubody f (l.drop m) (acc ++ encV c')).e))) := by
      intro c' m env hr hm1 hm2 g0 g5 g6
      refine ih (l.drop m) (acc ++ encV c') env ((List.drop_suffix _ _).trans hl) ?_ ?_ g0 g5 g6
      · simp only [List.length_drop]; omega
      · have := hn4 c'
        simp only [List.length_drop, List.length_append]; omega
    by_cases c3 : c = 65533 ∧ n = 1
    · have i3 : (c : Int) = 65533 := by omega
      have i4 : (n : Int) = 1 := by omega
      simp [i3, i4, c3]
      refine Out_cond _ _ _ _ _ _ _ rfl (fun _ => ?_) (fun h => by cases h)
      simp [h6, prT, PR.rest, PR.e]
      exact ⟨acc, rfl⟩
    rw [if_neg c3]
    rw [Out_seq]
    refine Out.mono (Q := fun e env' s' => e = .norm ∧ s' = ust o bufs acc ∧ env' 33 = .bool false ∧ env' 0 = .str q ∧ env' 5 = .ptr o.length 0 ∧ env' 6 = .int .i64 ((q.length - l.length : Nat) : Int) ∧ env' 7 = .int .i32 c ∧ env' 8 = .int .i64 n) ?_ ?_
    · by_cases e3 : c = 65533
      · have i3 : (c : Int) = 65533 := by omega
        have i4 : ¬ (n : Int) = 1 := fun h => c3 ⟨e3, by omega⟩
        simp [h0, h5, h6, i3, i4]
      · have i3 : ¬ (c : Int) = 65533 := by omega
        simp [h0, h5, h6, i3]
    rintro e env1 s1 ⟨rfl, rfl, g33, g0, g5, g6, g7, g8⟩
    simp
    refine Out_cond _ _ _ _ _ _ _ g33 (fun h => by cases h) (fun _ => ?_)
    by_cases c4 : c = 92
    · have i4 : (c : Int) = 92 := by omega
      have he := escR_spec l (by omega)
      simp [g7, i4, c4]
      refine Out_cond _ _ _ _ _ _ _ rfl (fun _ => ?_) (fun h => by cases h)
      by_cases hz : (escR l).2 = 0
      · simp [g0, g6, hsl, he, hz]
        refine Out_cond _ _ _ _ _ _ _ rfl (fun _ => ?_) (fun h => by cases h)
        simp [g6, prT, PR.rest, PR.e]
        exact ⟨acc, rfl⟩
      · obtain ⟨c', k1, k2, k3, k4⟩ := escR_ok l hz
        have hz' : ¬ (((escR l).2 : Nat) : Int) = 0 := by omega
        obtain ⟨v, hv⟩ := rune_ust o bufs acc c' k2 (by omega)
        have hto : (escR l).1.toNat = c' := by rw [k1]; rfl
        have ha := hadd (escR l).2 (by omega) k3
        simp [g0, g6, hsl, he, hz, hz', k1]
        refine Out_cond _ _ _ _ _ _ _ rfl (fun h => by cases h) (fun _ => ?_)
        simp at ha
        simp [g0, g5, g6, hv, ha]
        refine Out.mono (next c' (escR l).2 _ k2 (by omega) k3 ?_ ?_ ?_) (fun e env' s' h => h)
        · simp [g0]
        · simp [g5]
        · simp
    · have i4 : ¬ (c : Int) = 92 := by omega
      obtain ⟨v, hv⟩ := rune_ust o bufs acc c hrok (by omega)
      have ha := hadd n d1 d2
      simp [g7, i4, c4]
      refine Out_cond _ _ _ _ _ _ _ rfl (fun h => by cases h) (fun _ => ?_)
      simp at ha
      simp [g0, g5, g6, g7, g8, hv, ha]
      refine Out.mono (next c n _ hrok d1 d2 ?_ ?_ ?_) (fun e env' s' h => h)
      · simp [g0]
      · simp [g5]
      · simp

theorem unq_spec {q : List UInt8} (hq : q.length ≤ 1000000000) (s : St) :
    call G 52 [.str q] s = some (.tup [.str (prT (punq q)), .int .i64 ((q.length - (punq q).rest.length : Nat) : Int), .int .i64 (punq q).e], s) := by
  have hh := hp_spec q [34] (by omega) s
  refine call_out (F := af52) rfl rfl ?_
  unfold punq
  by_cases hb : begs q [34] = true
  · have hq1 : 1 ≤ q.length := begs_len hb
    rw [if_pos hb]
    simp [af52, af52b, hh, hb]
    refine Out_cond _ _ _ _ _ _ _ rfl (fun h => by cases h) (fun _ => ?_)
    simp
    have e0 : (⟨s.obs ++ [.cells 53 [.pnil, .sl .nil []]], s.bufs⟩ : St) = ust s.obs s.bufs [] := by simp [ust, bst0]
    rw [e0]
    refine Out.mono (unqLoop hq s.obs s.bufs q.length (q.drop 1) [] _ (List.drop_suffix _ _) ?_ ?_ ?_ ?_ ?_) ?_
    · simp only [List.length_drop]; omega
    · simp only [List.length_drop, List.length_nil]; omega
    · simp
    · simp
    · simp only [List.length_drop]
      simp
      omega
    rintro e env' s' ⟨⟨acc', rfl⟩, ⟨rfl, h0, hU⟩ | ⟨rfl, h2, h3, h4⟩⟩
    · rw [List.drop_one] at hU
      simp only [hU]
      simp [h0, prT, PR.rest, PR.e]
      exact fin_ust s.obs s.bufs acc' (.tup [.str _, .int _ _, .int _ _]) rfl
    · rw [List.drop_one] at h2 h3 h4
      generalize ubody q.length q.tail [] = R at *
      simp [h2, h3, h4]
      exact fin_ust s.obs s.bufs acc' (.tup [.str _, .int _ _, .int _ _]) rfl
  · rw [if_neg hb]
    simp [af52, af52b, hh, hb]
    refine Out_cond _ _ _ _ _ _ _ rfl (fun _ => ?_) (fun h => by cases h)
    simp [prT, PR.rest, PR.e]
    exact fin_id s (v := .tup _) rfl

/-- A text, as a reader's function leaves it. -/
theorem str_spec {b l : List UInt8} (hb : b.length ≤ 1000000000) (hl : l <:+ b) {bad : Int} {r : Nat} {s : St} (hs : s.obs[r]? = some (rdr b l bad 0)) :
    ∃ o, call G 26 [.ptr r 0] s = some (.str (prT (punq l)), upR s r o) ∧ o.und 0 0 = true ∧ (match punq l with
      | .ok _ l' => o = rdr b l' bad 0
      | .err l' e => e ≠ 0 → ∃ at_ : Int, o = .cells 45 [.str b, .int .i64 at_, .int .i64 ((b.length - l'.length : Nat) : Int), .int .i64 e]) := by
  have hr := get_lt hs
  have hs' := hs
  unfold rdr at hs'
  have hlen := suf_len hl
  have hsl : evSlcS (.str b) (some (.int .i64 ((b.length - l.length : Nat) : Int))) none = some (.str l) := by
    simp [evSlcS, bnd, suf_drop hl]
  have hu := fun s => unq_spec (q := l) (by omega) s
  have hsuf := (punq_suf l)
  have hsl2 := suf_len hsuf
  have hw : IntKind.i64.wrap (((b.length - l.length : Nat) : Int) + ((l.length - (punq l).rest.length : Nat) : Int)) = ((b.length - (punq l).rest.length : Nat) : Int) := by
    rw [wrap_in (by omega) (by omega)]; omega
  refine ⟨.cells 45 [.str b, .int .i64 ((b.length - (punq l).rest.length : Nat) : Int), .int .i64 (if (punq l).e = 0 then bad else ((b.length - (punq l).rest.length : Nat) : Int)), .int .i64 (punq l).e], call_out (F := af26) rfl rfl ?_, rfl, ?_⟩
  · simp [af26, af26b, hs', hsl, hu]
    by_cases he : (punq l).e = 0
    · simp [he]
      refine Out_cond _ _ _ _ _ _ _ rfl (fun h => by cases h) (fun _ => ?_)
      simp [↓hs', hw, evStore, V.one, putL]
      exact fin_up1 s hr (o := .cells 45 _) rfl (v := .str _) rfl
    · have hf := fail_spec (b := b) (l := l) (bad := bad) (e := 0) (at_ := ((b.length - (punq l).rest.length : Nat) : Int)) (e2 := (punq l).e) (r := r) hs
      simp [upR, rdr] at hf
      simp [he]
      refine Out_cond _ _ _ _ _ _ _ rfl (fun _ => ?_) (fun h => by cases h)
      simp [↓hs', hw, hf, hr, evStore, V.one, putL]
      exact fin_up1 s hr (o := .cells 45 _) rfl (v := .str _) rfl
  · cases hp : punq l with
    | ok t l' => simp [PR.rest, PR.e, rdr]
    | err l' e => intro he; exact ⟨((b.length - l'.length : Nat) : Int), by simp [PR.rest, PR.e, he]⟩

end Go.Proofs.YtjdppboomglenaaGreatDoor.Eng

/-
  JSON, read: the plain parser; lists. No condition.
-/
namespace Go.Proofs.YtjdppboomglenaaGreatDoor.Eng
open Go
set_option linter.unusedSimpArgs false
set_option linter.unusedVariables false

attribute [local simp] evC_reg evC_regD evR_cons evR_nil runR_some regK_some evC_ret evC_skip evC_exit Out_seq Out_blk Out_some seqQ_norm seqQ_ret seqQ_exit blkQ_norm blkQ_ret blkQ_exit loopQ_norm loopQ_ret loopQ_exit
attribute [local simp] stepR evOp put upd_apply X.ev initEnv cells_agg cells_int cells_str cells_bool cells_sl cells_ptr cells_pnil cells_fn cells_map vc_length vc_take vc_plain vc_und toVs_plain toPs_plain toVs_und toPs_und takeN evBin isSh intBin strBin callK resOf packR V.plain plainL V.und undL scK kill dstsO dstsL dstsR ite_some ite_pair ite_vbool evUn evLoad evLen V.real finLoop_false quietK_false kill_none

/-! ### The plain parser -/
def PR.map {α β : Type} (f : α → β) : PR α → PR β
  | .ok v l => .ok (f v) l
  | .err l e => .err l e
/-- A sign that must be there. -/
def psign (c : UInt8) (l : List UInt8) : PR Unit :=
  match skp l with
  | x :: t => if x = c then .ok () t else .err (x :: t) 4
  | [] => .err [] 4
def plist {α : Type} (p1 : List UInt8 → List α → PR α) (en : UInt8) : Nat → List UInt8 → List α → PR (List α)
  | 0, l, _ => .err l 4
  | f + 1, l, acc =>
    match p1 l acc with
    | .err l' e => .err l' e
    | .ok v l' => if hd0 (skp l') = 44 then plist p1 en f ((skp l').drop 1) (acc ++ [v]) else (psign en l').map fun _ => acc ++ [v]
def plist0 {α : Type} (p1 : List UInt8 → List α → PR α) (en : UInt8) (l : List UInt8) : PR (List α) :=
  if hd0 (skp l) = en then .ok [] ((skp l).drop 1) else plist p1 en (l.length + 1) (skp l) []
def ppair (pv : List UInt8 → PR JV) (l : List UInt8) (acc : List (List UInt8 × JV)) : PR (List UInt8 × JV) :=
  if hd0 (skp l) ≠ 34 then .err (skp l) 4 else
  match punq (skp l) with
  | .err l' e => .err l' e
  | .ok k l' =>
    if (acc.any fun p => decide (p.1 = k)) = true then .err (skp l) 7 else
    match psign 58 l' with
    | .err l2 e => .err l2 e
    | .ok _ l2 => (pv l2).map fun v => (k, v)
def isNumS (c : UInt8) : Bool := decide (c = 45) || (decide (48 ≤ c) && decide (c ≤ 57))
def pval : Nat → List UInt8 → PR JV
  | 0, l => if skp l = [] then .err [] 4 else .err (skp l) 5
  | d + 1, l =>
    if skp l = [] then .err [] 4
    else if hd0 (skp l) = 34 then (punq (skp l)).map fun s => .mk 3 0 s [] []
    else if isNumS (hd0 (skp l)) = true then pnum (skp l)
    else if hd0 (skp l) = 91 then (plist0 (fun l _ => pval d l) 93 ((skp l).drop 1)).map fun vs => .mk 4 0 [] vs []
    else if hd0 (skp l) = 123 then (plist0 (ppair (pval d)) 125 ((skp l).drop 1)).map fun fs => .mk 5 0 [] [] fs
    else pword (skp l)

/-- Its errors are errors; what is left was there. -/
def Fine {α : Type} (p : PR α) (l : List UInt8) : Prop := (∀ l' e, p = .err l' e → e ≠ 0) ∧ p.rest <:+ l

theorem Fine.suf {α : Type} {p : PR α} {l l2 : List UInt8} (h : Fine p l) (k : l <:+ l2) : Fine p l2 := ⟨h.1, h.2.trans k⟩
theorem Fine.map {α β : Type} {p : PR α} {l : List UInt8} (h : Fine p l) (f : α → β) : Fine (p.map f) l := by
  cases p with
  | ok v l' => exact ⟨fun l2 e q => (by cases q), h.2⟩
  | err l' e => exact ⟨fun l2 e2 q => (by cases q; exact h.1 _ _ rfl), h.2⟩
theorem Fine.of_err {α : Type} {l l' : List UInt8} {e : Int} (he : e ≠ 0) (h : l' <:+ l) : Fine (.err l' e : PR α) l := ⟨fun _ _ q => by cases q; exact he, h⟩
theorem Fine.of_ok {α : Type} {l l' : List UInt8} {v : α} (h : l' <:+ l) : Fine (.ok v l') l := ⟨fun _ _ q => (by cases q), h⟩
theorem nil_suf (l : List UInt8) : [] <:+ l := List.nil_suffix

theorem ubody_e : ∀ (f : Nat) (l acc : List UInt8) (l' : List UInt8) (e : Int), ubody f l acc = .err l' e → e ≠ 0
  | 0, l, acc, l', e, h => by simp [ubody] at h; omega
  | f + 1, l, acc, l', e, h => by
    unfold ubody at h
    repeat' split at h
    all_goals first
      | (cases h; decide)
      | cases h
      | exact ubody_e f _ _ _ _ h
theorem punq_fine (l : List UInt8) : Fine (punq l) l := by
  refine ⟨fun l' e h => ?_, punq_suf l⟩
  unfold punq at h
  split at h
  · exact ubody_e _ _ _ _ _ h
  · cases h; decide
theorem pnum_fine (l : List UInt8) : Fine (pnum l) l := by
  unfold pnum
  split
  · exact .of_err (by decide) (List.suffix_refl _)
  · split
    · exact .of_err (by decide) ((List.drop_suffix _ _).trans (numT_suf l))
    · split
      · exact .of_err (by decide) (List.suffix_refl _)
      · exact .of_ok (rst_suf l)
theorem pword_fine (l : List UInt8) : Fine (pword l) l := by
  unfold pword
  split
  · exact .of_ok (List.drop_suffix _ _)
  · split
    · exact .of_ok (List.drop_suffix _ _)
    · split
      · exact .of_ok (List.drop_suffix _ _)
      · exact .of_err (by decide) (List.suffix_refl _)
theorem psign_fine (c : UInt8) (l : List UInt8) : Fine (psign c l) l := by
  have h := skp_suf l
  unfold psign
  generalize skp l = m at h ⊢
  cases m with
  | nil => exact .of_err (by decide) h
  | cons x t =>
    simp only
    split
    · exact .of_ok (suf_tail h)
    · exact .of_err (by decide) h
theorem plist_fine {α : Type} {p1 : List UInt8 → List α → PR α} (h1 : ∀ l acc, Fine (p1 l acc) l) (en : UInt8) : ∀ (f : Nat) (l : List UInt8) (acc : List α), Fine (plist p1 en f l acc) l
  | 0, l, acc => .of_err (by decide) (List.suffix_refl _)
  | f + 1, l, acc => by
    unfold plist
    have h := h1 l acc
    cases hp : p1 l acc with
    | err l' e =>
      rw [hp] at h
      exact .of_err (h.1 _ _ rfl) h.2
    | ok v l' =>
      rw [hp] at h
      simp only
      split
      · exact (plist_fine h1 en f _ _).suf (((List.drop_suffix _ _).trans (skp_suf _)).trans h.2)
      · exact ((psign_fine en l').map _).suf h.2
theorem plist0_fine {α : Type} {p1 : List UInt8 → List α → PR α} (h1 : ∀ l acc, Fine (p1 l acc) l) (en : UInt8) (l : List UInt8) : Fine (plist0 p1 en l) l := by
  unfold plist0
  split
  · exact .of_ok ((List.drop_suffix _ _).trans (skp_suf l))
  · exact (plist_fine h1 en _ _ _).suf (skp_suf l)
theorem ppair_fine {pv : List UInt8 → PR JV} (hv : ∀ l, Fine (pv l) l) (l : List UInt8) (acc : List (List UInt8 × JV)) : Fine (ppair pv l acc) l := by
  unfold ppair
  split
  · exact .of_err (by decide) (skp_suf l)
  · have h := (punq_fine (skp l)).suf (skp_suf l)
    cases hp : punq (skp l) with
    | err l' e => rw [hp] at h; exact .of_err (h.1 _ _ rfl) h.2
    | ok k l' =>
      rw [hp] at h
      simp only
      split
      · exact .of_err (by decide) (skp_suf l)
      · have h2 := (psign_fine 58 l').suf h.2
        cases hq : psign 58 l' with
        | err l2 e => rw [hq] at h2; exact .of_err (h2.1 _ _ rfl) h2.2
        | ok u l2 => rw [hq] at h2; exact ((hv l2).map _).suf h2.2
theorem pval_fine : ∀ (d : Nat) (l : List UInt8), Fine (pval d l) l
  | 0, l => by
    unfold pval
    split
    · exact .of_err (by decide) (nil_suf l)
    · exact .of_err (by decide) (skp_suf l)
  | d + 1, l => by
    have hd := ((List.drop_suffix 1 (skp l)).trans (skp_suf l))
    unfold pval
    split
    · exact .of_err (by decide) (nil_suf l)
    · split
      · exact ((punq_fine _).map _).suf (skp_suf l)
      · split
        · exact (pnum_fine _).suf (skp_suf l)
        · split
          · exact ((plist0_fine (fun l _ => pval_fine d l) 93 _).map _).suf hd
          · split
            · exact ((plist0_fine (ppair_fine (pval_fine d)) 125 _).map _).suf hd
            · exact (pword_fine _).suf (skp_suf l)

/-! ### A call's end -/
theorem fin_obs (s : St) (obs' junk : List AObj) (bufs' : List (Nat × Nat × TypeId)) (hl : obs'.length = s.obs.length)
    (ho : ∀ (i : Nat) (o : AObj), obs'[i]? = some o → s.obs[i]? = some o ∨ o.und s.obs.length bufs'.length = true) (hne : obs' = s.obs → bufs' = s.bufs) {v : V} (hv : v.plain.und s.obs.length 0 = true) :
    fin false s ⟨obs' ++ junk, bufs'⟩ v = (v.plain, ⟨obs', bufs'⟩) := by
  have ht : (obs' ++ junk).take s.obs.length = obs' := by rw [← hl, List.take_left]
  unfold fin
  simp only [Bool.false_eq_true, if_false, ht]
  split
  · rename_i h
    have h1 := h.1
    rw [ht] at h1
    rw [hne h1, h1, List.take_length]
  · rw [if_pos]
    refine ⟨fun i hi => ?_, hv⟩
    have hi' : i < obs'.length := by omega
    rcases ho i obs'[i] (List.getElem?_eq_getElem hi') with h | h
    · left
      rw [List.getElem?_append_left hi', List.getElem?_eq_getElem hi', h]
    · right
      intro o' ho'
      rw [List.getElem?_append_left hi', List.getElem?_eq_getElem hi'] at ho'
      cases ho'
      exact h

theorem sign2_spec {b l : List UInt8} (hb : b.length ≤ 1000000000) (hl : l <:+ b) {bad : Int} {r : Nat} {s : St} (hs : s.obs[r]? = some (rdr b l bad 0)) (c : UInt8) :
    call G 55 [.ptr r 0, .int .u8 c.toNat] s = some (.tup [], upR s r (match psign c l with
      | .ok _ l' => rdr b l' bad 0
      | .err l' e => rdr b l' ((b.length - l'.length : Nat) : Int) e)) := by
  rw [sign_spec hb hl hs c]
  unfold psign
  cases skp l with
  | nil => simp
  | cons x t =>
    simp only
    split <;> rfl

theorem call_ex {G : Gp} {f : FuncId} {F : AFunc} {args : List V} {s : St} {T : V → St → Prop} (hp : G.prim f = none) (ht : G.tab f = some F)
    (h : Out (evC G F.body (initEnv args) s) (fun e env s' => ∃ q, callK F s (some (e, env, s')) = some q ∧ T q.1 q.2)) : ∃ q, call G f args s = some q ∧ T q.1 q.2 := by
  obtain ⟨e, env, s', h, q, hq, hT⟩ := h
  exact ⟨q, call_out hp ht ⟨e, env, s', h, hq⟩, hT⟩

/-! ### Lists -/
section
variable {α : Type} {K : AObj → List α → St} {r f : Nat} {caps : List V} {b : List UInt8} {bad : Int} {p1 : List UInt8 → List α → PR α}

/-- What stays as it is while a list is read; what its elements' function does. -/
structure LK (K : AObj → List α → St) (r f : Nat) (caps : List V) (b : List UInt8) (bad : Int) (p1 : List UInt8 → List α → PR α) : Prop where
  get : ∀ o acc, (K o acc).obs[r]? = some o
  up : ∀ o o' acc, upR (K o acc) r o' = K o' acc
  cap : plainL caps = caps
  fin : ∀ o acc o' acc', o'.und 0 0 = true → fin false (K o acc) (K o' acc') (.tup []) = (.tup [], K o' acc')
  fine : ∀ l acc, Fine (p1 l acc) l
  one : ∀ l acc, l <:+ b → acc.length + l.length ≤ b.length → ∃ v o, call G f caps (K (rdr b l bad 0) acc) = some (.tup [], K o (acc ++ [v])) ∧ o.und 0 0 = true ∧ After b bad (p1 l acc) v o

/-- What a list leaves. -/
def AfterL (b : List UInt8) (bad : Int) (p : PR (List α)) (acc : List α) (o : AObj) : Prop :=
  o.und 0 0 = true ∧ After b bad p acc o

theorem listLoop (hK : LK K r f caps b bad p1) (hb : b.length ≤ 1000000000) (en : UInt8) : ∀ (k : Nat) (l : List UInt8) (acc : List α) (env : Env) (s : St), l.length < k → l <:+ b → acc.length + l.length ≤ b.length →
    env 0 = .ptr r 0 → env 1 = .int .u8 en.toNat → env 2 = .fn (.func f) [] caps → s = K (rdr b l bad 0) acc →
    Out (evC G (.loop false af28l0) env s) (fun ex env' s' => ex = .exit 0 ∧ env' 0 = .ptr r 0 ∧ env' 1 = .int .u8 en.toNat ∧
      ∃ acc' o, s' = K o acc' ∧ ((∃ l', l' <:+ b ∧ o = rdr b l' bad 0 ∧ plist p1 en k l acc = (psign en l').map fun _ => acc') ∨
        (∃ l' e, e ≠ 0 ∧ o.und 0 0 = true ∧ plist p1 en k l acc = .err l' e ∧ After b bad (.err l' e : PR (List α)) acc' o))) := by
  intro k
  induction k with
  | zero => intro l acc env s hk; omega
  | succ k ih =>
    intro l acc env s hk hl hlen h0 h1 h2 hs
    have hg := hK.get (rdr b l bad 0) acc
    unfold rdr at hg
    refine Out_loop G false _ _ af28l0.eq_1 _ _ _ ?_
    obtain ⟨v, o, hc, hou, haf⟩ := hK.one l acc hl hlen
    have hfine := hK.fine l acc
    subst hs
    simp only [rdr] at hc ⊢
    simp [h0, hg]
    refine Out_cond _ _ _ _ _ _ _ rfl (fun _ => ?_) (fun h => by cases h)
    simp [h0, h1, h2, hc, hK.cap]
    cases hp : p1 l acc with
    | err l' e =>
      rw [hp] at haf hfine
      have he := hfine.1 _ _ rfl
      have haf' := haf
      obtain ⟨at_, rfl⟩ := haf
      have hg2 := hK.get (.cells 45 [.str b, .int .i64 at_, .int .i64 ((b.length - l'.length : Nat) : Int), .int .i64 e]) (acc ++ [v])
      simp [hg2, he]
      refine Out_cond _ _ _ _ _ _ _ rfl (fun _ => ?_) (fun h => by simp at h)
      simp [h0, h1]
      refine ⟨_, _, rfl, .inr ⟨l', e, he, hou, ?_, haf'⟩⟩
      simp [plist, hp]
    | ok w l' =>
      rw [hp] at haf hfine
      obtain ⟨rfl, rfl⟩ := haf
      have hsf : l' <:+ l := hfine.2
      have hl' := hsf.trans hl
      have hg2 := hK.get (rdr b l' bad 0) (acc ++ [v])
      have hpk := peek_spec hb hl' (s := K (rdr b l' bad 0) (acc ++ [v])) hg2
      rw [hK.up] at hpk
      have hsl := (skp_suf l').trans hl'
      have hg3 := hK.get (rdr b (skp l') bad 0) (acc ++ [v])
      simp only [rdr] at hg2 hpk hg3 ⊢
      simp [h0, hg2, hpk]
      by_cases h44 : hd0 (skp l') = 44
      · have hne : skp l' ≠ [] := fun q => by rw [q] at h44; cases h44
        simp [h44]
        refine Out_cond _ _ _ _ _ _ _ rfl (fun h => by cases h) (fun _ => ?_)
        obtain ⟨c, t, hct⟩ := List.exists_cons_of_ne_nil hne
        rw [hct] at hg3 hsl h44 ⊢
        have hlt := suf_len hsl
        simp only [List.length_cons] at hlt
        have hll := suf_len ((skp_suf l').trans hsf)
        rw [hct] at hll
        simp only [List.length_cons] at hll
        have hw : IntKind.i64.wrap (((b.length - (t.length + 1) : Nat) : Int) + 1) = ((b.length - t.length : Nat) : Int) := by rw [wrap_in (by omega) (by omega)]; omega
        have hup := hK.up (rdr b (c :: t) bad 0) (rdr b t bad 0) (acc ++ [v])
        simp only [rdr, upR, List.length_cons] at hup hg3
        simp [h0, hg3, evStore, V.one, putL, hw, hup]
        refine Out.mono (ih t (acc ++ [v]) _ _ (by omega) (suf_tail hsl) (by simp; omega) ?_ ?_ ?_ ?_) ?_
        · simp [h0]
        · simp [h1]
        · simp [h2]
        · simp [rdr]
        · rintro ex env' s' ⟨q1, q2, q3, acc', o, q4, q5⟩
          refine ⟨q1, q2, q3, acc', o, q4, ?_⟩
          have e1 : plist p1 en (k + 1) l acc = plist p1 en k t (acc ++ [v]) := by
            rw [plist, hp]
            simp only
            rw [hct, if_pos h44]
            rfl
          rw [e1]
          exact q5
      · have hn : ¬ ((hd0 (skp l')).toNat : Int) = 44 := fun q => h44 (UInt8.toNat_inj.1 (by simpa using Int.natCast_inj.1 q))
        simp [hn]
        refine Out_cond _ _ _ _ _ _ _ rfl (fun _ => ?_) (fun h => by cases h)
        simp [h0, h1]
        refine ⟨acc ++ [v], _, rfl, .inl ⟨skp l', hsl, rfl, ?_⟩⟩
        rw [plist, hp]
        simp only
        rw [if_neg h44]
        unfold psign
        rw [skp_skp]

theorem list_spec (hK : LK K r f caps b bad p1) (hb : b.length ≤ 1000000000) (en : UInt8) {c : UInt8} {t : List UInt8} (hl : (c :: t) <:+ b) (hen : en ≠ 0) :
    ∃ acc' o, call G 28 [.ptr r 0, .int .u8 en.toNat, .fn (.func f) [] caps] (K (rdr b (c :: t) bad 0) []) = some (.tup [], K o acc') ∧ AfterL b bad (plist0 p1 en t) acc' o := by
  have hlen := suf_len hl
  simp only [List.length_cons] at hlen
  have hlt := suf_tail hl
  have hg := hK.get (rdr b (c :: t) bad 0) []
  have hw : IntKind.i64.wrap (((b.length - (t.length + 1) : Nat) : Int) + 1) = ((b.length - t.length : Nat) : Int) := by rw [wrap_in (by omega) (by omega)]; omega
  have hup := hK.up (rdr b (c :: t) bad 0) (rdr b t bad 0) []
  have hg2 := hK.get (rdr b t bad 0) []
  have hpk := peek_spec hb hlt hg2
  rw [hK.up] at hpk
  have hsl := (skp_suf t).trans hlt
  have hg3 := hK.get (rdr b (skp t) bad 0) []
  by_cases hh : hd0 (skp t) = en
  · have hne : skp t ≠ [] := fun q => by rw [q] at hh; exact hen hh.symm
    obtain ⟨x, u, hxu⟩ := List.exists_cons_of_ne_nil hne
    rw [hxu] at hg3 hsl hh hpk
    have hlu := suf_len hsl
    simp only [List.length_cons] at hlu
    have hw2 : IntKind.i64.wrap (((b.length - (u.length + 1) : Nat) : Int) + 1) = ((b.length - u.length : Nat) : Int) := by rw [wrap_in (by omega) (by omega)]; omega
    have hup2 := hK.up (rdr b (x :: u) bad 0) (rdr b u bad 0) []
    refine ⟨[], rdr b u bad 0, call_out (F := af28) rfl rfl ?_, rfl, ?_⟩
    · simp only [rdr, upR, List.length_cons] at hup hg hpk hg3 hup2 hg2 ⊢
      simp [af28, af28b, hg, evStore, V.one, putL, hw, hup, hpk, hh]
      refine Out_cond _ _ _ _ _ _ _ rfl (fun _ => ?_) (fun h => by cases h)
      simp [hg3, evStore, V.one, putL, hw2, hup2]
      exact hK.fin _ _ (rdr b u bad 0) _ rfl
    · unfold plist0
      rw [hxu, if_pos hh]
      exact ⟨rfl, rfl⟩
  · have hn : ¬ ((hd0 (skp t)).toNat : Int) = (en.toNat : Int) := fun q => hh (UInt8.toNat_inj.1 (by omega))
    have hsuf := suf_len (skp_suf t)
    have key : ∃ q, call G 28 [.ptr r 0, .int .u8 en.toNat, .fn (.func f) [] caps] (K (rdr b (c :: t) bad 0) []) = some q ∧ (fun v s' => v = V.tup [] ∧ ∃ acc' o, s' = K o acc' ∧ AfterL b bad (plist0 p1 en t) acc' o) q.1 q.2 := by
      refine call_ex (G := G) (f := 28) (F := af28) (T := fun v s' => v = V.tup [] ∧ ∃ acc' o, s' = K o acc' ∧ AfterL b bad (plist0 p1 en t) acc' o) rfl rfl ?_
      simp only [rdr, upR, List.length_cons] at hup hg hpk hg3 hg2 ⊢
      simp [af28, af28b, hg, evStore, V.one, putL, hw, hup, hpk, hn]
      refine Out_cond _ _ _ _ _ _ _ rfl (fun h => by simp at h) (fun _ => ?_)
      simp
      refine Out.mono (listLoop hK hb en (t.length + 1) (skp t) [] _ _ (by omega) hsl (by simp; omega) ?_ ?_ ?_ ?_) ?_
      · simp
      · simp
      · simp [hK.cap]
      · simp [rdr]
      rintro ex env' s' ⟨rfl, q0, q1, acc', o, rfl, ⟨l', hl', rfl, hp⟩ | ⟨l', e, he, hou, hp, haf⟩⟩
      · have hg4 := hK.get (rdr b l' bad 0) acc'
        have hsg := sign2_spec hb hl' hg4 en
        rw [hK.up] at hsg
        have hpl : plist0 p1 en t = (psign en l').map fun _ => acc' := by
          unfold plist0
          rw [if_neg hh, hp]
        rw [hpl]
        cases hps : psign en l' with
        | ok u l2 =>
          rw [hps] at hsg
          simp only [rdr] at hg4 hsg ⊢
          simp [q0, q1, hg4]
          refine Out_cond _ _ _ _ _ _ _ rfl (fun _ => ?_) (fun h => by simp at h)
          simp [q0, q1, hsg]
          exact ⟨_, _, hK.fin _ [] (rdr b l2 bad 0) acc' rfl, rfl, acc', _, rfl, rfl, rfl, rfl⟩
        | err l2 e =>
          rw [hps] at hsg
          have he := (psign_fine en l').1 _ _ hps
          simp only [rdr] at hg4 hsg ⊢
          simp [q0, q1, hg4]
          refine Out_cond _ _ _ _ _ _ _ rfl (fun _ => ?_) (fun h => by simp at h)
          simp [q0, q1, hsg]
          exact ⟨_, _, hK.fin _ [] (rdr b l2 _ e) acc' rfl, rfl, acc', _, rfl, rfl, _, rfl⟩
      · have hpl : plist0 p1 en t = .err l' e := by
          unfold plist0
          rw [if_neg hh, hp]
        rw [hpl]
        have haf' := haf
        obtain ⟨at_, rfl⟩ := haf
        have hg4 := hK.get (.cells 45 [.str b, .int .i64 at_, .int .i64 ((b.length - l'.length : Nat) : Int), .int .i64 e]) acc'
        simp [q0, q1, hg4, he]
        refine Out_cond _ _ _ _ _ _ _ rfl (fun h => by simp at h) (fun _ => ?_)
        simp
        exact ⟨_, _, hK.fin _ [] (.cells 45 _) acc' hou, rfl, acc', _, rfl, hou, haf'⟩
    obtain ⟨⟨v, s'⟩, hc, h1, acc', o, h2, h⟩ := key
    simp only at h1 h2
    subst h1 h2
    exact ⟨acc', o, hc, h⟩
end

end Go.Proofs.YtjdppboomglenaaGreatDoor.Eng

/-
  JSON, read: what stands while a list is read; its elements. No condition.
-/
namespace Go.Proofs.YtjdppboomglenaaGreatDoor.Eng
open Go
set_option linter.unusedSimpArgs false
set_option linter.unusedVariables false

attribute [local simp] evC_reg evC_regD evR_cons evR_nil runR_some regK_some evC_ret evC_skip evC_exit Out_seq Out_blk Out_some seqQ_norm seqQ_ret seqQ_exit blkQ_norm blkQ_ret blkQ_exit loopQ_norm loopQ_ret loopQ_exit
attribute [local simp] stepR evOp put upd_apply X.ev initEnv cells_agg cells_int cells_str cells_bool cells_sl cells_ptr cells_pnil cells_fn cells_map vc_length vc_take vc_plain vc_und toVs_plain toPs_plain toVs_und toPs_und takeN evBin isSh intBin strBin callK resOf packR V.plain plainL V.und undL scK kill dstsO dstsL dstsR ite_some ite_pair ite_vbool evUn evLoad evLen V.real finLoop_false quietK_false kill_none

/-! ### An append that is told later, step by step -/
theorem aparts_nil (env : Env) : aparts [] env = true := rfl
theorem aparts_lt (r : List (Nat × Nat)) (env : Env) (p q : Nat) (h : q < 1000000) : aparts ((p, q) :: r) env = (apart (env p) (env q) && aparts r env) := by
  simp only [aparts, List.all_cons, apart2]
  rw [if_pos h]
theorem aparts_un (r : List (Nat × Nat)) (env : Env) (p q : Nat) (h0 : ¬ q < 1000000) (h : q < 2000000) : aparts ((p, q) :: r) env = (under (env (q - 1000000)) (env p) && aparts r env) := by
  simp only [aparts, List.all_cons, apart2]
  rw [if_neg h0, if_pos h]
theorem aparts_tell (r : List (Nat × Nat)) (env : Env) (p q : Nat) (h : ¬ q < 2000000) : aparts ((p, q) :: r) env = aparts r env := by
  simp only [aparts, List.all_cons, apart2]
  rw [if_neg (by omega), if_neg h, Bool.true_and]
theorem tells_nil (env : Env) (s : St) : tells [] env s = (env, s) := rfl
theorem tells_skip (r : List (Nat × Nat)) (env : Env) (s : St) (p q : Nat) (h : q < 2000000) : tells ((p, q) :: r) env s = tells r env s := by
  simp only [tells]
  rw [if_pos h]
theorem tells_at (r : List (Nat × Nat)) (env : Env) (s : St) (p q : Nat) (h0 : ¬ q < 2000000) (h : q < 3000000) : tells ((p, q) :: r) env s = tells r env (toldAt (env p) (env (q - 2000000)) s) := by
  simp only [tells]
  rw [if_neg h0, if_pos h]
theorem pend_lt (by_ : Nat) (h : 0 < by_) : pendF < by_ + pendF := by omega
theorem pend_sub (by_ : Nat) : by_ + pendF - pendF = by_ := Nat.add_sub_cancel _ _
theorem stz_eq (obs : List AObj) (bufs : List (Nat × Nat × TypeId)) (k sz by_ : Nat) (t : TypeId) (x : V) (h0 : 0 < by_) (h1 : x.cells.length = sz) (h2 : x.cells.all V.one = true) :
    evStz sz (.spp bufs.length sz k) x ⟨obs, bufs ++ [(k, by_ + pendF, t)]⟩ = some (.epz bufs.length sz k x.cells, ⟨obs, bufs ++ [(k + 1, by_, t)]⟩) := by
  have e : (bufs ++ [(k, by_ + pendF, t)])[bufs.length]? = some (k, by_ + pendF, t) := by simp
  simp only [evStz, e]
  rw [if_pos ⟨trivial, pend_lt by_ h0, h1, trivial, h2⟩, pend_sub]
  simp
theorem told_eq (i sz : Nat) (xs cs : List V) (h1 : cs.length = sz) (h2 : cs.all V.one = true) : told (.slx i sz xs) (.epz i sz xs.length cs) = .sl (.buf i) (xs ++ [packV cs]) := by
  simp only [told]
  rw [if_pos ⟨trivial, trivial, trivial, h1, h2⟩]
theorem appz_nil (sz : Nat) (by_ : Nat) (t : TypeId) (o : Own) (z : V) (h : z.cells.length = sz) (hb : by_ ≤ room) (s : St) :
    evAppz sz (by_, t) (.sl .nil []) (.sl o [z]) s = some (.slx s.bufs.length sz [], ⟨s.obs, s.bufs ++ [(0, by_ + pendF, t)]⟩) := by
  simp only [evAppz]
  rw [if_pos ⟨rfl, by simp [fits, h], by simpa using hb⟩]
  simp
theorem appz_buf (sz : Nat) (by_ : Nat) (t : TypeId) (o : Own) (z : V) (xs : List V) (h : z.cells.length = sz) (hx : fits sz xs = true) (hb : (xs.length + 1) * by_ ≤ room) (obs : List AObj) (bufs : List (Nat × Nat × TypeId)) :
    evAppz sz (by_, t) (.sl (.buf bufs.length) xs) (.sl o [z]) ⟨obs, bufs ++ [(xs.length, by_, t)]⟩ = some (.slx bufs.length sz xs, ⟨obs, bufs ++ [(xs.length, by_ + pendF, t)]⟩) := by
  simp only [evAppz]
  rw [if_pos ⟨hx, by simp [fits, h], hb⟩]
  simp

theorem after_kind {α : Type} {b : List UInt8} {bad : Int} {p : PR α} {v : α} {o : AObj} (h : After b bad p v o) : o.kind = 0 := by
  cases p with
  | ok w l => obtain ⟨_, rfl⟩ := h; rfl
  | err l e => obtain ⟨_, rfl⟩ := h; rfl

/-- A reader's function, called so that it sees no more than the reader and what stands ahead of it. -/
theorem frCall {g : FuncId} {args : List V} {s : St} {r : Nat} {o0 : AObj} (hs : s.obs[r]? = some o0) (hn : topL args = r + 1) (ha : undL (r + 1) 0 args = true)
    (hb : ∀ o ∈ s.obs.take (r + 1), o.und (r + 1) 0 = true ∧ o.kind ≠ 4) {v : V} {o : AObj} {ex : List (Nat × Nat × TypeId)}
    (hc : call G g args ⟨s.obs.take (r + 1), []⟩ = some (v, ⟨(s.obs.take (r + 1)).set r o, ex⟩)) (hv : v.und (r + 1) 0 = true) (ho : o.und 0 0 = true) (hk : o.kind = o0.kind) :
    frK s args (call G g args (frIn s args)) = some (v, upR s r o) := by
  have hr := get_lt hs
  have hin : frIn s args = ⟨s.obs.take (r + 1), []⟩ := by simp only [frIn, hn]
  have hok : FrOk (topL args) s args (v, ⟨(s.obs.take (r + 1)).set r o, ex⟩) := by
    rw [hn]
    refine ⟨by omega, ha, hb, hv, ?_, ?_⟩
    · intro x hx
      rcases List.mem_or_eq_of_mem_set hx with h | h
      · exact (hb x h).1
      · rw [h]; exact AObj.und_mono (Nat.zero_le _) (Nat.zero_le _) _ ho
    · apply List.ext_getElem?
      intro i
      simp only [List.getElem?_map, List.getElem?_set, List.length_take]
      split
      · rename_i h
        subst h
        rw [if_pos (by omega), List.getElem?_take, if_pos (by omega), hs]
        simp [hk]
      · rfl
  rw [hin, hc, frK_some _ _ _ _ hok, hn]
  congr 2
  simp only [upR]
  congr 1
  apply List.ext_getElem?
  intro i
  rw [List.getElem?_append, List.getElem?_set]
  simp only [List.length_set, List.length_take, List.getElem?_set, List.getElem?_take, List.getElem?_drop]
  by_cases h1 : i < min (r + 1) s.obs.length
  · rw [if_pos h1]
    by_cases h2 : r = i
    · subst h2
      simp [hr]
      exact h1
    · rw [if_neg h2, if_neg h2, if_pos (by omega)]
  · rw [if_neg h1, if_neg (by omega)]
    congr 1
    omega

/-- What is said of the value's function at a depth. -/
def VSpec (b : List UInt8) (bad : Int) (d : Nat) : Prop :=
  ∀ (l : List UInt8) (s : St) (r : Nat), l <:+ b → s.obs.length = r + 1 → (∀ o ∈ s.obs, o.und (r + 1) 0 = true ∧ o.kind ≠ 4) → s.obs[r]? = some (rdr b l bad 0) →
    ∃ v o ex, call G 14 [.ptr r 0, .int .i64 d] s = some (toV v, ⟨s.obs.set r o, s.bufs ++ ex⟩) ∧ o.und 0 0 = true ∧ After b bad (pval d l) v o

theorem frVal {b : List UInt8} {bad : Int} {d : Nat} (hv : VSpec b bad d) {l : List UInt8} (hl : l <:+ b) {s : St} {r : Nat} (hs : s.obs[r]? = some (rdr b l bad 0))
    (hb : ∀ o ∈ s.obs.take (r + 1), o.und (r + 1) 0 = true ∧ o.kind ≠ 4) :
    ∃ v o, frK s [.ptr r 0, .int .i64 d] (call G 14 [.ptr r 0, .int .i64 d] (frIn s [.ptr r 0, .int .i64 d])) = some (toV v, upR s r o) ∧ o.und 0 0 = true ∧ After b bad (pval d l) v o := by
  have hr := get_lt hs
  obtain ⟨v, o, ex, h1, h2, h3⟩ := hv l ⟨s.obs.take (r + 1), []⟩ r hl (by simp; omega) hb (by simp only; rw [List.getElem?_take, if_pos (by omega)]; exact hs)
  exact ⟨v, o, frCall hs (by simp [topL, V.top]) (by simp) hb h1 (by simp) h2 (after_kind h3), h2, h3⟩

/-! ### What stands while a list is read -/
def ownOf {α : Type} (bufs : List (Nat × Nat × TypeId)) (acc : List α) : Own := if acc = [] then .nil else .buf bufs.length
def exOf {α : Type} (by_ : Nat × TypeId) (acc : List α) : List (Nat × Nat × TypeId) := if acc = [] then [] else [(acc.length, by_)]

def KK {α : Type} (base : List AObj) (bufs : List (Nat × Nat × TypeId)) (r : Nat) (d : Int) (mk : V → List V) (enc : List α → List V) (by_ : Nat × TypeId) (o : AObj) (acc : List α) : St :=
  ⟨base.set r o ++ [.cells 43 [.ptr r 0], .cells 3 [.int .i64 d], .cells 26 zV, .cells 26 (mk (.sl (ownOf bufs acc) (enc acc)))], bufs ++ exOf by_ acc⟩

section
variable {α : Type} {base : List AObj} {bufs : List (Nat × Nat × TypeId)} {r : Nat} {d : Int} {mk : V → List V} {enc : List α → List V} {by_ : Nat × TypeId}

theorem KK_r (hb : base.length = r + 1) (o : AObj) (acc : List α) : (KK base bufs r d mk enc by_ o acc).obs[r]? = some o := by
  simp only [KK]
  rw [List.getElem?_append_left (by simp; omega), List.getElem?_set_self (by omega)]
theorem KK_out (hb : base.length = r + 1) (o : AObj) (acc : List α) : (KK base bufs r d mk enc by_ o acc).obs[r + 4]? = some (.cells 26 (mk (.sl (ownOf bufs acc) (enc acc)))) := by
  simp only [KK]
  rw [List.getElem?_append_right (by simp; omega)]
  simp [hb, show r + 4 - (r + 1) = 3 by omega]
theorem KK_box (hb : base.length = r + 1) (o : AObj) (acc : List α) : (KK base bufs r d mk enc by_ o acc).obs[r + 1]? = some (.cells 43 [.ptr r 0]) := by
  simp only [KK]
  rw [List.getElem?_append_right (by simp; omega)]
  simp [hb]
theorem KK_deep (hb : base.length = r + 1) (o : AObj) (acc : List α) : (KK base bufs r d mk enc by_ o acc).obs[r + 2]? = some (.cells 3 [.int .i64 d]) := by
  simp only [KK]
  rw [List.getElem?_append_right (by simp; omega)]
  simp [hb, show r + 2 - (r + 1) = 1 by omega]
theorem KK_up (hb : base.length = r + 1) (o o' : AObj) (acc : List α) : upR (KK base bufs r d mk enc by_ o acc) r o' = KK base bufs r d mk enc by_ o' acc := by
  simp only [KK, upR]
  rw [List.set_append_left _ _ (by simp; omega), List.set_set]
theorem KK_take (hb : base.length = r + 1) (o : AObj) (acc : List α) : (KK base bufs r d mk enc by_ o acc).obs.take (r + 1) = base.set r o := by
  simp only [KK]
  rw [List.take_left' (by simp [hb])]
theorem KK_len (hb : base.length = r + 1) (o : AObj) (acc : List α) : (KK base bufs r d mk enc by_ o acc).obs.length = r + 5 := by
  simp [KK, hb]

theorem KK_fin (hb : base.length = r + 1) (hmk : ∀ x y, mk x = mk y → x = y) (hund : ∀ (acc : List α) (n m : Nat), (acc ≠ [] → bufs.length < m) → undL n m (mk (.sl (ownOf bufs acc) (enc acc))) = true) (henc : ∀ acc acc', enc acc = enc acc' → acc = acc') (o o' : AObj) (acc acc' : List α) (ho : o'.und 0 0 = true) :
    fin false (KK base bufs r d mk enc by_ o acc) (KK base bufs r d mk enc by_ o' acc') (.tup []) = (.tup [], KK base bufs r d mk enc by_ o' acc') := by
  have h := fin_obs (KK base bufs r d mk enc by_ o acc) (KK base bufs r d mk enc by_ o' acc').obs [] (KK base bufs r d mk enc by_ o' acc').bufs (by rw [KK_len hb, KK_len hb]) ?_ ?_ (v := .tup []) rfl
  · simpa using h
  · intro i x hx
    by_cases h1 : i < base.length
    · by_cases h2 : i = r
      · subst h2
        rw [KK_r hb] at hx
        cases hx
        exact .inr (AObj.und_mono (Nat.zero_le _) (Nat.zero_le _) _ ho)
      · left
        simp only [KK] at hx ⊢
        rw [List.getElem?_append_left (by simpa using h1), List.getElem?_set_ne (Ne.symm h2)] at hx ⊢
        exact hx
    · have h3 : i < r + 5 := by
        have := (List.getElem?_eq_some_iff.1 hx).1
        rwa [KK_len hb] at this
      have h4 : i = r + 1 ∨ i = r + 2 ∨ i = r + 3 ∨ i = r + 4 := by omega
      rcases h4 with rfl | rfl | rfl | rfl
      · left; rw [KK_box hb] at hx ⊢; exact hx
      · left; rw [KK_deep hb] at hx ⊢; exact hx
      · left
        simp only [KK] at hx ⊢
        rw [List.getElem?_append_right (by simp; omega)] at hx ⊢
        simp [hb, show r + 3 - (r + 1) = 2 by omega] at hx ⊢
        exact hx
      · right
        rw [KK_out hb] at hx
        cases hx
        exact hund acc' _ _ (fun hne => by simp [KK, exOf, hne])
  · intro he
    have h1 := KK_out (d := d) (mk := mk) (enc := enc) (by_ := by_) (bufs := bufs) hb o' acc'
    rw [he, KK_out hb] at h1
    simp only [Option.some.injEq, AObj.cells.injEq, true_and] at h1
    have h2 := hmk _ _ h1
    simp only [V.sl.injEq] at h2
    have := henc _ _ h2.2
    subst this
    rfl
end

end Go.Proofs.YtjdppboomglenaaGreatDoor.Eng

/-
  JSON, read: a list's element. No condition.
-/
namespace Go.Proofs.YtjdppboomglenaaGreatDoor.Eng
open Go
set_option linter.unusedSimpArgs false
set_option linter.unusedVariables false

attribute [local simp] evC_reg evC_regD evR_cons evR_nil runR_some regK_some evC_ret evC_skip evC_exit Out_seq Out_blk Out_some seqQ_norm seqQ_ret seqQ_exit blkQ_norm blkQ_ret blkQ_exit loopQ_norm loopQ_ret loopQ_exit
attribute [local simp] stepR evOp put upd_apply X.ev initEnv cells_agg cells_int cells_str cells_bool cells_sl cells_ptr cells_pnil cells_fn cells_map vc_length vc_take vc_plain vc_und toVs_plain toPs_plain toVs_und toPs_und takeN evBin isSh intBin strBin callK resOf packR V.plain plainL V.und undL scK kill dstsO dstsL dstsR ite_some ite_pair ite_vbool evUn evLoad evLen V.real finLoop_false quietK_false kill_none

def mkL (x : V) : List V := [.int .i64 4, .int .i64 0, .str [], x, .sl .nil []]
def mkP (x : V) : List V := [.int .i64 5, .int .i64 0, .str [], .sl .nil [], x]

theorem fits_toVs (l : List JV) : fits 5 (toVs l) = true := by cases l <;> simp [toVs, fits]
theorem fits_toPs (l : List (List UInt8 × JV)) : fits 6 (toPs l) = true := by cases l <;> simp [toPs, fits]
theorem toVs_app (l : List JV) (v : JV) : toVs (l ++ [v]) = toVs l ++ [toV v] := by induction l <;> simp [toVs, *]
theorem toPs_app (l : List (List UInt8 × JV)) (v : List UInt8 × JV) : toPs (l ++ [v]) = toPs l ++ [pv v] := by induction l <;> simp [toPs, *]
theorem fits1 (sz : Nat) (v : V) : fits sz [v] = (v.cells.length == sz) := rfl
theorem fits0 (sz : Nat) : fits sz [] = true := rfl
theorem cells_slx (i sz : Nat) (xs : List V) : V.cells (.slx i sz xs) = [.slx i sz xs] := rfl
theorem packV_vc (v : JV) : packV (vc v) = toV v := by cases v; simp [vc, packV]
theorem packV_pv (k : List UInt8) (v : JV) : packV (.str k :: vc v) = pv (k, v) := by cases v; simp [vc, packV]

theorem base_ok {base : List AObj} {r : Nat} {o : AObj} (hbas : ∀ o ∈ base, o.und (r + 1) 0 = true ∧ o.kind ≠ 4) (h : o.und 0 0 = true) (hk : o.kind ≠ 4) : ∀ x ∈ base.set r o, x.und (r + 1) 0 = true ∧ x.kind ≠ 4 := by
  intro x hx
  rcases List.mem_or_eq_of_mem_set hx with q | q
  · exact hbas x q
  · rw [q]; exact ⟨AObj.und_mono (Nat.zero_le _) (Nat.zero_le _) _ h, hk⟩

theorem mkL_inj (x y : V) (h : mkL x = mkL y) : x = y := by simp [mkL] at h; exact h
theorem mkP_inj (x y : V) (h : mkP x = mkP y) : x = y := by simp [mkP] at h; exact h
theorem mkL_und (bufs : List (Nat × Nat × TypeId)) (acc : List JV) (n m : Nat) (h : acc ≠ [] → bufs.length < m) : undL n m (mkL (.sl (ownOf bufs acc) (toVs acc))) = true := by
  unfold ownOf
  split
  · simp [mkL]
  · rename_i hn
    simp [mkL, h hn]
theorem mkP_und (bufs : List (Nat × Nat × TypeId)) (acc : List (List UInt8 × JV)) (n m : Nat) (h : acc ≠ [] → bufs.length < m) : undL n m (mkP (.sl (ownOf bufs acc) (toPs acc))) = true := by
  unfold ownOf
  split
  · simp [mkP]
  · rename_i hn
    simp [mkP, h hn]
mutual
theorem vc_inj : ∀ v w : JV, vc v = vc w → v = w
  | .mk k n s l f, .mk k' n' s' l' f', h => by
    simp only [vc, List.cons.injEq, V.int.injEq, V.str.injEq, V.sl.injEq, true_and, and_true] at h
    obtain ⟨rfl, rfl, rfl, h1, h2⟩ := h
    rw [toVs_inj l l' h1, toPs_inj f f' h2]
theorem toVs_inj : ∀ l m : List JV, toVs l = toVs m → l = m
  | [], [], _ => rfl
  | [], _ :: _, h => by simp [toVs] at h
  | _ :: _, [], h => by simp [toVs] at h
  | v :: l, w :: m, h => by
    simp only [toVs, List.cons.injEq, V.agg.injEq] at h
    rw [vc_inj v w h.1, toVs_inj l m h.2]
theorem toPs_inj : ∀ l m : List (List UInt8 × JV), toPs l = toPs m → l = m
  | [], [], _ => rfl
  | [], _ :: _, h => by simp [toPs] at h
  | _ :: _, [], h => by simp [toPs] at h
  | (k, v) :: l, (k', w) :: m, h => by
    simp only [toPs, List.cons.injEq, V.agg.injEq, V.str.injEq] at h
    obtain ⟨⟨rfl, h1⟩, h2⟩ := h
    rw [vc_inj v w h1, toPs_inj l m h2]
end

section
variable {base : List AObj} {bufs : List (Nat × Nat × TypeId)} {r d : Nat} {b : List UInt8} {bad : Int}

abbrev KL (base : List AObj) (bufs : List (Nat × Nat × TypeId)) (r d : Nat) : AObj → List JV → St := KK base bufs r ((d + 1 : Nat) : Int) mkL toVs (80, 26)
abbrev KP (base : List AObj) (bufs : List (Nat × Nat × TypeId)) (r d : Nat) : AObj → List (List UInt8 × JV) → St := KK base bufs r ((d + 1 : Nat) : Int) mkP toPs (96, 49)

theorem one54 (hv : VSpec b bad d) (hd : d ≤ 1000) (hb : base.length = r + 1) (hbas : ∀ o ∈ base, o.und (r + 1) 0 = true ∧ o.kind ≠ 4) (hbl : b.length ≤ 1000000000)
    (l : List UInt8) (acc : List JV) (hl : l <:+ b) (hlen : acc.length + l.length ≤ b.length) :
    ∃ v o, call G 29 [.ptr (r + 4) 0, .ptr (r + 1) 0, .ptr (r + 2) 0] (KL base bufs r d (rdr b l bad 0) acc) = some (.tup [], KL base bufs r d o (acc ++ [v])) ∧ o.und 0 0 = true ∧ After b bad (pval d l) v o := by
  have hroom : room = 140737488355328 := by decide
  have hg : (KL base bufs r d (rdr b l bad 0) acc).obs[r]? = some (rdr b l bad 0) := KK_r hb _ _
  obtain ⟨v, o, hfr, ho, haf⟩ := frVal hv hl hg (by rw [KK_take hb]; exact base_ok hbas rfl (by simp [rdr, AObj.kind]))
  have hup : upR (KL base bufs r d (rdr b l bad 0) acc) r o = KL base bufs r d o acc := KK_up hb _ _ _
  rw [hup] at hfr
  refine ⟨v, o, call_out (F := af29) rfl rfl ?_, ho, haf⟩
  have hw : IntKind.i64.wrap (d : Int) = (d : Int) := wrap_in (by omega) (by omega)
  have h1 : (KL base bufs r d (rdr b l bad 0) acc).obs[r + 4]? = some (.cells 26 [.int .i64 4, .int .i64 0, .str [], .sl (ownOf bufs acc) (toVs acc), .sl .nil []]) := KK_out hb _ _
  have h2 : (KL base bufs r d (rdr b l bad 0) acc).obs[r + 1]? = _ := KK_box hb _ _
  have h3 : (KL base bufs r d (rdr b l bad 0) acc).obs[r + 2]? = _ := KK_deep hb _ _
  have h4 : (KL base bufs r d o acc).obs[r + 4]? = some (.cells 26 [.int .i64 4, .int .i64 0, .str [], .sl (ownOf bufs acc) (toVs acc), .sl .nil []]) := KK_out hb _ _
  have hfin : fin false (KL base bufs r d (rdr b l bad 0) acc) (KL base bufs r d o (acc ++ [v])) (.tup []) = _ := KK_fin hb mkL_inj (mkL_und bufs) toVs_inj (rdr b l bad 0) o acc (acc ++ [v]) ho
  have hlt : r + 4 < (KL base bufs r d o acc).obs.length := get_lt h4
  have hset : ∀ X, ((KL base bufs r d o acc).obs.set (r + 4) X)[r + 4]? = some X := fun X => by rw [List.getElem?_set_self hlt]
  have hap : evAppz 5 (80, 26) (.sl (ownOf bufs acc) (toVs acc)) (.sl .no [.agg [.int .i64 0, .int .i64 0, .str [], .sl .no [], .sl .no []]]) (KL base bufs r d o acc) = some (.slx bufs.length 5 (toVs acc), ⟨(KL base bufs r d o acc).obs, bufs ++ [(acc.length, 80 + pendF, 26)]⟩) := by
    have hbf : (KL base bufs r d o acc) = ⟨(KL base bufs r d o acc).obs, bufs ++ exOf (80, 26) acc⟩ := rfl
    rw [hbf]
    by_cases ha : acc = []
    · subst ha
      simp only [ownOf, exOf, if_true, List.append_nil, toVs]
      exact appz_nil 5 80 26 .no _ rfl (by rw [hroom]; decide) _
    · simp only [ownOf, exOf, if_neg ha]
      have := appz_buf 5 80 26 .no (.agg [.int .i64 0, .int .i64 0, .str [], .sl .no [], .sl .no []]) (toVs acc) rfl (fits_toVs acc) (by rw [toVs_length, hroom]; omega) (KL base bufs r d o acc).obs bufs
      rw [toVs_length] at this
      exact this
  have hst : evStz 5 (.spp bufs.length 5 acc.length) (toV v) ⟨(KL base bufs r d o acc).obs, bufs ++ [(acc.length, 80 + pendF, 26)]⟩ = some (.epz bufs.length 5 acc.length (vc v), ⟨(KL base bufs r d o acc).obs, bufs ++ [(acc.length + 1, 80, 26)]⟩) :=
    stz_eq (KL base bufs r d o acc).obs bufs acc.length 5 80 26 (toV v) (by decide) (vc_length v) (vc_one v)
  have htd : told (.slx bufs.length 5 (toVs acc)) (.epz bufs.length 5 acc.length (vc v)) = .sl (.buf bufs.length) (toVs acc ++ [toV v]) := by
    have := told_eq bufs.length 5 (toVs acc) (vc v) (vc_length v) (vc_one v)
    rw [toVs_length, packV_vc] at this
    exact this
  have he : (⟨(KL base bufs r d o acc).obs.set (r + 4) (.cells 26 [.int .i64 4, .int .i64 0, .str [], .sl (.buf bufs.length) (toVs acc ++ [toV v]), .sl .nil []]), bufs ++ [(acc.length + 1, 80, 26)]⟩ : St) = KL base bufs r d o (acc ++ [v]) := by
    simp [KK, hb, ownOf, exOf, toVs_app, mkL, show r + 4 - (r + 1) = 3 by omega]
  simp [af29, af29b, evC_regDA, regKA_some, h1, h2, h3, hw, hfr, fillS, V.one, ↓h4, hap, hst, evStore, putL, aparts_nil, aparts_un, aparts_tell, tells_nil, tells_skip, tells_at, under, V.top, toldAt, htd, cells_slx, ↓hset, toVs_length]
  rw [he]
  exact hfin
end

end Go.Proofs.YtjdppboomglenaaGreatDoor.Eng

/-
  JSON, read: a pair. No condition.
-/
namespace Go.Proofs.YtjdppboomglenaaGreatDoor.Eng
open Go
set_option linter.unusedSimpArgs false
set_option linter.unusedVariables false

attribute [local simp] evC_reg evC_regD evR_cons evR_nil runR_some regK_some evC_ret evC_skip evC_exit Out_seq Out_blk Out_some seqQ_norm seqQ_ret seqQ_exit blkQ_norm blkQ_ret blkQ_exit loopQ_norm loopQ_ret loopQ_exit
attribute [local simp] stepR evOp put upd_apply X.ev initEnv cells_agg cells_int cells_str cells_bool cells_sl cells_ptr cells_pnil cells_fn cells_map vc_length vc_take vc_plain vc_und toVs_plain toPs_plain toVs_und toPs_und takeN evBin isSh intBin strBin callK resOf packR V.plain plainL V.und undL scK kill dstsO dstsL dstsR ite_some ite_pair ite_vbool evUn evLoad evLen V.real finLoop_false quietK_false kill_none

abbrev zP : List V := [.str [], .int .i64 0, .int .i64 0, .str [], .sl .nil [], .sl .nil []]

theorem keyEq_spec (x : List UInt8 × JV) (key : List UInt8) (S : St) (n : Nat) (hk : S.obs[n]? = some (.cells 9 [.str key])) :
    call G 56 [pv x, .ptr n 0] S = some (.bool (decide (x.1 = key)), S) := by
  have hn := get_lt hk
  refine call_out (F := af56) rfl rfl ?_
  have e1 : ∀ o : AObj, (S.obs ++ [o])[n]? = some (.cells 9 [.str key]) := fun o => by rw [List.getElem?_append_left hn]; exact hk
  have e2 : ∀ o : AObj, (S.obs ++ [o])[S.obs.length]? = some o := fun o => by simp
  simp [af56, af56b, e1, e2]
  have hf : fin false S ⟨S.obs ++ [.cells 49 (.str x.1 :: vc x.2)], S.bufs⟩ (.bool (decide (x.1 = key))) = (.bool (decide (x.1 = key)), S) := by
    unfold fin
    simp
  exact hf

theorem fail_any {b : List UInt8} {a c : V} {e at_ e2 : Int} {r : Nat} {s : St} (hs : s.obs[r]? = some (.cells 45 [.str b, a, c, .int .i64 e])) (he : e ≠ 0) :
    call G 16 [.ptr r 0, .int .i64 at_, .int .i64 e2] s = some (.tup [], s) := by
  refine call_out (F := af16) rfl rfl ?_
  simp [af16, af16b, hs]
  refine Out_cond _ _ _ _ _ _ _ rfl (fun h => ?_) (fun h => ?_)
  · simp at h
    exact absurd h he
  · simp [he]
    rw [fin_id s (v := .tup []) rfl]
    rfl

section
variable {b : List UInt8} {bad : Int} {d r : Nat} {s : St}

theorem setX (hr : r < s.obs.length) (o : AObj) (X : List AObj) : (s.obs.set r o ++ X)[r]? = some o := by
  rw [List.getElem?_append_left (by simpa using hr), List.getElem?_set_self hr]
theorem setXX (hr : r < s.obs.length) (o o' : AObj) (X : List AObj) : (s.obs.set r o ++ X).set r o' = s.obs.set r o' ++ X := by
  rw [List.set_append_left _ _ (by simpa using hr), List.set_set]

theorem pair_spec (hv : VSpec b bad d) (hd : d ≤ 1000) (hb : b.length ≤ 1000000000) {l : List UInt8} (hl : l <:+ b) (acc : List (List UInt8 × JV)) (hacc : acc.length ≤ b.length)
    (hlen : s.obs.length = r + 1) (hbas : ∀ o ∈ s.obs, o.und (r + 1) 0 = true ∧ o.kind ≠ 4) (hs : s.obs[r]? = some (rdr b l bad 0)) :
    ∃ p o, call G 31 [.ptr r 0, .sl .no (toPs acc), .int .i64 d] s = some (pv p, upR s r o) ∧ o.und 0 0 = true ∧ After b bad (ppair (pval d) l acc) p o := by
  have hr : r < s.obs.length := by omega
  have hs0 : s.obs = s.obs.set r (rdr b l bad 0) := by
    have := set_same hs
    simp only [upR] at this
    exact (congrArg St.obs this).symm
  have hsl := (skp_suf l).trans hl
  have hz : ∀ (o : AObj) (junk : List AObj), o.und 0 0 = true → fin false s ⟨s.obs.set r o ++ junk, s.bufs⟩ (.agg zP) = (pv ([], jNull), upR s r o) := by
    intro o junk ho
    have := fin_up0 s hr (AObj.und_mono (Nat.zero_le _) (Nat.zero_le _) _ ho) junk (v := .agg zP) (by simp)
    rw [this]
    simp [jNull, vc, toVs, toPs]
  -- what the first steps do
  have hpk : ∀ X, call G 25 [.ptr r 0] ⟨s.obs ++ X, s.bufs⟩ = some (.int .u8 (hd0 (skp l)).toNat, ⟨s.obs.set r (rdr b (skp l) bad 0) ++ X, s.bufs⟩) := by
    intro X
    have := peek_spec hb hl (s := ⟨s.obs ++ X, s.bufs⟩) (r := r) (bad := bad) (e := 0) (by simp only; rw [List.getElem?_append_left hr]; exact hs)
    simp only [upR] at this
    rw [List.set_append_left _ _ hr] at this
    exact this
  have hfail : ∀ (l' : List UInt8) (X : List AObj) (at_ e2 : Int), call G 16 [.ptr r 0, .int .i64 at_, .int .i64 e2] ⟨s.obs.set r (rdr b l' bad 0) ++ X, s.bufs⟩ = some (.tup [], ⟨s.obs.set r (rdr b l' at_ e2) ++ X, s.bufs⟩) := by
    intro l' X at_ e2
    have := fail_spec (b := b) (l := l') (bad := bad) (e := 0) (at_ := at_) (e2 := e2) (r := r) (s := ⟨s.obs.set r (rdr b l' bad 0) ++ X, s.bufs⟩) (setX hr _ _)
    simp only [upR, setXX hr, if_true] at this
    exact this
  by_cases h34 : hd0 (skp l) = 34
  · generalize hm : skp l = m at *
    obtain ⟨o1, hst, ho1, hmt⟩ := str_spec hb hsl (bad := bad) (r := r) (s := ⟨s.obs.set r (rdr b m bad 0) ++ [.cells 49 zP], s.bufs⟩) (setX hr _ _)
    simp only [upR, setXX hr] at hst
    have hfine := punq_fine m
    have hcon : ∀ key, call G 40 [.sl .no (toPs acc), .fn (.func 56) [] [.ptr (s.obs.length + 1) 0]] ⟨s.obs.set r o1 ++ [.cells 49 zP, .cells 9 [.str key]], s.bufs⟩ =
        some (.bool (acc.any fun p => decide (p.1 = key)), ⟨s.obs.set r o1 ++ [.cells 49 zP, .cells 9 [.str key]], s.bufs⟩) := fun key =>
      contains43 acc (by omega) 56 [.ptr (s.obs.length + 1) 0] rfl (fun p => decide (p.1 = key)) _ (fun x _ => keyEq_spec x key _ _ (by simp))
    have hg0 := setX hr (rdr b m bad 0) [.cells 49 zP]
    have hle : r ≤ s.obs.length := by omega
    cases hp : punq m with
    | err l' e =>
      rw [hp] at hst hmt hfine
      have he := hfine.1 _ _ rfl
      obtain ⟨at_, rfl⟩ := hmt he
      have hg1 := setX hr (.cells 45 [.str b, .int .i64 at_, .int .i64 ((b.length - l'.length : Nat) : Int), .int .i64 e]) [.cells 49 zP, .cells 9 [.str []]]
      have hf1 := fun x y => fail_any (at_ := x) (e2 := y) (s := ⟨s.obs.set r (.cells 45 [.str b, .int .i64 at_, .int .i64 ((b.length - l'.length : Nat) : Int), .int .i64 e]) ++ [.cells 49 zP, .cells 9 [.str []]], s.bufs⟩) hg1 he
      refine ⟨([], jNull), .cells 45 [.str b, .int .i64 at_, .int .i64 ((b.length - l'.length : Nat) : Int), .int .i64 e], call_out (F := af31) rfl rfl ?_, rfl, ?_⟩
      · simp only [rdr, prT] at hg0 hpk hst
        simp [af31, af31b, hpk, h34]
        refine Out_cond _ _ _ _ _ _ _ rfl (fun h => by cases h) (fun _ => ?_)
        simp [↓hg0, hst, evStore, V.one, putL, hcon]
        refine Out.mono (Q := fun ex env' s' => ex = .norm ∧ env' 0 = .ptr r 0 ∧ env' 6 = .ptr s.obs.length 0 ∧ s' = ⟨s.obs.set r (.cells 45 [.str b, .int .i64 at_, .int .i64 ((b.length - l'.length : Nat) : Int), .int .i64 e]) ++ [.cells 49 zP, .cells 9 [.str []]], s.bufs⟩) ?_ ?_
        · refine Out_cond _ _ _ _ _ _ _ rfl (fun _ => ?_) (fun _ => ?_)
          · simp [hf1]
          · simp
        · rintro ex env' s' ⟨rfl, q0, q6, rfl⟩
          simp [q0, q6, ↓hg1, he]
          refine Out_cond _ _ _ _ _ _ _ rfl (fun _ => ?_) (fun h => by cases h)
          simp [q0, q6, evStore, V.one, putL, fillL]
          exact hz (.cells 45 _) [.cells 49 _, .cells 9 _] rfl
      · have : ppair (pval d) l acc = .err l' e := by
          unfold ppair
          rw [hm, if_neg (by simpa using h34), hp]
        rw [this]
        exact ⟨_, rfl⟩
    | ok k l' =>
      rw [hp] at hst hmt hfine
      simp only at hmt
      subst hmt
      have hl' : l' <:+ b := (show l' <:+ m from hfine.2).trans hsl
      simp only [prT] at hst
      have hg1 := setX hr (rdr b l' bad 0) [.cells 49 zP, .cells 9 [.str k]]
      have hco := hcon k
      have hnz : ∀ (l2 : List UInt8) (at_ e : Int), rdr b l2 at_ e = .cells 45 [.str b, .int .i64 ((b.length - l2.length : Nat) : Int), .int .i64 at_, .int .i64 e] := fun _ _ _ => rfl
      by_cases ha : (acc.any fun p => decide (p.1 = k)) = true
      · have hf := hfail l' [.cells 49 zP, .cells 9 [.str k]] ((b.length - m.length : Nat) : Int) 7
        have hg2 := setX hr (rdr b l' ((b.length - m.length : Nat) : Int) 7) [.cells 49 zP, .cells 9 [.str k]]
        refine ⟨([], jNull), rdr b l' ((b.length - m.length : Nat) : Int) 7, call_out (F := af31) rfl rfl ?_, rfl, ?_⟩
        · rw [ha] at hco
          simp only [rdr] at hg0 hpk hst hf hg1 hg2 hco ⊢
          simp [af31, af31b, hpk, h34]
          refine Out_cond _ _ _ _ _ _ _ rfl (fun h => by cases h) (fun _ => ?_)
          simp [↓hg0, hst, evStore, V.one, putL, hco]
          refine Out_cond _ _ _ _ _ _ _ rfl (fun _ => ?_) (fun h => by cases h)
          simp [hf, ↓hg2]
          refine Out_cond _ _ _ _ _ _ _ rfl (fun _ => ?_) (fun h => by cases h)
          simp [evStore, V.one, putL, fillL]
          exact hz (.cells 45 _) [.cells 49 _, .cells 9 _] rfl
        · have : ppair (pval d) l acc = .err m 7 := by
            unfold ppair
            rw [hm, if_neg (by simpa using h34), hp]
            simp only
            rw [if_pos ha]
          rw [this]
          exact ⟨_, rfl⟩
      · have ha' : (acc.any fun p => decide (p.1 = k)) = false := Bool.eq_false_iff.2 ha
        rw [ha'] at hco
        have hsg := sign2_spec hb hl' (bad := bad) (r := r) (s := ⟨s.obs.set r (rdr b l' bad 0) ++ [.cells 49 zP, .cells 9 [.str k]], s.bufs⟩) hg1 58
        simp only [upR, setXX hr] at hsg
        have hpp : ppair (pval d) l acc = match psign 58 l' with | .err l2 e => .err l2 e | .ok _ l2 => (pval d l2).map fun v => (k, v) := by
          unfold ppair
          rw [hm, if_neg (by simpa using h34), hp]
          simp only
          rw [if_neg ha]
          try (cases psign 58 l' <;> rfl)
        have hsf := psign_fine 58 l'
        cases hps : psign 58 l' with
        | err l2 e =>
          rw [hps] at hsg hpp hsf
          have he := hsf.1 _ _ rfl
          have hg2 := setX hr (rdr b l2 ((b.length - l2.length : Nat) : Int) e) [.cells 49 zP, .cells 9 [.str k]]
          refine ⟨([], jNull), rdr b l2 ((b.length - l2.length : Nat) : Int) e, call_out (F := af31) rfl rfl ?_, rfl, ?_⟩
          · simp only [rdr] at hg0 hpk hst hg1 hg2 hco hsg ⊢
            simp [af31, af31b, hpk, h34]
            refine Out_cond _ _ _ _ _ _ _ rfl (fun h => by cases h) (fun _ => ?_)
            simp [↓hg0, hst, evStore, V.one, putL, hco]
            refine Out_cond _ _ _ _ _ _ _ rfl (fun h => by cases h) (fun _ => ?_)
            simp [↓hg1]
            refine Out_cond _ _ _ _ _ _ _ rfl (fun h => by cases h) (fun _ => ?_)
            simp at hsg
            simp [hsg, ↓hg2, he]
            refine Out_cond _ _ _ _ _ _ _ rfl (fun _ => ?_) (fun h => by cases h)
            simp [evStore, V.one, putL, fillL]
            exact hz (.cells 45 _) [.cells 49 _, .cells 9 _] rfl
          · rw [hpp]
            exact ⟨_, rfl⟩
        | ok u l2 =>
          rw [hps] at hsg hpp hsf
          have hl2 : l2 <:+ b := (show l2 <:+ l' from hsf.2).trans hl'
          have hg2 := setX hr (rdr b l2 bad 0) [.cells 49 zP, .cells 9 [.str k]]
          obtain ⟨v, o, hfr, ho, haf⟩ := frVal hv hl2 (r := r) (s := ⟨s.obs.set r (rdr b l2 bad 0) ++ [.cells 49 zP, .cells 9 [.str k]], s.bufs⟩) hg2 (by
            simp only
            rw [List.take_left' (by simp [hlen])]
            exact base_ok hbas rfl (by simp [rdr, AObj.kind]))
          simp only [upR, setXX hr] at hfr
          refine ⟨(k, v), o, call_out (F := af31) rfl rfl ?_, ho, ?_⟩
          · simp only [rdr] at hg0 hpk hst hg1 hg2 hco hsg hfr ⊢
            simp [af31, af31b, hpk, h34]
            refine Out_cond _ _ _ _ _ _ _ rfl (fun h => by cases h) (fun _ => ?_)
            simp [↓hg0, hst, evStore, V.one, putL, hco]
            refine Out_cond _ _ _ _ _ _ _ rfl (fun h => by cases h) (fun _ => ?_)
            simp [↓hg1]
            refine Out_cond _ _ _ _ _ _ _ rfl (fun h => by cases h) (fun _ => ?_)
            simp at hsg
            simp [hsg, ↓hg2]
            refine Out_cond _ _ _ _ _ _ _ rfl (fun h => by cases h) (fun _ => ?_)
            have hv2 := fin_up0 s hr (AObj.und_mono (Nat.zero_le _) (Nat.zero_le _) _ ho) [.cells 49 (.str k :: vc v), .cells 9 [.str k]] (v := pv (k, v)) (by simp)
            obtain ⟨k2, n2, s2, ll, ff⟩ := v
            simp only [vc, pv] at hfr hv2
            simp [evC_regDA, regKA_some, hfr, evStore, V.one, putL, fillL, aparts_nil, aparts_un, tells_nil, tells_skip, under, V.top, hle, vc]
            rw [hv2]
            simp [pv, vc]
          · rw [hpp]
            simp only
            cases hpv : pval d l2 with
            | ok w l3 =>
              rw [hpv] at haf
              obtain ⟨rfl, rfl⟩ := haf
              exact ⟨rfl, rfl⟩
            | err l3 e =>
              rw [hpv] at haf
              exact haf
  · have hn : ¬ ((hd0 (skp l)).toNat : Int) = 34 := fun q => h34 (UInt8.toNat_inj.1 (by simpa using Int.natCast_inj.1 q))
    refine ⟨([], jNull), rdr b (skp l) ((b.length - (skp l).length : Nat) : Int) 4, call_out (F := af31) rfl rfl ?_, rfl, ?_⟩
    · have hg := setX hr (rdr b (skp l) bad 0) [.cells 49 zP]
      have hf := hfail (skp l) [.cells 49 zP] ((b.length - (skp l).length : Nat) : Int) 4
      simp only [rdr] at hg hf hpk
      simp [af31, af31b, hpk, hn]
      refine Out_cond _ _ _ _ _ _ _ rfl (fun _ => ?_) (fun h => by cases h)
      simp [↓hg, hf, fillL, putL, evStore, V.one]
      exact hz (.cells 45 _) [.cells 49 _] rfl
    · unfold ppair
      rw [if_pos h34]
      exact ⟨_, rfl⟩
end

end Go.Proofs.YtjdppboomglenaaGreatDoor.Eng

/-
  JSON, read: an object's element; lists of either kind. No condition.
-/
namespace Go.Proofs.YtjdppboomglenaaGreatDoor.Eng
open Go
set_option linter.unusedSimpArgs false
set_option linter.unusedVariables false

attribute [local simp] evC_reg evC_regD evR_cons evR_nil runR_some regK_some evC_ret evC_skip evC_exit Out_seq Out_blk Out_some seqQ_norm seqQ_ret seqQ_exit blkQ_norm blkQ_ret blkQ_exit loopQ_norm loopQ_ret loopQ_exit
attribute [local simp] stepR evOp put upd_apply X.ev initEnv cells_agg cells_int cells_str cells_bool cells_sl cells_ptr cells_pnil cells_fn cells_map vc_length vc_take vc_plain vc_und toVs_plain toPs_plain toVs_und toPs_und takeN evBin isSh intBin strBin callK resOf packR V.plain plainL V.und undL scK kill dstsO dstsL dstsR ite_some ite_pair ite_vbool evUn evLoad evLen V.real finLoop_false quietK_false kill_none

mutual
theorem topL_vc : ∀ v : JV, topL (vc v) = 0
  | .mk k n s l f => by simp [vc, topL, V.top, topL_toVs l, topL_toPs f]
theorem topL_toVs : ∀ l : List JV, topL (toVs l) = 0
  | [] => rfl
  | v :: l => by simp [toVs, topL, V.top, topL_vc v, topL_toVs l]
theorem topL_toPs : ∀ l : List (List UInt8 × JV), topL (toPs l) = 0
  | [] => rfl
  | (k, v) :: l => by simp [toPs, topL, V.top, topL_vc v, topL_toPs l]
end

section
variable {base : List AObj} {bufs : List (Nat × Nat × TypeId)} {r d : Nat} {b : List UInt8} {bad : Int}

theorem one55 (hv : VSpec b bad d) (hd : d ≤ 1000) (hb : base.length = r + 1) (hbas : ∀ o ∈ base, o.und (r + 1) 0 = true ∧ o.kind ≠ 4) (hbl : b.length ≤ 1000000000)
    (l : List UInt8) (acc : List (List UInt8 × JV)) (hl : l <:+ b) (hlen : acc.length + l.length ≤ b.length) :
    ∃ v o, call G 30 [.ptr (r + 4) 0, .ptr (r + 1) 0, .ptr (r + 2) 0] (KP base bufs r d (rdr b l bad 0) acc) = some (.tup [], KP base bufs r d o (acc ++ [v])) ∧ o.und 0 0 = true ∧ After b bad (ppair (pval d) l acc) v o := by
  have hroom : room = 140737488355328 := by decide
  have hg : (KP base bufs r d (rdr b l bad 0) acc).obs[r]? = some (rdr b l bad 0) := KK_r hb _ _
  have hbas2 := base_ok hbas (o := rdr b l bad 0) rfl (by simp [rdr, AObj.kind])
  obtain ⟨v, o, hpr, ho, haf⟩ := pair_spec hv hd hbl hl acc (by omega) (s := ⟨base.set r (rdr b l bad 0), []⟩) (r := r) (by simp [hb]) hbas2 (by simp [hb])
  have hfr := frCall (g := 31) (args := [.ptr r 0, .sl .no (toPs acc), .int .i64 d]) hg (by simp [topL, V.top, topL_toPs]) (by simp) (by rw [KK_take hb]; exact hbas2)
    (v := pv v) (o := o) (ex := []) (by rw [KK_take hb]; exact hpr) (by simp) ho (after_kind haf)
  have hup : upR (KP base bufs r d (rdr b l bad 0) acc) r o = KP base bufs r d o acc := KK_up hb _ _ _
  rw [hup] at hfr
  refine ⟨v, o, call_out (F := af30) rfl rfl ?_, ho, haf⟩
  have hw : IntKind.i64.wrap (d : Int) = (d : Int) := wrap_in (by omega) (by omega)
  have h1 : (KP base bufs r d (rdr b l bad 0) acc).obs[r + 4]? = some (.cells 26 [.int .i64 5, .int .i64 0, .str [], .sl .nil [], .sl (ownOf bufs acc) (toPs acc)]) := KK_out hb _ _
  have h2 : (KP base bufs r d (rdr b l bad 0) acc).obs[r + 1]? = _ := KK_box hb _ _
  have h3 : (KP base bufs r d (rdr b l bad 0) acc).obs[r + 2]? = _ := KK_deep hb _ _
  have h4 : (KP base bufs r d o acc).obs[r + 4]? = some (.cells 26 [.int .i64 5, .int .i64 0, .str [], .sl .nil [], .sl (ownOf bufs acc) (toPs acc)]) := KK_out hb _ _
  have hfin : fin false (KP base bufs r d (rdr b l bad 0) acc) (KP base bufs r d o (acc ++ [v])) (.tup []) = _ := KK_fin hb mkP_inj (mkP_und bufs) toPs_inj (rdr b l bad 0) o acc (acc ++ [v]) ho
  have hlt : r + 4 < (KP base bufs r d o acc).obs.length := get_lt h4
  have hset : ∀ X, ((KP base bufs r d o acc).obs.set (r + 4) X)[r + 4]? = some X := fun X => by rw [List.getElem?_set_self hlt]
  have hap : evAppz 6 (96, 49) (.sl (ownOf bufs acc) (toPs acc)) (.sl .no [.agg [.str [], .int .i64 0, .int .i64 0, .str [], .sl .no [], .sl .no []]]) (KP base bufs r d o acc) = some (.slx bufs.length 6 (toPs acc), ⟨(KP base bufs r d o acc).obs, bufs ++ [(acc.length, 96 + pendF, 49)]⟩) := by
    have hbf : (KP base bufs r d o acc) = ⟨(KP base bufs r d o acc).obs, bufs ++ exOf (96, 49) acc⟩ := rfl
    rw [hbf]
    by_cases ha : acc = []
    · subst ha
      simp only [ownOf, exOf, if_true, List.append_nil, toPs]
      exact appz_nil 6 96 49 .no _ rfl (by rw [hroom]; decide) _
    · simp only [ownOf, exOf, if_neg ha]
      have := appz_buf 6 96 49 .no (.agg [.str [], .int .i64 0, .int .i64 0, .str [], .sl .no [], .sl .no []]) (toPs acc) rfl (fits_toPs acc) (by rw [toPs_length, hroom]; omega) (KP base bufs r d o acc).obs bufs
      rw [toPs_length] at this
      exact this
  obtain ⟨k, v⟩ := v
  have hst : evStz 6 (.spp bufs.length 6 acc.length) (pv (k, v)) ⟨(KP base bufs r d o acc).obs, bufs ++ [(acc.length, 96 + pendF, 49)]⟩ = some (.epz bufs.length 6 acc.length (.str k :: vc v), ⟨(KP base bufs r d o acc).obs, bufs ++ [(acc.length + 1, 96, 49)]⟩) :=
    stz_eq (KP base bufs r d o acc).obs bufs acc.length 6 96 49 (pv (k, v)) (by decide) (by simp [pv]) (by simp [pv, V.one, vc_one])
  have htd : told (.slx bufs.length 6 (toPs acc)) (.epz bufs.length 6 acc.length (.str k :: vc v)) = .sl (.buf bufs.length) (toPs acc ++ [pv (k, v)]) := by
    have := told_eq bufs.length 6 (toPs acc) (.str k :: vc v) (by simp) (by simp [V.one, vc_one])
    rw [toPs_length, packV_pv] at this
    exact this
  have he : (⟨(KP base bufs r d o acc).obs.set (r + 4) (.cells 26 [.int .i64 5, .int .i64 0, .str [], .sl .nil [], .sl (.buf bufs.length) (toPs acc ++ [pv (k, v)])]), bufs ++ [(acc.length + 1, 96, 49)]⟩ : St) = KP base bufs r d o (acc ++ [(k, v)]) := by
    simp [KK, hb, ownOf, exOf, toPs_app, mkP, show r + 4 - (r + 1) = 3 by omega]
  simp [af30, af30b, evC_regDA, regKA_some, h1, h2, h3, hw, hfr, fillS, V.one, ↓h4, hap, hst, evStore, putL, aparts_nil, aparts_un, aparts_tell, tells_nil, tells_skip, tells_at, under, V.top, toldAt, htd, cells_slx, ↓hset, toPs_length, topL_toPs]
  rw [he]
  exact hfin

theorem LK54 (hv : VSpec b bad d) (hd : d ≤ 1000) (hb : base.length = r + 1) (hbas : ∀ o ∈ base, o.und (r + 1) 0 = true ∧ o.kind ≠ 4) (hbl : b.length ≤ 1000000000) :
    LK (KL base bufs r d) r 29 [.ptr (r + 4) 0, .ptr (r + 1) 0, .ptr (r + 2) 0] b bad (fun l _ => pval d l) where
  get o acc := KK_r hb _ _
  up o o' acc := KK_up hb _ _ _
  cap := rfl
  fin o acc o' acc' h := KK_fin hb mkL_inj (mkL_und bufs) toVs_inj o o' acc acc' h
  fine l acc := pval_fine d l
  one l acc hl hlen := one54 hv hd hb hbas hbl l acc hl hlen

theorem LK55 (hv : VSpec b bad d) (hd : d ≤ 1000) (hb : base.length = r + 1) (hbas : ∀ o ∈ base, o.und (r + 1) 0 = true ∧ o.kind ≠ 4) (hbl : b.length ≤ 1000000000) :
    LK (KP base bufs r d) r 30 [.ptr (r + 4) 0, .ptr (r + 1) 0, .ptr (r + 2) 0] b bad (ppair (pval d)) where
  get o acc := KK_r hb _ _
  up o o' acc := KK_up hb _ _ _
  cap := rfl
  fin o acc o' acc' h := KK_fin hb mkP_inj (mkP_und bufs) toPs_inj o o' acc acc' h
  fine l acc := ppair_fine (pval_fine d) l acc
  one l acc hl hlen := one55 hv hd hb hbas hbl l acc hl hlen
end

end Go.Proofs.YtjdppboomglenaaGreatDoor.Eng

/-
  JSON, read: a value. No condition.
-/
namespace Go.Proofs.YtjdppboomglenaaGreatDoor.Eng
open Go
set_option linter.unusedSimpArgs false
set_option linter.unusedVariables false

attribute [local simp] evC_reg evC_regD evR_cons evR_nil runR_some regK_some evC_ret evC_skip evC_exit Out_seq Out_blk Out_some seqQ_norm seqQ_ret seqQ_exit blkQ_norm blkQ_ret blkQ_exit loopQ_norm loopQ_ret loopQ_exit
attribute [local simp] stepR evOp put upd_apply X.ev initEnv cells_agg cells_int cells_str cells_bool cells_sl cells_ptr cells_pnil cells_fn cells_map vc_length vc_take vc_plain vc_und toVs_plain toPs_plain toVs_und toPs_und takeN evBin isSh intBin strBin callK resOf packR V.plain plainL V.und undL scK kill dstsO dstsL dstsR ite_some ite_pair ite_vbool evUn evLoad evLen V.real finLoop_false quietK_false kill_none

section
variable {b : List UInt8} {bad : Int} {r : Nat} {base : List AObj}

theorem ap0 (hb : base.length = r + 1) (o : AObj) (X : List AObj) : (base.set r o ++ X)[r]? = some o := by
  rw [List.getElem?_append_left (by simp; omega), List.getElem?_set_self (by omega)]
theorem ap1 (hb : base.length = r + 1) (o a : AObj) (X : List AObj) : (base.set r o ++ a :: X)[r + 1]? = some a := by
  rw [List.getElem?_append_right (by simp; omega)]
  simp [hb]
theorem ap2 (hb : base.length = r + 1) (o a a2 : AObj) (X : List AObj) : (base.set r o ++ a :: a2 :: X)[r + 2]? = some a2 := by
  rw [List.getElem?_append_right (by simp; omega)]
  simp [hb, show r + 2 - (r + 1) = 1 by omega]
theorem ap3 (hb : base.length = r + 1) (o a a2 a3 : AObj) (X : List AObj) : (base.set r o ++ a :: a2 :: a3 :: X)[r + 3]? = some a3 := by
  rw [List.getElem?_append_right (by simp; omega)]
  simp [hb, show r + 3 - (r + 1) = 2 by omega]
theorem ap4 (hb : base.length = r + 1) (o a a2 a3 a4 : AObj) (X : List AObj) : (base.set r o ++ a :: a2 :: a3 :: a4 :: X)[r + 4]? = some a4 := by
  rw [List.getElem?_append_right (by simp; omega)]
  simp [hb, show r + 4 - (r + 1) = 3 by omega]
theorem st3 (hb : base.length = r + 1) (o a a2 a3 o' : AObj) (X : List AObj) : (base.set r o ++ a :: a2 :: a3 :: X).set (r + 3) o' = base.set r o ++ a :: a2 :: o' :: X := by
  rw [List.set_append_right _ _ (by simp; omega)]
  simp [hb, show r + 3 - (r + 1) = 2 by omega]
theorem st4 (hb : base.length = r + 1) (o a a2 a3 a4 o' : AObj) (X : List AObj) : (base.set r o ++ a :: a2 :: a3 :: a4 :: X).set (r + 4) o' = base.set r o ++ a :: a2 :: a3 :: o' :: X := by
  rw [List.set_append_right _ _ (by simp; omega)]
  simp [hb, show r + 4 - (r + 1) = 3 by omega]
theorem st0 (hb : base.length = r + 1) (o o' : AObj) (X : List AObj) : (base.set r o ++ X).set r o' = base.set r o' ++ X := by
  rw [List.set_append_left _ _ (by simp; omega), List.set_set]

/-- What stands behind the reader while a value is read. -/
def X4 (r : Nat) (d : Int) : List AObj := [.cells 43 [.ptr r 0], .cells 3 [.int .i64 d], .cells 26 zV, .cells 26 [.int .i64 4, .int .i64 0, .str [], .sl .nil [], .sl .nil []]]

def numRows : List ARow := [⟨(some 45), .mov (.tmp 5)⟩,
          ⟨(some 46), .bin .eql (.tmp 45) (.c (.int .u8 45))⟩,
          ⟨(some 54), .sc 47 false (.tmp 46) [⟨(some 48), .mov (.tmp 5)⟩, ⟨(some 49), .bin .geq (.tmp 48) (.c (.int .u8 48))⟩, ⟨(some 53), .sc 50 true (.tmp 49) [⟨(some 51), .mov (.tmp 5)⟩, ⟨(some 52), .bin .leq (.tmp 51) (.c (.int .u8 57))⟩] (.tmp 52)⟩] (.tmp 53)⟩,
          ⟨(some 44), .mov (.tmp 54)⟩]

theorem u8eq (c : UInt8) (n : Nat) (hn : n < 256) : ((c.toNat : Int) = (n : Int)) ↔ c = UInt8.ofNat n := by
  rw [← UInt8.toNat_inj, UInt8.toNat_ofNat', Nat.mod_eq_of_lt hn]
  omega

theorem numReg (c : UInt8) (env : Env) (s : St) (h5 : env 5 = .int .u8 c.toNat) :
    ∃ env', evC G (.reg numRows) env s = some (.norm, env', s) ∧ env' 44 = .bool (isNumS c) ∧ env' 2 = env 2 ∧ env' 3 = env 3 ∧ env' 4 = env 4 ∧ env' 5 = env 5 ∧ env' 6 = env 6 := by
  have e45 : ((c.toNat : Int) = 45) ↔ c = 45 := u8eq c 45 (by decide)
  have e48 : ((48 : Int) ≤ (c.toNat : Int)) ↔ 48 ≤ c := by
    rw [UInt8.le_iff_toNat_le]
    show _ ↔ 48 ≤ c.toNat
    omega
  have e57 : ((c.toNat : Int) ≤ 57) ↔ c ≤ 57 := by
    rw [UInt8.le_iff_toNat_le]
    show _ ↔ c.toNat ≤ 57
    omega
  unfold isNumS
  by_cases h45 : c = 45
  · refine ⟨_, by simp [numRows, h5, e45, h45]; rfl, ?_⟩
    simp [h45]
  · by_cases h48 : 48 ≤ c
    · by_cases h57 : c ≤ 57
      · refine ⟨_, by simp [numRows, h5, e45, h45, e48, h48, e57, h57]; rfl, ?_⟩
        simp [h45, h48, h57]
      · refine ⟨_, by simp [numRows, h5, e45, h45, e48, h48, e57, h57]; rfl, ?_⟩
        simp [h45, h48, h57]
    · refine ⟨_, by simp [numRows, h5, e45, h45, e48, h48]; rfl, ?_⟩
      simp [h45, h48]

theorem numOut {Q : AExit → Env → St → Prop} (c : UInt8) (env : Env) (s : St) (h5 : env 5 = .int .u8 c.toNat)
    (hQ : ∀ env', env' 44 = .bool (isNumS c) → env' 2 = env 2 → env' 3 = env 3 → env' 4 = env 4 → env' 5 = env 5 → env' 6 = env 6 → Q .norm env' s) : Out (evC G (.reg numRows) env s) Q := by
  obtain ⟨env', he, q1, q2, q3, q4, q5, q6⟩ := numReg c env s h5
  exact ⟨_, _, _, he, hQ env' q1 q2 q3 q4 q5 q6⟩

theorem After.map {α β : Type} {b : List UInt8} {bad : Int} {p : PR α} {v : α} {o : AObj} (h : After b bad p v o) (f : α → β) : After b bad (p.map f) (f v) o := by
  cases p with
  | ok w l => obtain ⟨rfl, rfl⟩ := h; exact ⟨rfl, rfl⟩
  | err l e => exact h

/-- What reading a value leaves. -/
def VT (b : List UInt8) (bad : Int) (d : Nat) (l : List UInt8) (s : St) (r : Nat) (v : V) (s' : St) : Prop :=
  ∃ w o ex, v = toV w ∧ s' = (⟨s.obs.set r o, s.bufs ++ ex⟩ : St) ∧ o.und 0 0 = true ∧ After b bad (pval d l) w o

theorem val_spec (hb : b.length ≤ 1000000000) (d : Nat) (hd : d ≤ 1000) (hv : ∀ d', d = d' + 1 → VSpec b bad d') : VSpec b bad d := by
  intro l s r hl hlen hbas hs
  have hr : r < s.obs.length := by omega
  have hsl := (skp_suf l).trans hl
  have hpk : ∀ X, call G 25 [.ptr r 0] ⟨s.obs ++ X, s.bufs⟩ = some (.int .u8 (hd0 (skp l)).toNat, ⟨s.obs.set r (rdr b (skp l) bad 0) ++ X, s.bufs⟩) := by
    intro X
    have := peek_spec hb hl (s := ⟨s.obs ++ X, s.bufs⟩) (r := r) (bad := bad) (e := 0) (by simp only; rw [List.getElem?_append_left hr]; exact hs)
    simp only [upR] at this
    rw [List.set_append_left _ _ hr] at this
    exact this
  have hbx : ∀ a X, (s.obs ++ a :: X)[r + 1]? = some a := fun a X => by
    rw [List.getElem?_append_right (by omega), hlen]; simp
  have hfail : ∀ (l' : List UInt8) (X : List AObj) (at_ e2 : Int), call G 16 [.ptr r 0, .int .i64 at_, .int .i64 e2] ⟨s.obs.set r (rdr b l' bad 0) ++ X, s.bufs⟩ = some (.tup [], ⟨s.obs.set r (rdr b l' at_ e2) ++ X, s.bufs⟩) := by
    intro l' X at_ e2
    have := fail_spec (b := b) (l := l') (bad := bad) (e := 0) (at_ := at_) (e2 := e2) (r := r) (s := ⟨s.obs.set r (rdr b l' bad 0) ++ X, s.bufs⟩) (ap0 hlen _ _)
    simp only [upR, st0 hlen, if_true] at this
    exact this
  have hend : ∀ (o : AObj) (junk : List AObj) (ex : List (Nat × Nat × TypeId)) (x : V) (w : JV), o.und 0 0 = true → x.plain = toV w → After b bad (pval d l) w o →
      ∃ v s', fin false s ⟨s.obs.set r o ++ junk, s.bufs ++ ex⟩ x = (v, s') ∧ VT b bad d l s r v s' := by
    intro o junk ex x w ho hx haf
    obtain ⟨ex', h1, _⟩ := fin_up s hr (AObj.und_mono (Nat.zero_le _) (Nat.zero_le _) _ ho) junk ex (v := x) (by rw [hx]; simp)
    exact ⟨_, _, h1, w, o, ex', hx, rfl, ho, haf⟩
  have hend0 : ∀ (o : AObj) (junk : List AObj) (x : V) (w : JV), o.und 0 0 = true → x.plain = toV w → After b bad (pval d l) w o →
      ∃ v s', fin false s ⟨s.obs.set r o ++ junk, s.bufs⟩ x = (v, s') ∧ VT b bad d l s r v s' := by
    intro o junk x w ho hx haf
    have := hend o junk [] x w ho hx haf
    simpa using this
  have hn2 : r + 1 + 1 = r + 2 := rfl
  have hn3 : r + 1 + 2 = r + 3 := rfl
  have hn4 : r + 1 + 3 = r + 4 := rfl
  have key : ∃ q, call G 14 [.ptr r 0, .int .i64 d] s = some q ∧ VT b bad d l s r q.1 q.2 := by
    refine call_ex (G := G) (f := 14) (F := af14) (T := VT b bad d l s r) rfl rfl ?_
    generalize hm : skp l = m at *
    have hg : ∀ X, (s.obs.set r (rdr b m bad 0) ++ X)[r]? = some (rdr b m bad 0) := fun X => ap0 hlen _ _
    have hf4 := fun X at_ => hfail m X at_ 4
    have hf5 := fun X at_ => hfail m X at_ 5
    have hlm := suf_len hsl
    cases m with
    | nil =>
      simp only [rdr] at hpk hg hf4
      simp at hpk hg hf4
      simp [af14, af14b, hpk, hlen, ↓hbx, fillL, putL, evStore, V.one, hn2, hn3, hn4, ↓ap0 hlen, ↓ap1 hlen, ↓ap2 hlen, ↓ap3 hlen, ↓ap4 hlen, ↓st4 hlen, ↓st3 hlen]
      refine Out_cond _ _ _ _ _ _ _ rfl (fun _ => ?_) (fun h => by cases h)
      simp [↓ap0 hlen, ↓ap1 hlen, ↓ap2 hlen, ↓ap3 hlen, ↓ap4 hlen, ↓st4 hlen, ↓st3 hlen, hf4, fillL, putL, evStore, V.one]
      refine hend0 (.cells 45 _) _ _ jNull rfl (by simp [jNull, vc, toVs, toPs]) ?_
      have : pval d l = .err [] 4 := by cases d <;> simp [pval, hm]
      rw [this]
      exact ⟨_, rfl⟩
    | cons c t =>
      simp only [List.length_cons] at hlm
      have hne : ¬ b.length - (t.length + 1) = b.length := by omega
      have hne' : ¬ ((b.length - (t.length + 1) : Nat) : Int) = (b.length : Int) := by omega
      have hg' := hg
      simp only [rdr, List.length_cons] at hg'
      have hpk' := hpk
      simp only [rdr, List.length_cons, hd0, List.getElem?_cons_zero, Option.getD_some] at hpk'
      simp [af14, af14b, hpk', hlen, ↓hbx, fillL, putL, evStore, V.one, hn2, hn3, hn4, ↓ap0 hlen, ↓ap1 hlen, ↓ap2 hlen, ↓ap3 hlen, ↓ap4 hlen, ↓st4 hlen, ↓st3 hlen, hne, hne']
      refine Out_cond _ _ _ _ _ _ _ rfl (fun h => by cases h) (fun _ => ?_)
      simp [↓ap0 hlen, ↓ap1 hlen, ↓ap2 hlen, ↓ap3 hlen, ↓ap4 hlen]
      cases d with
      | zero =>
        refine Out_cond _ _ _ _ _ _ _ rfl (fun _ => ?_) (fun h => by cases h)
        simp only [rdr, List.length_cons] at hf5
        simp [hf5, ↓ap0 hlen, ↓ap1 hlen, ↓ap2 hlen, ↓ap3 hlen, ↓ap4 hlen, ↓st4 hlen, ↓st3 hlen, fillL, putL, evStore, V.one]
        refine hend0 (.cells 45 _) _ _ jNull rfl (by simp [jNull, vc, toVs, toPs]) ?_
        have : pval 0 l = .err (c :: t) 5 := by simp [pval, hm]
        rw [this]
        exact ⟨_, rfl⟩
      | succ d =>
        refine Out_cond _ _ _ _ _ _ _ rfl (fun h => by simp at h; omega) (fun _ => ?_)
        have hvd := hv d rfl
        have hhd : hd0 (c :: t) = c := rfl
        have hpv : pval (d + 1) l = if c = 34 then (punq (c :: t)).map fun s => .mk 3 0 s [] [] else if isNumS c = true then pnum (c :: t)
            else if c = 91 then (plist0 (fun l _ => pval d l) 93 t).map fun vs => .mk 4 0 [] vs [] else if c = 123 then (plist0 (ppair (pval d)) 125 t).map fun fs => .mk 5 0 [] [] fs else pword (c :: t) := by
          simp [pval, hm, hhd]
        have e34 : ((c.toNat : Int) = 34) ↔ c = 34 := u8eq c 34 (by decide)
        have e91 : ((c.toNat : Int) = 91) ↔ c = 91 := u8eq c 91 (by decide)
        have e123 : ((c.toNat : Int) = 123) ↔ c = 123 := u8eq c 123 (by decide)
        by_cases h34 : c = 34
        · simp [e34, h34]
          refine Out_cond _ _ _ _ _ _ _ rfl (fun _ => ?_) (fun h => by cases h)
          obtain ⟨o1, hst, ho1, hmt⟩ := str_spec hb hsl (bad := bad) (r := r) (s := ⟨s.obs.set r (rdr b (c :: t) bad 0) ++ X4 r ((d + 1 : Nat) : Int), s.bufs⟩) (hg _)
          simp only [upR, st0 hlen, rdr, List.length_cons, X4] at hst
          rw [h34] at hst
          push_cast at hst
          simp [hst, ↓ap0 hlen, ↓ap1 hlen, ↓ap2 hlen, ↓ap3 hlen, ↓ap4 hlen, ↓st4 hlen, ↓st3 hlen, fillL, putL, evStore, V.one]
          refine hend0 o1 _ _ (.mk 3 0 (prT (punq (c :: t))) [] []) ho1 (by simp [vc, toVs, toPs, h34]) ?_
          rw [hpv, if_pos h34]
          have hfi := punq_fine (c :: t)
          cases hp : punq (c :: t) with
          | ok k l' =>
            rw [hp] at hmt
            exact ⟨rfl, hmt⟩
          | err l' e =>
            rw [hp] at hmt hfi
            exact hmt (hfi.1 _ _ rfl)
        · simp [e34, h34]
          refine Out_cond _ _ _ _ _ _ _ rfl (fun h => by cases h) (fun _ => ?_)
          rw [Out_seq]
          refine numOut c _ _ (by simp) ?_
          intro env1 w44 w2 w3 w4 w5 w6
          simp at w2 w3 w4 w5 w6
          have hst0 : (⟨s.obs.set r (rdr b (c :: t) bad 0) ++ X4 r ((d + 1 : Nat) : Int), s.bufs⟩ : St) = ⟨s.obs.set r (.cells 45 [.str b, .int .i64 ((b.length - (t.length + 1) : Nat) : Int), .int .i64 bad, .int .i64 0]) ++ [.cells 43 [.ptr r 0], .cells 3 [.int .i64 ((d : Int) + 1)], .cells 26 zV, .cells 26 [.int .i64 4, .int .i64 0, .str [], .sl .nil [], .sl .nil []]], s.bufs⟩ := by
            simp [X4, rdr]
          rw [← hst0]
          · rw [seqQ_norm]
            have hKL : ∀ o, KL s.obs s.bufs r d o [] = ⟨s.obs.set r o ++ X4 r ((d + 1 : Nat) : Int), s.bufs⟩ := by
              intro o; simp [KK, exOf, ownOf, toVs, mkL, X4]
            by_cases hns : isNumS c = true
            · refine Out_cond _ _ _ _ _ _ _ (by simp only [X.ev]; exact w44) (fun _ => ?_) (fun h => by rw [hns] at h; cases h)
              obtain ⟨v, o1, hst, ho1, haf⟩ := numR_spec hb hsl (by simp) (bad := bad) (r := r) (s := ⟨s.obs.set r (rdr b (c :: t) bad 0) ++ X4 r ((d + 1 : Nat) : Int), s.bufs⟩) (hg _)
              simp only [upR, st0 hlen, X4] at hst
              push_cast at hst
              simp only [X4]
              have hvc : putL zV 0 (vc v) = vc v := putL_zv v
              have hvo := vc_one v
              simp [w2, w4, hst, ↓ap0 hlen, ↓ap1 hlen, ↓ap2 hlen, ↓ap3 hlen, ↓ap4 hlen, ↓st4 hlen, ↓st3 hlen, evStore, hvc, hvo]
              refine hend0 o1 _ _ v ho1 (by simp) ?_
              rw [hpv, if_neg h34, if_pos hns]
              exact haf
            · refine Out_cond _ _ _ _ _ _ _ (by simp only [X.ev]; exact w44) (fun h => by rw [h] at hns; exact absurd rfl hns) (fun _ => ?_)
              by_cases h91 : c = 91
              · obtain ⟨acc', o1, hc, hou, haf⟩ := list_spec (LK54 (bufs := s.bufs) hvd (by omega) hlen hbas hb) hb 93 hsl (by decide)
                rw [hKL] at hc
                simp only [KK, X4] at hc
                push_cast at hc
                simp only [X4]
                simp [w5, w2, w3, w6, w4, e91, h91]
                refine Out_cond _ _ _ _ _ _ _ rfl (fun _ => ?_) (fun h => by cases h)
                simp [w2, w3, w4, w6, ↓ap0 hlen, ↓ap1 hlen, ↓ap2 hlen, ↓ap3 hlen, ↓ap4 hlen, ↓st4 hlen, ↓st3 hlen, h91] at hc ⊢
                simp [w2, w3, w4, w6, hc, ↓ap0 hlen, ↓ap1 hlen, ↓ap2 hlen, ↓ap3 hlen, ↓ap4 hlen, ↓st4 hlen, ↓st3 hlen, evStore, mkL, V.one, putL]
                refine hend o1 _ _ _ (.mk 4 0 [] acc' []) hou (by simp [vc, toPs]) ?_
                rw [hpv, if_neg h34, if_neg hns, if_pos h91]
                exact haf.map _
              · have hKP : ∀ o, KP s.obs s.bufs r d o [] = ⟨s.obs.set r o ++ [.cells 43 [.ptr r 0], .cells 3 [.int .i64 ((d + 1 : Nat) : Int)], .cells 26 zV, .cells 26 [.int .i64 5, .int .i64 0, .str [], .sl .nil [], .sl .nil []]], s.bufs⟩ := by
                  intro o; simp [KK, exOf, ownOf, toPs, mkP]
                simp only [X4]
                simp [w5, e91, h91]
                refine Out_cond _ _ _ _ _ _ _ rfl (fun h => by cases h) (fun _ => ?_)
                by_cases h123 : c = 123
                · obtain ⟨acc', o1, hc, hou, haf⟩ := list_spec (LK55 (bufs := s.bufs) hvd (by omega) hlen hbas hb) hb 125 hsl (by decide)
                  rw [hKP] at hc
                  simp only [KK] at hc
                  push_cast at hc
                  simp [w5, w2, w3, w6, w4, e123, h123]
                  refine Out_cond _ _ _ _ _ _ _ rfl (fun _ => ?_) (fun h => by cases h)
                  simp [w2, w3, w4, w6, ↓ap0 hlen, ↓ap1 hlen, ↓ap2 hlen, ↓ap3 hlen, ↓ap4 hlen, ↓st4 hlen, ↓st3 hlen, h123] at hc ⊢
                  simp [w2, w3, w4, w6, hc, ↓ap0 hlen, ↓ap1 hlen, ↓ap2 hlen, ↓ap3 hlen, ↓ap4 hlen, ↓st4 hlen, ↓st3 hlen, evStore, mkP, V.one, putL]
                  refine hend o1 _ _ _ (.mk 5 0 [] [] acc') hou (by simp [vc, toVs]) ?_
                  rw [hpv, if_neg h34, if_neg hns, if_neg h91, if_pos h123]
                  exact haf.map _
                · obtain ⟨v, o1, hst, ho1, haf⟩ := word_spec hb hsl (bad := bad) (r := r) (s := ⟨s.obs.set r (rdr b (c :: t) bad 0) ++ X4 r ((d + 1 : Nat) : Int), s.bufs⟩) (hg _)
                  simp only [upR, st0 hlen, X4] at hst
                  push_cast at hst
                  have hvc : putL zV 0 (vc v) = vc v := putL_zv v
                  have hvo := vc_one v
                  simp [w5, w2, w3, w6, w4, e123, h123]
                  refine Out_cond _ _ _ _ _ _ _ rfl (fun h => by cases h) (fun _ => ?_)
                  simp [w2, w4, hst, ↓ap0 hlen, ↓ap1 hlen, ↓ap2 hlen, ↓ap3 hlen, ↓ap4 hlen, ↓st4 hlen, ↓st3 hlen, evStore, hvc, hvo]
                  refine hend0 o1 _ _ v ho1 (by simp) ?_
                  rw [hpv, if_neg h34, if_neg hns, if_neg h91, if_neg h123]
                  exact haf
  obtain ⟨⟨v, s'⟩, hc, w, o, ex, h1, h2, h3⟩ := key
  simp only at h1 h2
  subst h1 h2
  exact ⟨w, o, ex, hc, h3⟩

theorem val_all (hb : b.length ≤ 1000000000) : ∀ d, d ≤ 1000 → VSpec b bad d
  | 0, hd => val_spec hb 0 hd (fun d' h => by omega)
  | d + 1, hd => val_spec hb (d + 1) hd (fun d' h => by
      have : d = d' := by omega
      subst this
      exact val_all hb d (by omega))
end

end Go.Proofs.YtjdppboomglenaaGreatDoor.Eng

/-
  JSON, read: all of a text. No condition.
-/
namespace Go.Proofs.YtjdppboomglenaaGreatDoor.Eng
open Go
set_option linter.unusedSimpArgs false
set_option linter.unusedVariables false

attribute [local simp] evC_reg evC_regD evR_cons evR_nil runR_some regK_some evC_ret evC_skip evC_exit Out_seq Out_blk Out_some seqQ_norm seqQ_ret seqQ_exit blkQ_norm blkQ_ret blkQ_exit loopQ_norm loopQ_ret loopQ_exit
attribute [local simp] stepR evOp put upd_apply X.ev initEnv cells_agg cells_int cells_str cells_bool cells_sl cells_ptr cells_pnil cells_fn cells_map vc_length vc_take vc_plain vc_und toVs_plain toPs_plain toVs_und toPs_und takeN evBin isSh intBin strBin callK resOf packR V.plain plainL V.und undL scK kill dstsO dstsL dstsR ite_some ite_pair ite_vbool evUn evLoad evLen V.real finLoop_false quietK_false kill_none

/-- A text's value, and the place and kind of what is wrong. -/
def pread (q : List UInt8) (most : Int) : JV × Int × Int :=
  if most < (q.length : Int) then (jNull, 0, 6) else
  match pval 12 q with
  | .err l e => (jNull, ((q.length - l.length : Nat) : Int), e)
  | .ok v l => if skp l = [] then (v, -1, 0) else (jNull, ((q.length - (skp l).length : Nat) : Int), 4)

theorem fin_s (s : St) (X : List AObj) (ex : List (Nat × Nat × TypeId)) (v : V) (hv : v.plain.und s.obs.length 0 = true) : fin false s ⟨s.obs ++ X, s.bufs ++ ex⟩ v = (v.plain, s) := by
  unfold fin
  simp [hv]
theorem fin_s0 (s : St) (X : List AObj) (v : V) (hv : v.plain.und s.obs.length 0 = true) : fin false s ⟨s.obs ++ X, s.bufs⟩ v = (v.plain, s) := by
  unfold fin
  simp [hv]

theorem read_spec {q : List UInt8} (hq : q.length ≤ 1000000000) (most : Int) (s : St) (hbas : ∀ o ∈ s.obs, o.und s.obs.length 0 = true ∧ o.kind ≠ 4) :
    call G 8 [.str q, .int .i64 most] s = some (.tup [toV (pread q most).1, .int .i64 (pread q most).2.1, .int .i64 (pread q most).2.2], s) := by
  refine call_out (F := af8) rfl rfl ?_
  have e0 : ∀ (o : AObj) (X : List AObj), (s.obs ++ o :: X)[s.obs.length]? = some o := fun o X => by simp
  have e1 : ∀ (o o1 : AObj) (X : List AObj), (s.obs ++ o :: o1 :: X)[s.obs.length + 1]? = some o1 := fun o o1 X => by
    rw [List.getElem?_append_right (by omega)]; simp
  by_cases hm : most < (q.length : Int)
  · simp [af8, af8b, hm]
    refine Out_cond _ _ _ _ _ _ _ rfl (fun _ => ?_) (fun h => by cases h)
    simp [fillL, evStore, V.one, putL]
    rw [fin_s0 _ _ _ (by simp)]
    simp [pread, hm, jNull, vc, toVs, toPs]
  · simp [af8, af8b, hm]
    refine Out_cond _ _ _ _ _ _ _ rfl (fun h => by cases h) (fun _ => ?_)
    have hB : ∀ (a b c : AObj) (X : List AObj), (s.obs ++ a :: b :: X).set (s.obs.length + 1) c = s.obs ++ a :: c :: X := fun a b c X => by
      rw [List.set_append_right _ _ (by omega)]; simp
    have h2 : ∀ (a b c : AObj) (X : List AObj), (s.obs ++ a :: b :: c :: X)[s.obs.length + 2]? = some c := fun a b c X => by
      rw [List.getElem?_append_right (by omega)]; simp
    have hs2 : ∀ (a b c d : AObj) (X : List AObj), (s.obs ++ a :: b :: c :: X).set (s.obs.length + 2) d = s.obs ++ a :: b :: d :: X := fun a b c d X => by
      rw [List.set_append_right _ _ (by omega)]; simp
    have hs0 : ∀ (a d : AObj) (X : List AObj), (s.obs ++ a :: X).set s.obs.length d = s.obs ++ d :: X := fun a d X => by
      rw [List.set_append_right _ _ (by omega)]; simp
    have hrd : rdr q q 0 0 = .cells 45 [.str q, .int .i64 0, .int .i64 0, .int .i64 0] := by simp [rdr]
    obtain ⟨v, o, ex, hc, ho, haf⟩ := val_all (b := q) (bad := 0) hq 12 (by decide) q ⟨s.obs ++ [.cells 26 zV, .cells 45 [.str q, .int .i64 0, .int .i64 0, .int .i64 0]], s.bufs⟩ (s.obs.length + 1) (List.suffix_refl q) (by simp)
      (by
        intro x hx
        simp only [List.mem_append, List.mem_cons, List.not_mem_nil, or_false] at hx
        rcases hx with hx | rfl | rfl
        · exact ⟨AObj.und_mono (by omega) (Nat.le_refl _) _ (hbas x hx).1, (hbas x hx).2⟩
        · exact ⟨rfl, by simp [AObj.kind]⟩
        · exact ⟨rfl, by simp [AObj.kind]⟩)
      (by rw [hrd]; exact e1 _ _ _)
    simp only [hB] at hc
    have hnn : ¬ s.obs.length + 1 = s.obs.length := by omega
    obtain ⟨kk, nn, ss, ll, ff⟩ := v
    cases hp : pval 12 q with
    | err l' e =>
      rw [hp] at haf
      have he := (pval_fine 12 q).1 _ _ hp
      obtain ⟨at_, rfl⟩ := haf
      simp [vc] at hc
      simp [fillL, putL, hc, V.one, evStore, vc, ↓e0, ↓e1, ↓h2, ↓hB, ↓hs2, he]
      refine Out_cond _ _ _ _ _ _ _ rfl (fun h => by simp at h) (fun _ => ?_)
      simp [↓e0, ↓e1, ↓h2, ↓hB, ↓hs2, he]
      refine Out_cond _ _ _ _ _ _ _ rfl (fun _ => ?_) (fun h => by simp at h)
      simp [evC_regDA, regKA_some, aparts_nil, aparts_lt, apart, tells_nil, tells_skip, fillL, ↓e0, ↓e1, ↓h2, ↓hB, ↓hs2, ↓hs0, he, evStore, V.one, putL, hnn]
      rw [fin_s _ _ _ _ (by simp)]
      simp [pread, hm, hp, jNull, vc, toVs, toPs]
    | ok w l' =>
      rw [hp] at haf
      have hl' : l' <:+ q := by
        have := (pval_fine 12 q).2
        rw [hp] at this
        exact this
      obtain ⟨rfl, rfl⟩ := haf
      have hsk := fun X : List AObj => skip_spec hq hl' (bad := 0) (e := 0) (r := s.obs.length + 1) (s := ⟨s.obs ++ .cells 26 zV :: rdr q l' 0 0 :: X, s.bufs ++ ex⟩) (e1 _ _ _)
      simp only [upR, hB] at hsk
      have hsl := (skp_suf l').trans hl'
      have hlm := suf_len hsl
      have hfl := fun (X : List AObj) (at_ : Int) => fail_spec (b := q) (l := skp l') (bad := 0) (e := 0) (at_ := at_) (e2 := 4) (r := s.obs.length + 1) (s := ⟨s.obs ++ .cells 26 zV :: rdr q (skp l') 0 0 :: X, s.bufs ++ ex⟩) (e1 _ _ _)
      simp only [upR, hB, if_true] at hfl
      simp only [rdr] at hc hsk hfl
      simp [vc] at hc
      simp [fillL, putL, hc, V.one, evStore, vc, ↓e0, ↓e1, ↓h2, ↓hB, ↓hs2]
      refine Out_cond _ _ _ _ _ _ _ rfl (fun _ => ?_) (fun h => by simp at h)
      simp [hsk, ↓e0, ↓e1, ↓h2, ↓hB, ↓hs2]
      by_cases hn : skp l' = []
      · rw [hn] at hsk hfl
        simp [hn]
        refine Out_cond _ _ _ _ _ _ _ rfl (fun h => by simp at h) (fun _ => ?_)
        simp [↓e0, ↓e1, ↓h2, ↓hB, ↓hs2]
        refine Out_cond _ _ _ _ _ _ _ rfl (fun h => by simp at h) (fun _ => ?_)
        simp [fillL, ↓e0, ↓e1, ↓h2, ↓hB, ↓hs2, ↓hs0, evStore, V.one, putL]
        rw [fin_s _ _ _ _ (by simp)]
        simp [pread, hm, hp, hn, vc]
      · have hpos : 0 < (skp l').length := List.length_pos_iff.2 hn
        have hlt : q.length - (skp l').length < q.length := by omega
        have hlt' : ((q.length - (skp l').length : Nat) : Int) < (q.length : Int) := by omega
        simp [hlt, hlt']
        refine Out_cond _ _ _ _ _ _ _ rfl (fun _ => ?_) (fun h => by simp at h)
        simp [hfl, ↓e0, ↓e1, ↓h2, ↓hB, ↓hs2]
        refine Out_cond _ _ _ _ _ _ _ rfl (fun _ => ?_) (fun h => by simp at h)
        simp [evC_regDA, regKA_some, aparts_nil, aparts_lt, apart, tells_nil, tells_skip, fillL, ↓e0, ↓e1, ↓h2, ↓hB, ↓hs2, ↓hs0, evStore, V.one, putL, hnn]
        rw [fin_s _ _ _ _ (by simp)]
        simp [pread, hm, hp, hn, jNull, vc, toVs, toPs]

theorem parse_spec {q : List UInt8} (hq : q.length ≤ 1000000000) (s : St) (hbas : ∀ o ∈ s.obs, o.und s.obs.length 0 = true ∧ o.kind ≠ 4) :
    call G 6 [.str q] s = some (.tup [toV (pread q 4000).1, .int .i64 (pread q 4000).2.1, .int .i64 (pread q 4000).2.2], s) := by
  refine call_out (F := af6) rfl rfl ?_
  have hr := read_spec hq 4000 ⟨s.obs ++ [.cells 26 zV], s.bufs⟩ (by
    intro x hx
    simp only [List.mem_append, List.mem_singleton] at hx
    rcases hx with hx | rfl
    · exact ⟨AObj.und_mono (by simp) (Nat.le_refl _) _ (hbas x hx).1, (hbas x hx).2⟩
    · exact ⟨rfl, by simp [AObj.kind]⟩)
  generalize pread q 4000 = p at hr ⊢
  obtain ⟨⟨kk, nn, ss, ll, ff⟩, n, e⟩ := p
  simp [vc] at hr
  simp [af6, af6b, hr, fillL, evStore, V.one, putL, vc]
  rw [fin_s0 _ _ _ (by simp)]
  simp [vc]

end Go.Proofs.YtjdppboomglenaaGreatDoor.Eng

/-
  A text comes again from its quoting. No condition.
-/
namespace Go.Proofs.YtjdppboomglenaaGreatDoor.Eng
open Go
set_option linter.unusedSimpArgs false
set_option linter.unusedVariables false

theorem ofN {n : Nat} (h : n < 256) : (UInt8.ofNat n).toNat = n := by rw [UInt8.toNat_ofNat']; omega

theorem sizeV_enc (c : Nat) (y : List UInt8) (hc : runeOk c) : sizeV (encV c ++ y) 0 = ((encV c).length, c) := by
  unfold runeOk at hc
  unfold encV
  split
  · rename_i h
    simp [sizeV, ofN (show c < 256 by omega), h]
  · split
    · rename_i h1 h2
      have e0 : (UInt8.ofNat (192 + c / 64)).toNat = 192 + c / 64 := ofN (by omega)
      have e1 : (UInt8.ofNat (128 + c % 64)).toNat = 128 + c % 64 := ofN (by omega)
      generalize UInt8.ofNat (192 + c / 64) = x0 at *
      generalize UInt8.ofNat (128 + c % 64) = x1 at *
      have g0 : ([x0, x1] ++ y).getD 0 0 = x0 := rfl
      have g1 : ([x0, x1] ++ y).getD (0 + 1) 0 = x1 := rfl
      have hl : ([x0, x1] ++ y).length = y.length + 2 := by simp
      simp only [sizeV, g0]
      rw [if_neg (by omega), if_pos (by omega), if_neg (by omega)]
      simp only [contV, g1, Nat.reduceSub]
      rw [if_neg (by omega)]
      simp only
      rw [if_neg (by omega)]
      simp
      omega
    · split
      · rename_i h1 h2 h3
        have e0 : (UInt8.ofNat (224 + c / 4096)).toNat = 224 + c / 4096 := ofN (by omega)
        have e1 : (UInt8.ofNat (128 + c / 64 % 64)).toNat = 128 + c / 64 % 64 := ofN (by omega)
        have e2 : (UInt8.ofNat (128 + c % 64)).toNat = 128 + c % 64 := ofN (by omega)
        generalize UInt8.ofNat (224 + c / 4096) = x0 at *
        generalize UInt8.ofNat (128 + c / 64 % 64) = x1 at *
        generalize UInt8.ofNat (128 + c % 64) = x2 at *
        have g0 : ([x0, x1, x2] ++ y).getD 0 0 = x0 := rfl
        have g1 : ([x0, x1, x2] ++ y).getD (0 + 1) 0 = x1 := rfl
        have g2 : ([x0, x1, x2] ++ y).getD (0 + (1 + 1)) 0 = x2 := rfl
        have hl : ([x0, x1, x2] ++ y).length = y.length + 3 := by simp
        simp only [sizeV, g0]
        rw [if_neg (by omega), if_neg (by omega), if_pos (by omega), if_neg (by omega)]
        simp only [contV, g1, g2, Nat.reduceSub]
        rw [if_neg (by omega), if_neg (by omega)]
        simp only
        rw [if_neg (by omega)]
        simp
        omega
      · rename_i h1 h2 h3
        have e0 : (UInt8.ofNat (240 + c / 262144)).toNat = 240 + c / 262144 := ofN (by omega)
        have e1 : (UInt8.ofNat (128 + c / 4096 % 64)).toNat = 128 + c / 4096 % 64 := ofN (by omega)
        have e2 : (UInt8.ofNat (128 + c / 64 % 64)).toNat = 128 + c / 64 % 64 := ofN (by omega)
        have e3 : (UInt8.ofNat (128 + c % 64)).toNat = 128 + c % 64 := ofN (by omega)
        generalize UInt8.ofNat (240 + c / 262144) = x0 at *
        generalize UInt8.ofNat (128 + c / 4096 % 64) = x1 at *
        generalize UInt8.ofNat (128 + c / 64 % 64) = x2 at *
        generalize UInt8.ofNat (128 + c % 64) = x3 at *
        have g0 : ([x0, x1, x2, x3] ++ y).getD 0 0 = x0 := rfl
        have g1 : ([x0, x1, x2, x3] ++ y).getD (0 + 1) 0 = x1 := rfl
        have g2 : ([x0, x1, x2, x3] ++ y).getD (0 + (1 + 1)) 0 = x2 := rfl
        have g3 : ([x0, x1, x2, x3] ++ y).getD (0 + (1 + 1 + 1)) 0 = x3 := rfl
        have hl : ([x0, x1, x2, x3] ++ y).length = y.length + 4 := by simp
        simp only [sizeV, g0]
        rw [if_neg (by omega), if_neg (by omega), if_neg (by omega), if_pos (by omega), if_neg (by omega)]
        simp only [contV, g1, g2, g3, Nat.reduceSub]
        rw [if_neg (by omega), if_neg (by omega), if_neg (by omega)]
        simp only
        rw [if_neg (by omega)]
        simp
        omega

theorem decV_enc (c : Nat) (y : List UInt8) (hc : runeOk c) : decV (encV c ++ y) 0 = (c, (encV c).length) := by
  have hpos : 0 < (encV c).length := by
    unfold encV
    (repeat' split) <;> simp
  have h := sizeV_dec (encV c ++ y) 0 (by simp; omega)
  rw [sizeV_enc c y hc] at h
  split at h
  · simp only [Prod.mk.injEq] at h; omega
  · simp only [Prod.mk.injEq] at h
    exact Prod.ext h.2.symm h.1.symm

def escOk (c : Nat) : Bool :=
  match escV c with
  | [] => true
  | [a, x] => decide (a = 92) && decide (shortR x = ((c : Int), true))
  | [a, u, x1, x2, x3, x4] => decide (a = 92) && decide (u = 117) && decide (hexF 0 [x1, x2, x3, x4] = (c : Int))
  | _ => false
set_option maxRecDepth 100000 in
theorem escTab : ∀ c : Fin 128, escOk c.val = true := by decide

theorem escV_big {c : Nat} (h : 128 ≤ c) : escV c = [] := by
  unfold escV
  repeat (rw [if_neg (by omega)])

/-- What is escaped is told again. -/
theorem escR_esc (c : Nat) (y : List UInt8) (h : escV c ≠ []) : escR (escV c ++ y) = ((c : Int), (escV c).length) ∧ ∃ t, escV c = 92 :: t := by
  have hc : c < 128 := by
    apply Decidable.byContradiction
    intro hn
    exact h (escV_big (by omega))
  have ht := escTab ⟨c, hc⟩
  simp only [escOk] at ht
  split at ht
  · rename_i e; exact absurd e h
  · rename_i a x e
    simp only [Bool.and_eq_true, decide_eq_true_eq] at ht
    obtain ⟨rfl, hs⟩ := ht
    rw [e]
    refine ⟨?_, _, rfl⟩
    simp [escR, hs]
  · rename_i a u x1 x2 x3 x4 e
    simp only [Bool.and_eq_true, decide_eq_true_eq] at ht
    obtain ⟨⟨rfl, rfl⟩, hx⟩ := ht
    rw [e]
    refine ⟨?_, _, rfl⟩
    have hu : unitR ([92, 117, x1, x2, x3, x4] ++ y) = (c : Int) := by
      simp only [List.cons_append, List.nil_append, unitR]
      rw [if_pos (by decide), hx]
    have hsh : (shortR 117).2 = false := by decide
    unfold escR
    rw [hu]
    rw [if_neg (by simp [hsh]), if_neg (by omega), if_pos (by omega)]
    rfl
  · cases ht

theorem ubody_quote (b : List UInt8) : ∀ (g f p : Nat) (acc x : List UInt8), p ≤ b.length → b.length < p + g → badV b g p = -1 → (quoteB b g p ++ 34 :: x).length ≤ f →
    ubody f (quoteB b g p ++ 34 :: x) acc = .ok (acc ++ b.drop p) x
  | 0, f, p, acc, x, hp, hg, _, _ => by omega
  | g + 1, f, p, acc, x, hp, hg, hb, hf => by
    have hf0 : f ≠ 0 := by
      intro q
      subst q
      simp at hf
    obtain ⟨f, rfl⟩ : ∃ k, f = k + 1 := ⟨f - 1, by omega⟩
    rw [quoteB] at hf ⊢
    by_cases hlt : p < b.length
    · rw [if_pos hlt] at hf ⊢
      obtain ⟨hs, hb'⟩ := badV_neg b g p hlt hb
      obtain ⟨h1, h2⟩ := size_bytes b p hlt hs
      have hle := sizeV_le b p hlt
      have hd : sizeV b p = ((decV b p).2, (decV b p).1) := by
        have := sizeV_dec b p hlt
        split at this
        · rw [this] at hs; simp at hs
        · exact this
      have hok := decV_ok b p hlt
      have hd1 : (decV b p).1 = (sizeV b p).2 := by rw [hd]
      have hd2 : (decV b p).2 = (sizeV b p).1 := by rw [hd]
      rw [hd1] at hok
      rw [hd1, hd2] at hf ⊢
      generalize hc : (sizeV b p).2 = c at *
      generalize hn : (sizeV b p).1 = n at *
      have hsplit : encV c ++ b.drop (p + n) = b.drop p := by rw [h1, ← List.drop_drop, List.take_append_drop]
      have hlen := hf
      simp only [List.length_append, List.length_cons] at hlen
      have hend : ∀ k, (quoteB b g (p + n) ++ 34 :: x).length ≤ k → ubody k (quoteB b g (p + n) ++ 34 :: x) (acc ++ encV c) = .ok (acc ++ b.drop p) x := fun k hk => by
        rw [ubody_quote b g k (p + n) _ x (by omega) (by omega) hb' hk, List.append_assoc, hsplit]
      have hpos : 0 < (encV c).length := by
        unfold encV
        (repeat' split) <;> simp
      by_cases he : escV c = []
      · have ho : outV c = encV c := by simp [outV, he]
        rw [ho] at hlen ⊢
        have hne : c ≠ 34 ∧ c ≠ 92 ∧ ¬ c < 32 := by
          refine ⟨?_, ?_, ?_⟩
          · rintro rfl; revert he; decide
          · rintro rfl; revert he; decide
          · intro h32
            have : ∀ k : Fin 32, escV k.val ≠ [] := by decide
            exact this ⟨c, h32⟩ he
        have hdv := decV_enc c (quoteB b g (p + n) ++ 34 :: x) hok
        rw [List.append_assoc, ubody, hdv]
        simp only
        rw [if_neg (by intro q; have := congrArg List.length q; simp at this), if_neg hne.1, if_neg hne.2.2, if_neg (by
          rintro ⟨q1, q2⟩
          subst q1
          revert q2
          decide), if_neg hne.2.1, List.drop_left]
        exact hend f (by simp only [List.length_append, List.length_cons]; omega)
      · obtain ⟨her, t, ht⟩ := escR_esc c (quoteB b g (p + n) ++ 34 :: x) he
        have ho : outV c = escV c := by simp [outV, he]
        rw [ho] at hlen ⊢
        have hel : (escV c).length ≠ 0 := by rw [ht]; simp
        have hdv : decV (escV c ++ (quoteB b g (p + n) ++ 34 :: x)) 0 = (92, 1) := by
          rw [ht]
          exact decV_enc 92 (t ++ (quoteB b g (p + n) ++ 34 :: x)) (by unfold runeOk; omega)
        rw [List.append_assoc, ubody, hdv, her]
        simp only
        rw [if_neg (by rw [ht]; simp), if_neg (by decide), if_neg (by decide), if_neg (by decide), if_pos trivial, if_neg hel, List.drop_left]
        exact hend f (by simp only [List.length_append, List.length_cons]; omega)
    · rw [if_neg hlt, List.nil_append, ubody]
      have hdv : decV (34 :: x) 0 = (34, 1) := decV_enc 34 x (by unfold runeOk; omega)
      rw [hdv]
      simp only
      have hb0 : b.drop p = [] := List.drop_of_length_le (by omega)
      rw [if_neg (by simp), if_pos trivial, hb0]
      simp

theorem punq_quote (s x : List UInt8) (h : rightV s = true) : punq (quoteV s ++ x) = .ok s x := by
  have hq : quoteV s ++ x = 34 :: (quoteB s (s.length + 1) 0 ++ 34 :: x) := by simp [quoteV]
  rw [hq]
  unfold punq
  rw [if_pos (by simp [begs])]
  have := ubody_quote s (s.length + 1) (34 :: (quoteB s (s.length + 1) 0 ++ 34 :: x)).length 0 [] x (by omega) (by omega) (by simpa [rightV] using h) (by simp)
  simpa using this
theorem skp_id {c : UInt8} (h : isBl c = false) (t : List UInt8) : skp (c :: t) = c :: t := by simp [skp, h]

end Go.Proofs.YtjdppboomglenaaGreatDoor.Eng
