/-
  JSON: what the functions do, one behind the other. No condition.
-/
import Derived.Test.YtadpobnajjocnaaGreatDoorTLib0
/-
  JSON, read: what a reader holds; blanks, signs, faults. No condition.
-/
namespace Go.Proofs.YtadpobnajjocnaaGreatDoor.Eng
open Go
set_option linter.unusedSimpArgs false
set_option linter.unusedVariables false

attribute [local simp] evC_reg evC_regD evR_cons evR_nil runR_some regK_some evC_ret evC_skip evC_exit Out_seq Out_blk Out_some seqQ_norm seqQ_ret seqQ_exit blkQ_norm blkQ_ret blkQ_exit loopQ_norm loopQ_ret loopQ_exit
attribute [local simp] stepR evOp put upd_apply X.ev initEnv cells_agg cells_int cells_str cells_bool cells_sl cells_ptr cells_pnil cells_fn cells_map vc_length vc_take vc_plain vc_und toVs_plain toPs_plain toVs_und toPs_und takeN evBin isSh intBin strBin callK resOf packR V.plain plainL V.und undL scK kill dstsO dstsL dstsR ite_some ite_pair ite_vbool evUn evLoad evLen V.real finLoop_false quietK_false kill_none

/-! ### The plain parser -/
def isBl (x : UInt8) : Bool := decide (x = 32) || decide (x = 9) || decide (x = 10) || decide (x = 13)
def skp (l : List UInt8) : List UInt8 := l.dropWhile isBl
/-- What is read, and the rest; or the rest at which something is wrong, and what. -/
inductive PR (α : Type) where
  | ok (v : α) (l : List UInt8)
  | err (l : List UInt8) (e : Int)

theorem skp_suf (l : List UInt8) : skp l <:+ l := List.dropWhile_suffix _
theorem skp_skp (l : List UInt8) : skp (skp l) = skp l := by
  induction l with
  | nil => rfl
  | cons x l ih =>
    by_cases h : isBl x = true
    · simp only [skp, List.dropWhile_cons, h, if_true]; exact ih
    · simp [skp, List.dropWhile_cons, h]

/-- A reader of text b, of which l is left. -/
def rdr (b l : List UInt8) (bad e : Int) : AObj := .cells 45 [.str b, .int .i64 ((b.length - l.length : Nat) : Int), .int .i64 bad, .int .i64 e]
/-- ... with another object there. -/
abbrev upR (s : St) (r : Nat) (o : AObj) : St := ⟨s.obs.set r o, s.bufs⟩

theorem suf_drop {b l : List UInt8} (h : l <:+ b) : b.drop (b.length - l.length) = l := (List.suffix_iff_eq_drop.1 h).symm
theorem suf_len {b l : List UInt8} (h : l <:+ b) : l.length ≤ b.length := h.length_le
theorem suf_get {b l : List UInt8} (h : l <:+ b) : b[b.length - l.length]? = l[0]? := by
  have := suf_drop h
  conv => rhs; rw [← this]
  simp [List.getElem?_drop]
theorem suf_tail {b : List UInt8} {c : UInt8} {l : List UInt8} (h : (c :: l) <:+ b) : l <:+ b := (List.suffix_cons c l).trans h
theorem pos_tail {b : List UInt8} {c : UInt8} {l : List UInt8} (h : (c :: l) <:+ b) : b.length - l.length = b.length - (c :: l).length + 1 := by
  have := suf_len h
  simp only [List.length_cons] at this ⊢
  omega

theorem fin_up (s : St) {r : Nat} {o : AObj} (hr : r < s.obs.length) (ho : o.und s.obs.length s.bufs.length = true) (junk : List AObj) (ex : List (Nat × Nat × TypeId)) {v : V} (hv : v.plain.und s.obs.length 0 = true) :
    ∃ ex', fin false s ⟨s.obs.set r o ++ junk, s.bufs ++ ex⟩ v = (v.plain, ⟨s.obs.set r o, s.bufs ++ ex'⟩) ∧ (ex = [] → ex' = []) := by
  have hl : (s.obs.set r o).length = s.obs.length := by simp
  have ht : (s.obs.set r o ++ junk).take s.obs.length = s.obs.set r o := by rw [← hl, List.take_left]
  unfold fin
  simp only [Bool.false_eq_true, if_false, ht]
  split
  · rename_i h
    have h1 : s.obs.set r o = s.obs := by rw [← ht]; exact h.1
    exact ⟨[], by rw [h1]; simp, fun _ => rfl⟩
  · rename_i h
    rw [if_pos]
    · exact ⟨ex, rfl, fun h => h⟩
    · refine ⟨fun i hi => ?_, hv⟩
      by_cases e : i = r
      · subst e
        right
        intro o' ho'
        rw [List.getElem?_append_left (by omega), List.getElem?_set_self hi] at ho'
        cases ho'
        exact AObj.und_mono (Nat.le_refl _) (by simp) _ ho
      · left
        rw [List.getElem?_append_left (by omega), List.getElem?_set_ne (by omega)]

theorem fin_up0 (s : St) {r : Nat} {o : AObj} (hr : r < s.obs.length) (ho : o.und s.obs.length s.bufs.length = true) (junk : List AObj) {v : V} (hv : v.plain.und s.obs.length 0 = true) :
    fin false s ⟨s.obs.set r o ++ junk, s.bufs⟩ v = (v.plain, ⟨s.obs.set r o, s.bufs⟩) := by
  obtain ⟨ex', h1, h2⟩ := fin_up s hr ho junk [] hv
  rw [h2 rfl] at h1
  simpa using h1
theorem fin_up1 (s : St) {r : Nat} {o : AObj} (hr : r < s.obs.length) (ho : o.und s.obs.length s.bufs.length = true) {v : V} (hv : v.plain.und s.obs.length 0 = true) :
    fin false s ⟨s.obs.set r o, s.bufs⟩ v = (v.plain, ⟨s.obs.set r o, s.bufs⟩) := by
  have := fin_up0 s hr ho [] hv
  simpa using this
theorem rdr_und (b l : List UInt8) (bad e : Int) (n m : Nat) : (rdr b l bad e).und n m = true := rfl
theorem get_lt {s : St} {r : Nat} {o : AObj} (h : s.obs[r]? = some o) : r < s.obs.length := (List.getElem?_eq_some_iff.1 h).1
theorem set_same {s : St} {r : Nat} {o : AObj} (h : s.obs[r]? = some o) : upR s r o = s := by
  have hr := get_lt h
  have : s.obs[r] = o := by rw [List.getElem?_eq_getElem hr] at h; exact Option.some.inj h
  simp only [upR]
  rw [← this, List.set_getElem_self hr]

theorem upR_upR (s : St) (r : Nat) (o o' : AObj) : upR (upR s r o) r o' = upR s r o' := by simp [upR]
theorem upR_get (s : St) {r : Nat} (hr : r < s.obs.length) (o : AObj) : (upR s r o).obs[r]? = some o := by simp [upR, hr]

/-! ### fail -/
/-! ### skip -/
theorem ib_bl (c : UInt8) : (0 ≤ Lib.indexByte [32, 9, 10, 13] c) ↔ isBl c = true := by
  have h1 := Lib.indexByte_ge ([] : List UInt8) c
  unfold isBl
  simp only [Lib.indexByte, Bool.or_eq_true, decide_eq_true_eq, beq_iff_eq]
  by_cases a : (32 : UInt8) = c
  · simp [← a]
  by_cases b : (9 : UInt8) = c
  · simp [← b]
  by_cases d : (10 : UInt8) = c
  · simp [← d]
  by_cases e : (13 : UInt8) = c
  · simp [← e]
  simp [a, b, d, e, Ne.symm a, Ne.symm b, Ne.symm d, Ne.symm e, eq_comm]

theorem ib_spec (b : List UInt8) (c : UInt8) (s : St) : call G 26 [.str b, .int .u8 c.toNat] s = some (.int .i64 (Lib.indexByte b c), s) := by
  rw [call_prim G 26 _ s primIB rfl]
  simp [primIB]

/-- The first byte; 0 at the end. -/
def hd0 (l : List UInt8) : UInt8 := (l[0]?).getD 0

end Go.Proofs.YtadpobnajjocnaaGreatDoor.Eng

/-
  JSON, read: words, numbers. No condition.
-/
namespace Go.Proofs.YtadpobnajjocnaaGreatDoor.Eng
open Go
set_option linter.unusedSimpArgs false
set_option linter.unusedVariables false

attribute [local simp] evC_reg evC_regD evR_cons evR_nil runR_some regK_some evC_ret evC_skip evC_exit Out_seq Out_blk Out_some seqQ_norm seqQ_ret seqQ_exit blkQ_norm blkQ_ret blkQ_exit loopQ_norm loopQ_ret loopQ_exit
attribute [local simp] stepR evOp put upd_apply X.ev initEnv cells_agg cells_int cells_str cells_bool cells_sl cells_ptr cells_pnil cells_fn cells_map vc_length vc_take vc_plain vc_und toVs_plain toPs_plain toVs_und toPs_und takeN evBin isSh intBin strBin callK resOf packR V.plain plainL V.und undL scK kill dstsO dstsL dstsR ite_some ite_pair ite_vbool evUn evLoad evLen V.real finLoop_false quietK_false kill_none

def jNull : JV := .mk 0 0 [] [] []
def jBool (t : Bool) : JV := .mk 1 (if t then 1 else 0) [] [] []
def wNull : List UInt8 := [110, 117, 108, 108]
def wTrue : List UInt8 := [116, 114, 117, 101]
def wFalse : List UInt8 := [102, 97, 108, 115, 101]
/-- Does it begin so? -/
def begs (l w : List UInt8) : Bool := decide (w.length ≤ l.length) && decide (l.take w.length = w)

def pword (l : List UInt8) : PR JV :=
  if begs l wNull = true then .ok jNull (l.drop 4)
  else if begs l wTrue = true then .ok (jBool true) (l.drop 4)
  else if begs l wFalse = true then .ok (jBool false) (l.drop 5)
  else .err l 4

theorem hp_spec (l w : List UInt8) (hl : l.length ≤ 9223372036854775807) (s : St) : call G 31 [.str l, .str w] s = some (.bool (begs l w), s) := by
  have h84 : call G 54 [.str l, .str w] s = some (.bool (begs l w), s) := by
    refine call_out (F := af54) rfl rfl ?_
    by_cases h : w.length ≤ l.length
    · have h' : ((w.length : Nat) : Int) ≤ (l.length : Int) := by omega
      simp [af54, af54b, h, h', evSlcS, bnd]
      rw [fin_id s (v := .bool _) rfl]
      simp [begs, h]
    · have h' : ¬ ((w.length : Nat) : Int) ≤ (l.length : Int) := by omega
      simp [af54, af54b, h, h']
      rw [fin_id s (v := .bool _) rfl]
      simp [begs, h]
  refine call_out (F := af31) rfl rfl ?_
  simp [af31, af31b, h84]
  exact fin_id s (v := .bool _) rfl

/-- What a reader's function leaves: the reader behind what was read; or with its first fault. -/
def After {α : Type} (b : List UInt8) (bad : Int) (p : PR α) (v : α) (o : AObj) : Prop :=
  match p with
  | .ok w l' => v = w ∧ o = rdr b l' bad 0
  | .err l' e => ∃ at_ : Int, o = .cells 45 [.str b, .int .i64 at_, .int .i64 ((b.length - l'.length : Nat) : Int), .int .i64 e]

theorem begs_nil (w : List UInt8) (h : w ≠ []) : begs [] w = false := by
  cases w with
  | nil => exact absurd rfl h
  | cons => simp [begs]
theorem begs_len {l w : List UInt8} (h : begs l w = true) : w.length ≤ l.length := by
  simp only [begs, Bool.and_eq_true, decide_eq_true_eq] at h
  exact h.1
theorem pos_drop {b l : List UInt8} (hl : l <:+ b) {n : Nat} (hn : n ≤ l.length) : b.length - (l.drop n).length = b.length - l.length + n := by
  have := suf_len hl
  simp only [List.length_drop]
  omega

theorem putL_pv (w : List UInt8) (v : JV) : putL [.str [], .int .i64 0, .int .i64 0, .str [], .sl .nil [], .sl .nil []] 0 (.str w :: vc v) = .str w :: vc v := by cases v; simp [vc, putL]
theorem putL_zv (v : JV) : putL [.int .i64 0, .int .i64 0, .str [], .sl .nil [], .sl .nil []] 0 (vc v) = vc v := by cases v; simp [vc, putL]
theorem vc_one (v : JV) : (vc v).all V.one = true := by cases v; simp [vc, V.one]
def wds : List (List UInt8 × JV) := [(wNull, jNull), (wTrue, jBool true), (wFalse, jBool false)]
def findW : List (List UInt8 × JV) → List UInt8 → Option (JV × Nat)
  | [], _ => none
  | p :: ws, l => if begs l p.1 = true then some (p.2, p.1.length) else findW ws l

abbrev zV : List V := [.int .i64 0, .int .i64 0, .str [], .sl .nil [], .sl .nil []]

theorem fin_upV (s : St) {r : Nat} {o : AObj} (hr : r < s.obs.length) (ho : o.und 0 0 = true) (junk : List AObj) (v : JV) :
    fin false s ⟨s.obs.set r o ++ junk, s.bufs⟩ (.agg (vc v)) = (.agg (vc v), upR s r o) := by
  have := fin_up0 s hr (AObj.und_mono (Nat.zero_le _) (Nat.zero_le _) _ ho) junk (v := .agg (vc v)) (by simp)
  rw [this]
  simp

theorem findW_pword (l : List UInt8) : pword l = match findW wds l with | some (v, k) => .ok v (l.drop k) | none => .err l 4 := by
  simp only [pword, findW, wds]
  split
  · rfl
  · split
    · rfl
    · split <;> rfl

end Go.Proofs.YtadpobnajjocnaaGreatDoor.Eng

/-
  JSON, read: numbers. No condition.
-/
namespace Go.Proofs.YtadpobnajjocnaaGreatDoor.Eng
open Go
set_option linter.unusedSimpArgs false
set_option linter.unusedVariables false

attribute [local simp] evC_reg evC_regD evR_cons evR_nil runR_some regK_some evC_ret evC_skip evC_exit Out_seq Out_blk Out_some seqQ_norm seqQ_ret seqQ_exit blkQ_norm blkQ_ret blkQ_exit loopQ_norm loopQ_ret loopQ_exit
attribute [local simp] stepR evOp put upd_apply X.ev initEnv cells_agg cells_int cells_str cells_bool cells_sl cells_ptr cells_pnil cells_fn cells_map vc_length vc_take vc_plain vc_und toVs_plain toPs_plain toVs_und toPs_und takeN evBin isSh intBin strBin callK resOf packR V.plain plainL V.und undL scK kill dstsO dstsL dstsR ite_some ite_pair ite_vbool evUn evLoad evLen V.real finLoop_false quietK_false kill_none

/-- Behind a sign. -/
def numT : List UInt8 → List UInt8
  | [] => []
  | x :: t => if x = 45 then t else x :: t
def dgs (l : List UInt8) : List UInt8 := (numT l).takeWhile isDig
def rst (l : List UInt8) : List UInt8 := (numT l).dropWhile isDig
def isNeg (l : List UInt8) : Bool := decide (hd0 l = 45)
def pnum (l : List UInt8) : PR JV :=
  if dgs l = [] ∨ (dgs l = [48] ∧ isNeg l = true) then .err l 4
  else if hd0 (dgs l) = 48 ∧ 1 < (dgs l).length then .err ((numT l).drop 1) 4
  else if 9007199254740991 < valD (dgs l) then .err l 6
  else .ok (.mk 2 (if isNeg l = true then -(valD (dgs l) : Int) else (valD (dgs l) : Int)) [] [] []) (rst l)

/-! ### ParseInt -/
theorem valF_ge (l : List UInt8) : ∀ a : Nat, a ≤ l.foldl (fun a x => 10 * a + (x.toNat - 48)) a := by
  induction l with
  | nil => intro a; exact Nat.le_refl _
  | cons x l ih =>
    intro a
    simp only [List.foldl_cons]
    exact Nat.le_trans (by omega) (ih _)

theorem parseU : ∀ (l : List UInt8) (a : Nat), (∀ x ∈ l, isDig x = true) →
    (Lib.parseUintM 18446744073709551615 a l = .ok (l.foldl (fun a x => 10 * a + (x.toNat - 48)) a)) ∨ (Lib.parseUintM 18446744073709551615 a l = .range ∧ 18446744073709551615 < l.foldl (fun a x => 10 * a + (x.toNat - 48)) a)
  | [], a, _ => .inl rfl
  | x :: l, a, h => by
    have hx := h x (by simp)
    simp only [isDig, Bool.and_eq_true, decide_eq_true_eq] at hx
    simp only [Lib.parseUintM, if_pos hx, List.foldl_cons]
    have hge := valF_ge l (10 * a + (x.toNat - 48))
    split
    · exact .inr ⟨rfl, by omega⟩
    · split
      · exact .inr ⟨rfl, by omega⟩
      · rw [show a * 10 + (x.toNat - 48) = 10 * a + (x.toNat - 48) by omega]
        exact parseU l _ (fun y hy => h y (by simp [hy]))

/-- Behind ParseInt: a number, or a fault. -/
def erV (t : Bool) : V := if t = true then .ifc 107 .junk else .nilI

theorem pi_spec (w : List UInt8) (hw : w.length ≤ 1000000000) : ∃ n eb, (∀ s, call G 55 [.str w, .int .i64 10, .int .i64 64] s = some (.tup [.int .i64 n, erV eb], s)) ∧
    (eb = true ∧ (∀ v, Lib.parseIntB 64 w ≠ .ok v) ∨ eb = false ∧ Lib.parseIntB 64 w = .ok n) := by
  have h := fun s => call_prim G 55 [.str w, .int .i64 10, .int .i64 64] s primPI rfl
  have hle : w.length ≤ 281474976710656 := by omega
  simp only [primPI, if_pos hle] at h
  cases hp : Lib.parseIntB 64 w with
  | ok v => simp only [hp] at h; exact ⟨v, false, h, .inr ⟨rfl, rfl⟩⟩
  | range => simp only [hp] at h; exact ⟨_, true, h, .inl ⟨rfl, fun v q => by cases q⟩⟩
  | _ => simp only [hp] at h; exact ⟨0, true, h, .inl ⟨rfl, fun v q => by cases q⟩⟩

theorem takeWhile_all (l : List UInt8) : ∀ x ∈ l.takeWhile isDig, isDig x = true := fun x hx => by
  have := List.all_takeWhile (p := isDig) (l := l)
  rw [List.all_eq_true] at this
  exact this x hx

/-- What ParseInt makes of digits, with a sign or without. -/
theorem pi_val {ds : List UInt8} (hd : ∀ x ∈ ds, isDig x = true) (hne : ds ≠ []) (ng : Bool) :
    (valD ds ≤ 9007199254740991 → Lib.parseIntB 64 (if ng = true then 45 :: ds else ds) = .ok (if ng = true then -(valD ds : Int) else (valD ds : Int))) ∧
    (9007199254740991 < valD ds → ∀ n, Lib.parseIntB 64 (if ng = true then 45 :: ds else ds) = .ok n → n < -9007199254740991 ∨ 9007199254740991 < n) := by
  have hu := parseU ds 0 hd
  have hB : Lib.parseUintB 64 ds = Lib.parseUintM 18446744073709551615 0 ds := by simp [Lib.parseUintB, hne]
  have hv : ds.foldl (fun a x => 10 * a + (x.toNat - 48)) 0 = valD ds := rfl
  rw [hv, ← hB] at hu
  have hfirst : ∀ c r, ds = c :: r → c.toNat ≠ 43 ∧ c.toNat ≠ 45 := by
    rintro c r rfl
    have := hd c (by simp)
    simp only [isDig, Bool.and_eq_true, decide_eq_true_eq] at this
    omega
  have hP : Lib.parseIntB 64 (if ng = true then 45 :: ds else ds) = match Lib.parseUintB 64 ds with
      | Lib.NumEnd.syntax => Lib.NumEnd.syntax
      | .range => .range
      | .ok u => if ¬ ng = true ∧ 2 ^ 63 ≤ u then .range else if ng = true ∧ 2 ^ 63 < u then .range else .ok (if ng = true then -(u : Int) else u) := by
    cases ng with
    | true => simp [Lib.parseIntB]; cases Lib.parseUintB 64 ds <;> rfl
    | false =>
      cases ds with
      | nil => exact absurd rfl hne
      | cons c r =>
        obtain ⟨h1, h2⟩ := hfirst c r rfl
        simp [Lib.parseIntB, h1, h2]
        cases Lib.parseUintB 64 (c :: r) <;> rfl
  rw [hP]
  refine ⟨fun hle => ?_, fun hgt n => ?_⟩
  · rcases hu with hu | ⟨_, hu⟩
    · rw [hu]
      cases ng <;> simp <;> omega
    · omega
  · rcases hu with hu | ⟨hu, _⟩
    · rw [hu]
      intro h
      simp only at h
      split at h
      · cases h
      · split at h
        · cases h
        · simp only [Lib.NumEnd.ok.injEq] at h
          split at h <;> omega
    · rw [hu]
      intro h
      cases h

end Go.Proofs.YtadpobnajjocnaaGreatDoor.Eng

/-
  JSON, read: the function that reads a number. No condition.
-/
namespace Go.Proofs.YtadpobnajjocnaaGreatDoor.Eng
open Go
set_option linter.unusedSimpArgs false
set_option linter.unusedVariables false

attribute [local simp] evC_reg evC_regD evR_cons evR_nil runR_some regK_some evC_ret evC_skip evC_exit Out_seq Out_blk Out_some seqQ_norm seqQ_ret seqQ_exit blkQ_norm blkQ_ret blkQ_exit loopQ_norm loopQ_ret loopQ_exit
attribute [local simp] stepR evOp put upd_apply X.ev initEnv cells_agg cells_int cells_str cells_bool cells_sl cells_ptr cells_pnil cells_fn cells_map vc_length vc_take vc_plain vc_und toVs_plain toPs_plain toVs_und toPs_und takeN evBin isSh intBin strBin callK resOf packR V.plain plainL V.und undL scK kill dstsO dstsL dstsR ite_some ite_pair ite_vbool evUn evLoad evLen V.real finLoop_false quietK_false kill_none

theorem numT_suf (l : List UInt8) : numT l <:+ l := by
  cases l with
  | nil => exact List.suffix_refl _
  | cons x t =>
    simp only [numT]
    split
    · exact List.suffix_cons _ _
    · exact List.suffix_refl _
theorem rst_suf (l : List UInt8) : rst l <:+ l := (List.dropWhile_suffix _).trans (numT_suf l)
theorem dgs_len (l : List UInt8) : (numT l).length = (dgs l).length + (rst l).length := by
  have := congrArg List.length (List.takeWhile_append_dropWhile (p := isDig) (l := numT l))
  simp only [List.length_append] at this
  exact this.symm
theorem numT_eq (l : List UInt8) : numT l = dgs l ++ rst l := (List.takeWhile_append_dropWhile (p := isDig) (l := numT l)).symm

/-- The first fault of a number, and where. -/
def numF (l : List UInt8) : Nat :=
  if dgs l = [] ∨ (dgs l = [48] ∧ isNeg l = true) then 1 else if hd0 (dgs l) = 48 ∧ 1 < (dgs l).length then 2 else 0

theorem valD_ge : ∀ (l : List UInt8) (a : Nat), 10 ^ l.length * a ≤ l.foldl (fun a x => 10 * a + (x.toNat - 48)) a
  | [], a => by simp
  | x :: l, a => by
    simp only [List.foldl_cons, List.length_cons]
    refine Nat.le_trans ?_ (valD_ge l _)
    rw [Nat.pow_succ, Nat.mul_assoc]
    exact Nat.mul_le_mul_left _ (by omega)

/-- So many digits, of which the first isn't 0, are a great number. -/
theorem valD_big {ds : List UInt8} (hd : ∀ x ∈ ds, isDig x = true) (h0 : hd0 ds ≠ 48) (hl : 17 ≤ ds.length) : 9007199254740991 < valD ds := by
  cases ds with
  | nil => simp at hl
  | cons x r =>
    have hx := hd x (by simp)
    simp only [isDig, Bool.and_eq_true, decide_eq_true_eq] at hx
    have hx0 : x.toNat ≠ 48 := fun q => h0 (by simp only [hd0, List.getElem?_cons_zero, Option.getD_some]; exact UInt8.toNat_inj.1 q)
    have h1 := valD_ge r (10 * 0 + (x.toNat - 48))
    have h2 : 10 ^ 16 * 1 ≤ 10 ^ r.length * (10 * 0 + (x.toNat - 48)) := Nat.mul_le_mul (Nat.pow_le_pow_right (by omega) (by simp at hl; omega)) (by omega)
    have h3 : valD (x :: r) = r.foldl (fun a x => 10 * a + (x.toNat - 48)) (10 * 0 + (x.toNat - 48)) := rfl
    rw [h3]
    have : (10 : Nat) ^ 16 = 10000000000000000 := by decide
    omega

theorem seqQ_mono {G : Gp} {b : ACode} {Q Q' : AExit → Env → St → Prop} (h : ∀ e env s, Q e env s → Q' e env s) : ∀ e env s, seqQ G b Q e env s → seqQ G b Q' e env s
  | .norm, env, s, q => Out.mono q h
  | .ret, env, s, q => h _ _ _ q
  | .exit i, env, s, q => h _ _ _ q

end Go.Proofs.YtadpobnajjocnaaGreatDoor.Eng

/-
  Quoted texts, read: what stands behind a sign 5c. No condition.
-/
namespace Go.Proofs.YtadpobnajjocnaaGreatDoor.Eng
open Go
set_option linter.unusedSimpArgs false
set_option linter.unusedVariables false

attribute [local simp] evC_reg evC_regD evR_cons evR_nil runR_some regK_some evC_ret evC_skip evC_exit Out_seq Out_blk Out_some seqQ_norm seqQ_ret seqQ_exit blkQ_norm blkQ_ret blkQ_exit loopQ_norm loopQ_ret loopQ_exit
attribute [local simp] stepR evOp put upd_apply X.ev initEnv cells_agg cells_int cells_str cells_bool cells_sl cells_ptr cells_pnil cells_fn cells_map vc_length vc_take vc_plain vc_und toVs_plain toPs_plain toVs_und toPs_und takeN evBin isSh intBin strBin callK resOf packR fin V.plain plainL V.und undL scK kill dstsO dstsL dstsR ite_some ite_pair ite_vbool evUn evLoad evLen V.real finLoop_false quietK_false kill_none

/-- A hexadecimal digit; -1: none. -/
def hexD (x : UInt8) : Int :=
  if 48 ≤ x.toNat ∧ x.toNat ≤ 57 then x.toNat - 48
  else if 97 ≤ x.toNat ∧ x.toNat ≤ 102 then x.toNat - 87
  else if 65 ≤ x.toNat ∧ x.toNat ≤ 70 then x.toNat - 55
  else -1

theorem wrap8 {n : Int} (h0 : 0 ≤ n) (h1 : n < 256) : IntKind.u8.wrap n = n := by rw [wrapU8 h0]; omega

theorem hexD_spec (x : UInt8) (s : St) : call G 110 [.int .u8 x.toNat] s = some (.int .i32 (hexD x), s) := by
  have hx := x.toNat_lt
  refine call_out (F := af110) rfl rfl ?_
  by_cases a1 : 48 ≤ x.toNat ∧ x.toNat ≤ 57
  · have i1 : (48 : Int) ≤ (x.toNat : Int) := by omega
    have i2 : (x.toNat : Int) ≤ 57 := by omega
    have w1 : IntKind.u8.wrap ((x.toNat : Int) - 48) = x.toNat - 48 := wrap8 (by omega) (by omega)
    have w2 : IntKind.i32.wrap ((x.toNat : Int) - 48) = x.toNat - 48 := wrap32 (by omega) (by omega)
    simp [af110, af110b, i1, i2]
    refine Out_cond _ _ _ _ _ _ _ rfl (fun _ => ?_) (fun h => by cases h)
    simp [w1, w2, hexD, a1]
  · have h1 : hexD x = if 97 ≤ x.toNat ∧ x.toNat ≤ 102 then (x.toNat : Int) - 87 else if 65 ≤ x.toNat ∧ x.toNat ≤ 70 then (x.toNat : Int) - 55 else -1 := by
      unfold hexD; rw [if_neg a1]
    have c1 : ∀ (Q : AExit → Env → St → Prop) env, Out (evC G (.reg [⟨(some 4), .mov (.tmp 0)⟩, ⟨(some 5), .bin .geq (.tmp 4) (.c (.int .u8 48))⟩,
        ⟨(some 9), .sc 6 true (.tmp 5) [⟨(some 7), .mov (.tmp 0)⟩, ⟨(some 8), .bin .leq (.tmp 7) (.c (.int .u8 57))⟩] (.tmp 8)⟩, ⟨(some 3), .mov (.tmp 9)⟩]) env s) Q → True := fun _ _ _ => trivial
    by_cases i1 : (48 : Int) ≤ (x.toNat : Int)
    · have i2 : ¬ (x.toNat : Int) ≤ 57 := by omega
      simp [af110, af110b, i1, i2]
      refine Out_cond _ _ _ _ _ _ _ rfl (fun h => by cases h) (fun _ => ?_)
      by_cases b1 : (97 : Int) ≤ (x.toNat : Int)
      · by_cases b2 : (x.toNat : Int) ≤ 102
        · have w1 : IntKind.u8.wrap ((x.toNat : Int) - 97) = x.toNat - 97 := wrap8 (by omega) (by omega)
          have w2 : IntKind.i32.wrap ((x.toNat : Int) - 97) = x.toNat - 97 := wrap32 (by omega) (by omega)
          have w3 : IntKind.i32.wrap ((x.toNat : Int) - 97 + 10) = x.toNat - 87 := by rw [wrap32 (by omega) (by omega)]; omega
          simp [b1, b2]
          refine Out_cond _ _ _ _ _ _ _ rfl (fun _ => ?_) (fun h => by cases h)
          simp [w1, w2, w3, h1]
          omega
        · simp [b1, b2]
          refine Out_cond _ _ _ _ _ _ _ rfl (fun h => by cases h) (fun _ => ?_)
          have d1 : (65 : Int) ≤ (x.toNat : Int) := by omega
          have d2 : ¬ (x.toNat : Int) ≤ 70 := by omega
          simp [d1, d2]
          refine Out_cond _ _ _ _ _ _ _ rfl (fun h => by cases h) (fun _ => ?_)
          simp [h1]
          rw [if_neg (by omega), if_neg (by omega)]
      · simp [b1]
        refine Out_cond _ _ _ _ _ _ _ rfl (fun h => by cases h) (fun _ => ?_)
        by_cases d1 : (65 : Int) ≤ (x.toNat : Int)
        · by_cases d2 : (x.toNat : Int) ≤ 70
          · have w1 : IntKind.u8.wrap ((x.toNat : Int) - 65) = x.toNat - 65 := wrap8 (by omega) (by omega)
            have w2 : IntKind.i32.wrap ((x.toNat : Int) - 65) = x.toNat - 65 := wrap32 (by omega) (by omega)
            have w3 : IntKind.i32.wrap ((x.toNat : Int) - 65 + 10) = x.toNat - 55 := by rw [wrap32 (by omega) (by omega)]; omega
            simp [d1, d2]
            refine Out_cond _ _ _ _ _ _ _ rfl (fun _ => ?_) (fun h => by cases h)
            simp [w1, w2, w3, h1]
            rw [if_neg (by omega), if_pos (by omega)]
          · simp [d1, d2]
            refine Out_cond _ _ _ _ _ _ _ rfl (fun h => by cases h) (fun _ => ?_)
            simp [h1]
            rw [if_neg (by omega), if_neg (by omega)]
        · simp [d1]
          refine Out_cond _ _ _ _ _ _ _ rfl (fun h => by cases h) (fun _ => ?_)
          simp [h1]
          rw [if_neg (by omega), if_neg (by omega)]
    · simp [af110, af110b, i1]
      refine Out_cond _ _ _ _ _ _ _ rfl (fun h => by cases h) (fun _ => ?_)
      have b1 : ¬ (97 : Int) ≤ (x.toNat : Int) := by omega
      simp [b1]
      refine Out_cond _ _ _ _ _ _ _ rfl (fun h => by cases h) (fun _ => ?_)
      have d1 : ¬ (65 : Int) ≤ (x.toNat : Int) := by omega
      simp [d1]
      refine Out_cond _ _ _ _ _ _ _ rfl (fun h => by cases h) (fun _ => ?_)
      simp [h1]
      rw [if_neg (by omega), if_neg (by omega)]

theorem hexD_le (x : UInt8) : -1 ≤ hexD x ∧ hexD x ≤ 15 := by
  have hx := x.toNat_lt
  unfold hexD
  repeat' split
  all_goals omega

/-- One byte behind the sign: the rune; is there one? -/
def shortR (x : UInt8) : Int × Bool :=
  if x.toNat = 34 ∨ x.toNat = 92 ∨ x.toNat = 47 then (x.toNat, true)
  else if x.toNat = 98 then (8, true) else if x.toNat = 102 then (12, true) else if x.toNat = 110 then (10, true)
  else if x.toNat = 114 then (13, true) else if x.toNat = 116 then (9, true) else (0, false)

theorem shortR_spec (x : UInt8) (s : St) : call G 97 [.int .u8 x.toNat] s = some (.tup [.int .i32 (shortR x).1, .bool (shortR x).2], s) := by
  have hx := x.toNat_lt
  have w : IntKind.i32.wrap (x.toNat : Int) = x.toNat := wrap32 (by omega) (by omega)
  refine call_out (F := af97) rfl rfl ?_
  by_cases a1 : x.toNat = 34
  · have i1 : (x.toNat : Int) = 34 := by omega
    simp [af97, af97b, i1, ↓shortR, a1]
    refine Out_cond _ _ _ _ _ _ _ rfl (fun _ => ?_) (fun h => by cases h)
    simp
    refine Out_cond _ _ _ _ _ _ _ rfl (fun _ => ?_) (fun h => by cases h)
    simp [i1, show IntKind.i32.wrap 34 = 34 from by decide]
  have j1 : ¬ (x.toNat : Int) = 34 := by omega
  simp [af97, af97b, j1]
  refine Out_cond _ _ _ _ _ _ _ rfl (fun h => by cases h) (fun _ => ?_)
  by_cases a2 : x.toNat = 92
  · have i1 : (x.toNat : Int) = 92 := by omega
    simp [i1]
    refine Out_cond _ _ _ _ _ _ _ rfl (fun _ => ?_) (fun h => by cases h)
    simp
    refine Out_cond _ _ _ _ _ _ _ rfl (fun _ => ?_) (fun h => by cases h)
    simp [i1, show IntKind.i32.wrap 92 = 92 from by decide, shortR, a2]
  have j2 : ¬ (x.toNat : Int) = 92 := by omega
  simp [j2]
  refine Out_cond _ _ _ _ _ _ _ rfl (fun h => by cases h) (fun _ => ?_)
  by_cases a3 : x.toNat = 47
  · have i1 : (x.toNat : Int) = 47 := by omega
    simp [i1]
    refine Out_cond _ _ _ _ _ _ _ rfl (fun _ => ?_) (fun h => by cases h)
    simp [i1, show IntKind.i32.wrap 47 = 47 from by decide, shortR, a3]
  have j3 : ¬ (x.toNat : Int) = 47 := by omega
  simp [j3]
  refine Out_cond _ _ _ _ _ _ _ rfl (fun h => by cases h) (fun _ => ?_)
  by_cases a4 : x.toNat = 98
  · have i1 : (x.toNat : Int) = 98 := by omega
    simp [i1]
    refine Out_cond _ _ _ _ _ _ _ rfl (fun _ => ?_) (fun h => by cases h)
    simp [shortR, a4]
  have j4 : ¬ (x.toNat : Int) = 98 := by omega
  simp [j4]
  refine Out_cond _ _ _ _ _ _ _ rfl (fun h => by cases h) (fun _ => ?_)
  by_cases a5 : x.toNat = 102
  · have i1 : (x.toNat : Int) = 102 := by omega
    simp [i1]
    refine Out_cond _ _ _ _ _ _ _ rfl (fun _ => ?_) (fun h => by cases h)
    simp [shortR, a5]
  have j5 : ¬ (x.toNat : Int) = 102 := by omega
  simp [j5]
  refine Out_cond _ _ _ _ _ _ _ rfl (fun h => by cases h) (fun _ => ?_)
  by_cases a6 : x.toNat = 110
  · have i1 : (x.toNat : Int) = 110 := by omega
    simp [i1]
    refine Out_cond _ _ _ _ _ _ _ rfl (fun _ => ?_) (fun h => by cases h)
    simp [shortR, a6]
  have j6 : ¬ (x.toNat : Int) = 110 := by omega
  simp [j6]
  refine Out_cond _ _ _ _ _ _ _ rfl (fun h => by cases h) (fun _ => ?_)
  by_cases a7 : x.toNat = 114
  · have i1 : (x.toNat : Int) = 114 := by omega
    simp [i1]
    refine Out_cond _ _ _ _ _ _ _ rfl (fun _ => ?_) (fun h => by cases h)
    simp [shortR, a7]
  have j7 : ¬ (x.toNat : Int) = 114 := by omega
  simp [j7]
  refine Out_cond _ _ _ _ _ _ _ rfl (fun h => by cases h) (fun _ => ?_)
  by_cases a8 : x.toNat = 116
  · have i1 : (x.toNat : Int) = 116 := by omega
    simp [i1]
    refine Out_cond _ _ _ _ _ _ _ rfl (fun _ => ?_) (fun h => by cases h)
    simp [shortR, a8]
  have j8 : ¬ (x.toNat : Int) = 116 := by omega
  simp [j8]
  refine Out_cond _ _ _ _ _ _ _ rfl (fun h => by cases h) (fun _ => ?_)
  simp [shortR, a1, a2, a3, a4, a5, a6, a7, a8]

def hexF : Int → List UInt8 → Int
  | n, [] => n
  | n, d :: ds => if hexD d < 0 then -1 else hexF (n * 16 + hexD d) ds
/-- Four digits behind 5c, u; -1: they aren't there. -/
def unitR : List UInt8 → Int
  | a :: u :: d1 :: d2 :: d3 :: d4 :: _ => if a = 92 ∧ u = 117 then hexF 0 [d1, d2, d3, d4] else -1
  | _ => -1

theorem hexF_ge : ∀ (ds : List UInt8) (n : Int), 0 ≤ n → -1 ≤ hexF n ds
  | [], n, h => by simp only [hexF]; omega
  | d :: ds, n, h => by
    simp only [hexF]
    split
    · omega
    · exact hexF_ge ds _ (by omega)

theorem shl_or {n d : Int} (h0 : 0 ≤ n) (h1 : n < 134217728) (h2 : 0 ≤ d) (h3 : d < 16) :
    evBin .or (.int .i32 (IntKind.i32.wrap (n * 2 ^ (min 4 IntKind.i32.bits)))) (.int .i32 d) = some (.int .i32 (n * 16 + d)) := by
  have m : min 4 IntKind.i32.bits = 4 := by decide
  have w : IntKind.i32.wrap (n * 2 ^ (min 4 IntKind.i32.bits)) = n * 16 := by rw [m, wrap32 (by omega) (by omega)]; rfl
  rw [w]
  have hb : IntKind.i32.bits = 32 := rfl
  simp only [evBin, isSh, intBin, Bool.false_eq_true, if_false, if_true, hb]
  have e1 : (BitVec.ofInt 32 (n * 16) ||| BitVec.ofInt 32 d).toNat = (n * 16 + d).toNat := by
    rw [BitVec.toNat_or, BitVec.toNat_ofInt, BitVec.toNat_ofInt]
    have p : ((2 ^ 32 : Nat) : Int) = 4294967296 := by decide
    rw [p, Int.emod_eq_of_lt (by omega) (by omega), Int.emod_eq_of_lt (by omega) (by omega)]
    have q : (n * 16).toNat = 2 ^ 4 * n.toNat := by omega
    rw [q, ← Nat.two_pow_add_eq_or_of_lt (i := 4) (by omega)]
    omega
  have e2 : (BitVec.ofInt IntKind.i32.bits (n * 16) ||| BitVec.ofInt IntKind.i32.bits d).toNat = (n * 16 + d).toNat := e1
  rw [e2, wrap32 (by omega) (by omega)]
  congr 2
  omega

theorem unitR_short {l : List UInt8} (h : l.length < 6) : unitR l = -1 := by
  rcases l with _ | ⟨_, _ | ⟨_, _ | ⟨_, _ | ⟨_, _ | ⟨_, _ | ⟨_, _⟩⟩⟩⟩⟩⟩ <;> first | rfl | (simp at h; omega)

theorem unitLoop (l r : List UInt8) (hl : l.length ≤ 1000000000) : ∀ (ds pre : List UInt8) (i : Nat) (n : Int) (env : Env) (s : St), l = pre ++ ds ++ r → pre.length = 2 + i → ds.length + i = 4 → 0 ≤ n → (n + 1) * 16 ^ ds.length ≤ 65536 →
    env 0 = .str l → env 3 = .int .i32 n → env 19 = .int .i64 i →
    Out (evC G (.loop false af98l0) env s) (fun e env' s' => s' = s ∧ ((hexF n ds = -1 ∧ e = .ret ∧ env' 2 = .int .i32 (-1)) ∨ (0 ≤ hexF n ds ∧ e = .exit 0 ∧ env' 3 = .int .i32 (hexF n ds)))) := by
  intro ds
  induction ds with
  | nil =>
    intro pre i n env s hle hp hd h0 h1 e0 e3 e19
    have hi : i = 4 := by simpa using hd
    subst hi
    refine Out_loop G false _ _ af98l0.eq_1 _ _ _ ?_
    simp [e19]
    refine Out_cond _ _ _ _ _ _ _ rfl (fun h => by cases h) (fun _ => ?_)
    simp [hexF, e3, h0]
  | cons d ds ih =>
    intro pre i n env s hle hp hd h0 h1 e0 e3 e19
    have hi4 : i < 4 := by simp at hd; omega
    have hi4' : (i : Int) < 4 := by omega
    have hg : l[2 + i]? = some d := by
      rw [hle, List.append_assoc, List.getElem?_append_right (by omega), hp]
      simp
    have hw : IntKind.i64.wrap (2 + (i : Int)) = ((2 + i : Nat) : Int) := by rw [wrap_in (by omega) (by omega)]; omega
    have hgi : l[((2 : Int) + (i : Int)).toNat]? = some d := by rw [show ((2 : Int) + (i : Int)).toNat = 2 + i by omega]; exact hg
    have hge : (0 : Int) ≤ 2 + (i : Int) := by omega
    have hdl := hexD_le d
    have hpow : (16 : Int) ^ (ds.length + 1) = 16 ^ ds.length * 16 := by rw [Int.pow_succ]
    have hpos : (1 : Int) ≤ 16 ^ ds.length := by
      have := Nat.one_le_pow ds.length 16 (by omega)
      have h2 : ((16 ^ ds.length : Nat) : Int) = (16 : Int) ^ ds.length := by simp
      omega
    have hn : n < 4096 := by
      simp only [List.length_cons] at h1
      rw [hpow] at h1
      have : (n + 1) * 16 ≤ (n + 1) * (16 ^ ds.length * 16) := by
        refine Int.mul_le_mul_of_nonneg_left ?_ (by omega)
        omega
      omega
    refine Out_loop G false _ _ af98l0.eq_1 _ _ _ ?_
    simp [e19, hi4']
    refine Out_cond _ _ _ _ _ _ _ rfl (fun _ => ?_) (fun h => by cases h)
    simp [e0, e3, e19, hw, hge, ↓hgi, hexD_spec]
    refine Out_cond _ _ _ _ _ _ _ rfl (fun h => ?_) (fun h => ?_)
    · have q1 : hexD d < 0 := by simpa using h
      simp [hexF, q1]
    · have q1 : ¬ hexD d < 0 := by simpa using h
      have o1 := shl_or (n := n) (d := hexD d) h0 (by omega) (by omega) (by omega)
      have hsh : shBin .shl .i32 n 4 = some (.int .i32 (IntKind.i32.wrap (n * 2 ^ (min 4 IntKind.i32.bits)))) := rfl
      have hw2 : IntKind.i64.wrap ((i : Int) + 1) = ((i + 1 : Nat) : Int) := by rw [wrap_in (by omega) (by omega)]; omega
      simp only [evBin, isSh, intBin, Bool.false_eq_true, if_false, if_true, Option.some.injEq] at o1
      simp [e3, e19, hsh, hw2]
      refine Out.mono (ih (pre ++ [d]) (i + 1) (n * 16 + hexD d) _ s ?_ ?_ ?_ ?_ ?_ ?_ ?_ ?_) ?_
      · rw [hle]; simp
      · simp [hp]; omega
      · simp at hd ⊢; omega
      · omega
      · simp only [List.length_cons] at h1
        rw [hpow] at h1
        have e : (n * 16 + hexD d + 1) * 16 ^ ds.length ≤ ((n + 1) * 16) * 16 ^ ds.length := Int.mul_le_mul_of_nonneg_right (by omega) (by omega)
        have e2 : ((n + 1) * 16) * 16 ^ ds.length = (n + 1) * (16 ^ ds.length * 16) := by rw [Int.mul_assoc, Int.mul_comm 16]
        omega
      · simp [e0]
      · simp at o1 ⊢
        exact o1
      · simp
      · rintro e env' s' ⟨rfl, h⟩
        refine ⟨rfl, ?_⟩
        rw [hexF, if_neg q1]
        exact h

theorem unitR_spec (l : List UInt8) (hl : l.length ≤ 1000000000) (s : St) : call G 98 [.str l] s = some (.int .i32 (unitR l), s) := by
  have b92 : ∀ x : UInt8, ((x.toNat : Int) = 92) ↔ x = 92 := fun x => ⟨fun q => UInt8.toNat_inj.1 (by simp; omega), fun q => by subst q; rfl⟩
  have b117 : ∀ x : UInt8, ((x.toNat : Int) = 117) ↔ x = 117 := fun x => ⟨fun q => UInt8.toNat_inj.1 (by simp; omega), fun q => by subst q; rfl⟩
  refine call_out (F := af98) rfl rfl ?_
  by_cases h6 : l.length < 6
  · have h6' : (l.length : Int) < 6 := by omega
    simp [af98, af98b, h6']
    refine Out_cond _ _ _ _ _ _ _ rfl (fun _ => ?_) (fun h => by cases h)
    simp [unitR_short h6]
  rcases l with _ | ⟨a, _ | ⟨u, _ | ⟨d1, _ | ⟨d2, _ | ⟨d3, _ | ⟨d4, r⟩⟩⟩⟩⟩⟩
  iterate 6 (exact absurd (by simp) h6)
  have h6' : (6 : Int) ≤ (r.length : Int) + 1 + 1 + 1 + 1 + 1 + 1 := by omega
  have h6'' : ¬ ((r.length : Int) + 1 + 1 + 1 + 1 + 1 + 1 < 6) := by omega
  by_cases ha : a = 92
  · by_cases hu : u = 117
    · subst ha hu
      simp [af98, af98b, h6', h6'']
      refine Out_cond _ _ _ _ _ _ _ rfl (fun h => by cases h) (fun _ => ?_)
      simp
      refine Out.mono (unitLoop _ r hl [d1, d2, d3, d4] [92, 117] 0 0 _ s (by simp) rfl rfl (by omega) (by simp) ?_ ?_ ?_) ?_
      · simp
      · simp
      · simp
      rintro e env' s' ⟨rfl, ⟨h1, rfl, h2⟩ | ⟨h1, rfl, h2⟩⟩
      · simp [h2, unitR, h1]
      · simp [h2, unitR]
    · have hu' := mt (b117 u).1 hu
      subst ha
      simp [af98, af98b, h6', h6'', hu']
      refine Out_cond _ _ _ _ _ _ _ rfl (fun _ => ?_) (fun h => by cases h)
      simp [unitR, hu]
  · have ha' := mt (b92 a).1 ha
    simp [af98, af98b, h6', h6'', ha']
    refine Out_cond _ _ _ _ _ _ _ rfl (fun _ => ?_) (fun h => by cases h)
    simp [unitR, ha]

/-- The rune behind a sign 5c, and how many bytes it takes; 0: none. -/
def escR (l : List UInt8) : Int × Nat :=
  if 1 < l.length ∧ (shortR ((l[1]?).getD 0)).2 = true then ((shortR ((l[1]?).getD 0)).1, 2)
  else if unitR l < 0 ∨ (56320 ≤ unitR l ∧ unitR l ≤ 57343) then (0, 0)
  else if unitR l < 55296 ∨ 57343 < unitR l then (unitR l, 6)
  else if unitR (l.drop 6) < 56320 ∨ 57343 < unitR (l.drop 6) then (0, 0)
  else (65536 + (unitR l - 55296) * 1024 + unitR (l.drop 6) - 56320, 12)

theorem hexF_lt : ∀ (ds : List UInt8) (n : Int), 0 ≤ n → (n + 1) * 16 ^ ds.length ≤ 65536 → hexF n ds < 65536
  | [], n, h, h1 => by simp [hexF] at h1 ⊢; omega
  | d :: ds, n, h, h1 => by
    have hdl := hexD_le d
    have hpow : (16 : Int) ^ (ds.length + 1) = 16 ^ ds.length * 16 := by rw [Int.pow_succ]
    have hpos : (0 : Int) ≤ 16 ^ ds.length := by
      exact Int.le_of_lt (Int.pow_pos (by omega))
    simp only [hexF]
    split
    · omega
    · refine hexF_lt ds _ (by omega) ?_
      simp only [List.length_cons] at h1
      rw [hpow] at h1
      have e : (n * 16 + hexD d + 1) * 16 ^ ds.length ≤ ((n + 1) * 16) * 16 ^ ds.length := Int.mul_le_mul_of_nonneg_right (by omega) hpos
      have e2 : ((n + 1) * 16) * 16 ^ ds.length = (n + 1) * (16 ^ ds.length * 16) := by rw [Int.mul_assoc, Int.mul_comm 16]
      omega

theorem unitR_le (l : List UInt8) : -1 ≤ unitR l ∧ unitR l < 65536 ∧ (0 ≤ unitR l → 6 ≤ l.length) := by
  rcases l with _ | ⟨a, _ | ⟨u, _ | ⟨d1, _ | ⟨d2, _ | ⟨d3, _ | ⟨d4, r⟩⟩⟩⟩⟩⟩ <;> try (simp [unitR]; done)
  simp only [unitR]
  split
  · exact ⟨hexF_ge _ _ (by omega), hexF_lt _ _ (by omega) (by simp), fun _ => by simp⟩
  · exact ⟨by omega, by omega, fun h => by omega⟩

theorem escR_spec (l : List UInt8) (hl : l.length ≤ 1000000000) (s : St) : call G 79 [.str l] s = some (.tup [.int .i32 (escR l).1, .int .i64 (escR l).2], s) := by
  have hu := unitR_spec l hl
  obtain ⟨u0, u1, u6⟩ := unitR_le l
  have hs6 : 6 ≤ l.length → evSlcS (.str l) (some (.int .i64 6)) none = some (.str (l.drop 6)) := by
    intro h; simp [evSlcS, bnd, h]
  have hd := unitR_spec (l.drop 6) (by simp; omega)
  obtain ⟨v0, v1, _⟩ := unitR_le (l.drop 6)
  refine call_out (F := af79) rfl rfl ?_
  simp [af79, af79b]
  refine Out.mono (Q := fun e env' s' => s' = s ∧ ((e = .ret ∧ 1 < l.length ∧ (shortR ((l[1]?).getD 0)).2 = true ∧ env' 2 = .int .i32 (shortR ((l[1]?).getD 0)).1 ∧ env' 3 = .int .i64 2) ∨
    (e = .norm ∧ env' 0 = .str l ∧ ¬ (1 < l.length ∧ (shortR ((l[1]?).getD 0)).2 = true)))) ?_ ?_
  · refine Out_cond _ _ _ _ _ _ _ rfl (fun h => ?_) (fun h => ?_)
    · have h' : 1 < l.length := by simp at h; omega
      obtain ⟨x, hx⟩ : ∃ x, l[1]? = some x := ⟨_, List.getElem?_eq_getElem (by omega)⟩
      simp [hx, shortR_spec]
      refine Out_cond _ _ _ _ _ _ _ rfl (fun hq => ?_) (fun hq => ?_)
      · simp [h', hq]
      · simp [hq]
    · simp at h
      simp
      omega
  rintro e env1 s1 ⟨rfl, ⟨rfl, h1, h2, h3, h4⟩ | ⟨rfl, g0, hno⟩⟩
  · simp only [h3, h4, escR, h1, h2, and_self, if_true]
    simp [h3, h4]
  · generalize hU : unitR l = U at *
    simp [g0, hu]
    by_cases c1 : U < 0
    · have c1' : ¬ 0 ≤ U := by omega
      simp [c1, c1']
      refine Out_cond _ _ _ _ _ _ _ rfl (fun _ => ?_) (fun h => by cases h)
      simp [escR, hno, hU, c1]
    have c1' : 0 ≤ U := by omega
    by_cases c2 : 56320 ≤ U
    · by_cases c3 : U ≤ 57343
      · simp [c1, c1', c2, c3]
        refine Out_cond _ _ _ _ _ _ _ rfl (fun _ => ?_) (fun h => by cases h)
        simp [escR, hno, hU, c2, c3]
      · have c4 : ¬ U < 55296 := by omega
        have c4' : 55296 ≤ U := by omega
        have c5 : 57343 < U := by omega
        simp [c1, c1', c2, c3, c5]
        refine Out_cond _ _ _ _ _ _ _ rfl (fun h => by cases h) (fun _ => ?_)
        simp [c4, c4', c5]
        refine Out_cond _ _ _ _ _ _ _ rfl (fun _ => ?_) (fun h => by cases h)
        simp [escR, hno, hU, c1, c3, c5]
    · have c2' : U < 56320 := by omega
      simp [c1, c1', c2, c2']
      refine Out_cond _ _ _ _ _ _ _ rfl (fun h => by cases h) (fun _ => ?_)
      by_cases c4 : U < 55296
      · have c4' : ¬ 55296 ≤ U := by omega
        simp [c4, c4']
        refine Out_cond _ _ _ _ _ _ _ rfl (fun _ => ?_) (fun h => by cases h)
        simp [escR, hno, hU, c1, c2, c4]
      · have c4' : 55296 ≤ U := by omega
        have c5 : ¬ 57343 < U := by omega
        have c5' : U ≤ 57343 := by omega
        simp [c4, c4', c5, c5']
        refine Out_cond _ _ _ _ _ _ _ rfl (fun h => by cases h) (fun _ => ?_)
        simp [g0, hs6 (u6 (by omega)), hd]
        generalize hW : unitR (l.drop 6) = W at *
        by_cases d1 : W < 56320
        · have d1' : ¬ 56320 ≤ W := by omega
          simp [d1, d1']
          refine Out_cond _ _ _ _ _ _ _ rfl (fun _ => ?_) (fun h => by cases h)
          simp [escR, hno, hU, c1, c2, c4, c5, hW, d1]
        · have d1' : 56320 ≤ W := by omega
          by_cases d2 : 57343 < W
          · have d2' : ¬ W ≤ 57343 := by omega
            simp [d1, d1', d2, d2']
            refine Out_cond _ _ _ _ _ _ _ rfl (fun _ => ?_) (fun h => by cases h)
            simp [escR, hno, hU, c1, c2, c4, c5, hW, d2]
          · have d2' : W ≤ 57343 := by omega
            have m10 : min 10 IntKind.i32.bits = 10 := by decide
            have w1 : IntKind.i32.wrap (U - 55296) = U - 55296 := wrap32 (by omega) (by omega)
            have w2 : IntKind.i32.wrap ((U - 55296) * 1024) = (U - 55296) * 1024 := by rw [wrap32 (by omega) (by omega)]
            have w3 : IntKind.i32.wrap (65536 + (U - 55296) * 1024) = 65536 + (U - 55296) * 1024 := wrap32 (by omega) (by omega)
            have w4 : IntKind.i32.wrap (65536 + (U - 55296) * 1024 + W) = 65536 + (U - 55296) * 1024 + W := wrap32 (by omega) (by omega)
            have w5 : IntKind.i32.wrap (65536 + (U - 55296) * 1024 + W - 56320) = 65536 + (U - 55296) * 1024 + W - 56320 := wrap32 (by omega) (by omega)
            simp [d1, d1', d2, d2']
            refine Out_cond _ _ _ _ _ _ _ rfl (fun h => by cases h) (fun _ => ?_)
            simp [shBin, m10, w1, w2, w3, w4, w5, escR, hno, hU, c1, c1', c2, c2', c4, c4', c5, c5', hW, d1, d1', d2, d2']

/-- What is behind the sign is a rune. -/
theorem escR_ok (l : List UInt8) (h : (escR l).2 ≠ 0) : ∃ c : Nat, (escR l).1 = c ∧ runeOk c ∧ (escR l).2 ≤ l.length ∧ 2 ≤ (escR l).2 := by
  obtain ⟨u0, u1, u6⟩ := unitR_le l
  obtain ⟨v0, v1, v6⟩ := unitR_le (l.drop 6)
  unfold escR at h ⊢
  split
  · rename_i hc
    have : ∀ x : UInt8, (shortR x).2 = true → ∃ c : Nat, (shortR x).1 = c ∧ runeOk c := by
      intro x hx
      have := x.toNat_lt
      unfold shortR runeOk at *
      (repeat' split) <;> first | exact ⟨_, rfl, by omega, by omega⟩ | skip
      · exact ⟨8, rfl, by omega, by omega⟩
      · exact ⟨12, rfl, by omega, by omega⟩
      · exact ⟨10, rfl, by omega, by omega⟩
      · exact ⟨13, rfl, by omega, by omega⟩
      · exact ⟨9, rfl, by omega, by omega⟩
      · simp_all
    obtain ⟨c, h1, h2⟩ := this _ hc.2
    exact ⟨c, h1, h2, by omega, by omega⟩
  · rename_i hc
    rw [if_neg hc] at h
    split
    · rename_i hd; rw [if_pos hd] at h; exact absurd rfl h
    · rename_i hd
      rw [if_neg hd] at h
      split
      · exact ⟨(unitR l).toNat, by simp only; omega, ⟨by omega, by omega⟩, u6 (by omega), by simp⟩
      · rename_i he
        rw [if_neg he] at h
        split
        · rename_i hf; rw [if_pos hf] at h; exact absurd rfl h
        · have := v6 (by omega)
          simp only [List.length_drop] at this
          exact ⟨(65536 + (unitR l - 55296) * 1024 + unitR (l.drop 6) - 56320).toNat, by simp only; omega, ⟨by omega, by omega⟩, by simp only; omega, by simp⟩

end Go.Proofs.YtadpobnajjocnaaGreatDoor.Eng

/-
  Quoted texts, read: the text that is built, and the whole. No condition.
-/
namespace Go.Proofs.YtadpobnajjocnaaGreatDoor.Eng
open Go
set_option linter.unusedSimpArgs false
set_option linter.unusedVariables false

attribute [local simp] evC_reg evC_regD evR_cons evR_nil runR_some regK_some evC_ret evC_skip evC_exit Out_seq Out_blk Out_some seqQ_norm seqQ_ret seqQ_exit blkQ_norm blkQ_ret blkQ_exit loopQ_norm loopQ_ret loopQ_exit
attribute [local simp] stepR evOp put upd_apply X.ev initEnv cells_agg cells_int cells_str cells_bool cells_sl cells_ptr cells_pnil cells_fn cells_map vc_length vc_take vc_plain vc_und toVs_plain toPs_plain toVs_und toPs_und takeN evBin isSh intBin strBin callK resOf packR fin V.plain plainL V.und undL scK kill dstsO dstsL dstsR ite_some ite_pair ite_vbool evUn evLoad evLen V.real finLoop_false quietK_false kill_none

theorem app80n_spec (obs : List AObj) (bufs : List (Nat × Nat × TypeId)) (c : Nat) (h0 : 128 ≤ c) (h1 : c ≤ 1114111) (h2 : c < 55296 ∨ 57344 ≤ c) :
    call G 99 [.sl .nil [], .int .i32 c] ⟨obs, bufs⟩ =
      some (.sl (.buf bufs.length) (asBytes (encV c)), ⟨obs, bufs ++ [((encV c).length, 1, 5)]⟩) := by
  have hroom : room = 140737488355328 := by decide
  have w32 : IntKind.u32.wrap (c : Int) = c := wrapU32 (by omega) (by omega)
  have s6 : (c : Int).fdiv 64 = (c : Int) / 64 := Int.fdiv_eq_ediv_of_nonneg _ (by omega)
  have s12 : (c : Int).fdiv 4096 = (c : Int) / 4096 := Int.fdiv_eq_ediv_of_nonneg _ (by omega)
  have s18 : (c : Int).fdiv 262144 = (c : Int) / 262144 := Int.fdiv_eq_ediv_of_nonneg _ (by omega)
  have m6 : min 6 IntKind.i32.bits = 6 := by decide
  have m12 : min 12 IntKind.i32.bits = 12 := by decide
  have m18 : min 18 IntKind.i32.bits = 18 := by decide
  have lw0 : IntKind.u8.wrap (c : Int) = (c : Int) % 256 := wrapU8 (by omega)
  have lw6 : IntKind.u8.wrap ((c : Int) / 64) = (c : Int) / 64 % 256 := wrapU8 (by omega)
  have lw12 : IntKind.u8.wrap ((c : Int) / 4096) = (c : Int) / 4096 % 256 := wrapU8 (by omega)
  have lw18 : IntKind.u8.wrap ((c : Int) / 262144) = (c : Int) / 262144 % 256 := wrapU8 (by omega)
  have t0 : orB 128 (andB ((c : Int) % 256) 63) = 128 + (c : Int) % 64 := by rw [and63 (by omega) (by omega), or128 (by omega) (by omega)]; omega
  have t6 : orB 128 (andB ((c : Int) / 64 % 256) 63) = 128 + (c : Int) / 64 % 64 := by rw [and63 (by omega) (by omega), or128 (by omega) (by omega)]; omega
  have t12 : orB 128 (andB ((c : Int) / 4096 % 256) 63) = 128 + (c : Int) / 4096 % 64 := by rw [and63 (by omega) (by omega), or128 (by omega) (by omega)]; omega
  have hr : 4 ≤ 140737488355328 := by decide
  refine call_out (F := af99) rfl rfl ?_
  simp [-intBin, iB_leq, af99, af99b, w32]
  refine Out_cond _ _ _ _ _ _ _ rfl (fun h => ?_) (fun h => ?_)
  · have hc : c ≤ 2047 := by simp at h; omega
    have o1 : orB 192 ((c : Int) / 64 % 256) = 192 + (c : Int) / 64 := by rw [or192 (by omega) (by omega)]; omega
    have ev : encV c = [UInt8.ofNat (192 + c / 64), UInt8.ofNat (128 + c % 64)] := by simp [encV, show ¬ c < 128 by omega, show c < 2048 by omega]
    have v1 := ofNat_val (n := 192 + c / 64) (by omega)
    have v2 := ofNat_val (n := 128 + c % 64) (by omega)
    have eb : asBytes (encV c) = [.int .u8 (192 + (c : Int) / 64), .int .u8 (128 + (c : Int) % 64)] := by
      rw [ev]
      simp only [asBytes, List.map_cons, List.map_nil, v1, v2]
      simp
    have hr' : 2 ≤ 140737488355328 := by omega
    rw [eb, ev]
    simp [-intBin, iB_or, iB_and, shBin, m6, s6, lw0, lw6, o1, t0, fillS, V.one, evApp, appSrc, asBytes_length, fits_bytes, fits_int, fits_nil, hroom, hr']
  · have hc : ¬ c ≤ 2047 := by simp at h; omega
    simp [-intBin, iB_lss]
    refine Out_cond _ _ _ _ _ _ _ rfl (fun h3 => ?_) (fun h3 => ?_)
    · have hc3 : c < 55296 := by simp at h3; omega
      simp
      refine Out_cond _ _ _ _ _ _ _ rfl (fun _ => ?_) (fun h4 => by simp at h4; omega)
      have o1 : orB 224 ((c : Int) / 4096 % 256) = 224 + (c : Int) / 4096 := by rw [or224 (by omega) (by omega)]; omega
      have ev : encV c = [UInt8.ofNat (224 + c / 4096), UInt8.ofNat (128 + c / 64 % 64), UInt8.ofNat (128 + c % 64)] := by
        simp [encV, show ¬ c < 128 by omega, show ¬ c < 2048 by omega, show c < 65536 by omega]
      have v1 := ofNat_val (n := 224 + c / 4096) (by omega)
      have v2 := ofNat_val (n := 128 + c / 64 % 64) (by omega)
      have v3 := ofNat_val (n := 128 + c % 64) (by omega)
      have eb : asBytes (encV c) = [.int .u8 (224 + (c : Int) / 4096), .int .u8 (128 + (c : Int) / 64 % 64), .int .u8 (128 + (c : Int) % 64)] := by
        rw [ev]
        simp only [asBytes, List.map_cons, List.map_nil, v1, v2, v3]
        simp
      have hr' : 3 ≤ 140737488355328 := by omega
      rw [eb, ev]
      simp [-intBin, iB_or, iB_and, shBin, m6, m12, s6, s12, lw0, lw6, lw12, o1, t0, t6, fillS, V.one, evApp, appSrc, asBytes_length, fits_bytes, fits_int, fits_nil, hroom, hr']
    · have hc3 : ¬ c < 55296 := by simp at h3; omega
      simp [-intBin, iB_lss, iB_leq]
      refine Out_cond _ _ _ _ _ _ _ rfl (fun h4 => ?_) (fun h4 => ?_)
      · have hc4 : c ≤ 65535 := by simp at h4; omega
        have o1 : orB 224 ((c : Int) / 4096 % 256) = 224 + (c : Int) / 4096 := by rw [or224 (by omega) (by omega)]; omega
        have ev : encV c = [UInt8.ofNat (224 + c / 4096), UInt8.ofNat (128 + c / 64 % 64), UInt8.ofNat (128 + c % 64)] := by
          simp [encV, show ¬ c < 128 by omega, show ¬ c < 2048 by omega, show c < 65536 by omega]
        have v1 := ofNat_val (n := 224 + c / 4096) (by omega)
        have v2 := ofNat_val (n := 128 + c / 64 % 64) (by omega)
        have v3 := ofNat_val (n := 128 + c % 64) (by omega)
        have eb : asBytes (encV c) = [.int .u8 (224 + (c : Int) / 4096), .int .u8 (128 + (c : Int) / 64 % 64), .int .u8 (128 + (c : Int) % 64)] := by
          rw [ev]
          simp only [asBytes, List.map_cons, List.map_nil, v1, v2, v3]
          simp
        have hr' : 3 ≤ 140737488355328 := by omega
        rw [eb, ev]
        simp [-intBin, iB_or, iB_and, shBin, m6, m12, s6, s12, lw0, lw6, lw12, o1, t0, t6, fillS, V.one, evApp, appSrc, asBytes_length, fits_bytes, fits_int, fits_nil, hroom, hr']
      · have hc4 : ¬ c ≤ 65535 := by simp at h4; omega
        simp [-intBin, iB_leq, iB_gtr]
        refine Out_cond _ _ _ _ _ _ _ rfl (fun _ => ?_) (fun h5 => by simp at h5; omega)
        have o1 : orB 240 ((c : Int) / 262144 % 256) = 240 + (c : Int) / 262144 := by rw [or240 (by omega) (by omega)]; omega
        have ev : encV c = [UInt8.ofNat (240 + c / 262144), UInt8.ofNat (128 + c / 4096 % 64), UInt8.ofNat (128 + c / 64 % 64), UInt8.ofNat (128 + c % 64)] := by
          simp [encV, show ¬ c < 128 by omega, show ¬ c < 2048 by omega, show ¬ c < 65536 by omega]
        have v1 := ofNat_val (n := 240 + c / 262144) (by omega)
        have v2 := ofNat_val (n := 128 + c / 4096 % 64) (by omega)
        have v3 := ofNat_val (n := 128 + c / 64 % 64) (by omega)
        have v4 := ofNat_val (n := 128 + c % 64) (by omega)
        have eb : asBytes (encV c) = [.int .u8 (240 + (c : Int) / 262144), .int .u8 (128 + (c : Int) / 4096 % 64), .int .u8 (128 + (c : Int) / 64 % 64), .int .u8 (128 + (c : Int) % 64)] := by
          rw [ev]
          simp only [asBytes, List.map_cons, List.map_nil, v1, v2, v3, v4]
          simp
        rw [eb, ev]
        simp [-intBin, iB_or, iB_and, shBin, m6, m12, m18, s6, s12, s18, lw0, lw6, lw12, lw18, o1, t0, t6, t12, fillS, V.one, evApp, appSrc, asBytes_length, fits_bytes, fits_int, fits_nil, hroom, hr]

theorem app65n_spec (obs : List AObj) (bufs : List (Nat × Nat × TypeId)) (c : Nat) (hc : runeOk c) :
    call G 85 [.sl .nil [], .int .i32 c] ⟨obs, bufs⟩ =
      some (.sl (.buf bufs.length) (asBytes (encV c)), ⟨obs, bufs ++ [((encV c).length, 1, 5)]⟩) := by
  obtain ⟨h1, h2⟩ := hc
  have w32 : IntKind.u32.wrap (c : Int) = c := wrapU32 (by omega) (by omega)
  have hr : 4 ≤ 140737488355328 := by decide
  refine call_out (F := af85) rfl rfl ?_
  simp [-intBin, iB_leq, af85, af85b, w32]
  refine Out_cond _ _ _ _ _ _ _ rfl (fun h => ?_) (fun h => ?_)
  · have hc : c < 128 := by simp at h; omega
    have lw0 : IntKind.u8.wrap (c : Int) = c := by rw [wrapU8 (by omega)]; omega
    have v1 := ofNat_val (n := c) (by omega)
    have ev : encV c = [UInt8.ofNat c] := by simp [encV, hc]
    have eb : asBytes (encV c) = [.int .u8 c] := by
      rw [ev]
      simp only [asBytes, List.map_cons, List.map_nil, v1]
    rw [eb, ev]
    have hroom : room = 140737488355328 := by decide
    have hr1 : 1 ≤ 140737488355328 := by omega
    simp [lw0, fillS, V.one, evApp, appSrc, asBytes_length, fits_bytes, fits_int, fits_nil, hroom, hr1]
  · have hc : 128 ≤ c := by simp at h; omega
    simp [app80n_spec obs bufs c hc h1 h2]


theorem rune_bst0 (obs tl : List AObj) (bufs : List (Nat × Nat × TypeId)) (c : Nat) (hc : runeOk c) :
    call G 67 [.ptr obs.length 0, .int .i32 c] (bst0 obs tl bufs) = some (.tup [.int .i64 (encV c).length, .nilI], bst obs tl bufs (encV c)) := by
  have hl := encV_len c
  have hw : IntKind.i64.wrap (((encV c).length : Int) - 0) = (encV c).length := by rw [wrap_in (by omega) (by omega)]; omega
  have h65 := fun o => app65n_spec o bufs c hc
  refine call_out (F := af67) rfl rfl ?_
  simp [af67, af67b, copy_bst0]
  simp [bst, bst1, bObj, asBytes_length]
  simp at h65 hw
  simp [h65, evStore, V.one, putL, asBytes_length, hw]

/-- A builder that holds a text. -/
def ust (o : List AObj) (bufs : List (Nat × Nat × TypeId)) (acc : List UInt8) : St := if acc = [] then bst0 o [] bufs else bst o [] bufs acc

theorem rune_ust (o : List AObj) (bufs : List (Nat × Nat × TypeId)) (acc : List UInt8) (c : Nat) (hc : runeOk c) (hr : acc.length ≤ 4000000000) :
    ∃ v, call G 67 [.ptr o.length 0, .int .i32 c] (ust o bufs acc) = some (v, ust o bufs (acc ++ encV c)) := by
  have hl := encV_len c
  have hne : acc ++ encV c ≠ [] := fun q => by
    have := congrArg List.length q
    simp at this
    rw [this.2] at hl
    simp at hl
  unfold ust
  rw [if_neg hne]
  by_cases h : acc = []
  · subst h
    exact ⟨_, by simpa using rune_bst0 o [] bufs c hc⟩
  · rw [if_neg h]
    exact ⟨_, rune_bst o [] bufs acc c hc (by omega)⟩

theorem string_ust (o : List AObj) (bufs : List (Nat × Nat × TypeId)) (acc : List UInt8) (hr : acc.length ≤ 4000000000) : call G 49 [.ptr o.length 0] (ust o bufs acc) = some (.str acc, ust o bufs acc) := by
  unfold ust
  by_cases h : acc = []
  · subst h
    simp only [if_true]
    refine call_out (F := af49) rfl rfl ?_
    simp [-fin, af49, af49b, bst0]
    exact fin_same _ _ rfl
  · rw [if_neg h]
    exact string_bst o [] bufs acc h (by omega)

theorem fin_ust (o : List AObj) (bufs : List (Nat × Nat × TypeId)) (acc : List UInt8) (r : V) (h : r.plain.und o.length 0 = true) : fin false ⟨o, bufs⟩ (ust o bufs acc) r = (r.plain, ⟨o, bufs⟩) := by
  unfold ust
  split
  · unfold fin
    rw [if_neg (by simp), if_pos]
    · simp [bst0]
    · exact ⟨by simp [bst0], h⟩
  · exact fin_bst o [] bufs acc r h

end Go.Proofs.YtadpobnajjocnaaGreatDoor.Eng

/-
  Quoted texts, read. No condition.
-/
namespace Go.Proofs.YtadpobnajjocnaaGreatDoor.Eng
open Go
set_option linter.unusedSimpArgs false
set_option linter.unusedVariables false

attribute [local simp] evC_reg evC_regD evR_cons evR_nil runR_some regK_some evC_ret evC_skip evC_exit Out_seq Out_blk Out_some seqQ_norm seqQ_ret seqQ_exit blkQ_norm blkQ_ret blkQ_exit loopQ_norm loopQ_ret loopQ_exit
attribute [local simp] stepR evOp put upd_apply X.ev initEnv cells_agg cells_int cells_str cells_bool cells_sl cells_ptr cells_pnil cells_fn cells_map vc_length vc_take vc_plain vc_und toVs_plain toPs_plain toVs_und toPs_und takeN evBin isSh intBin strBin callK resOf packR V.plain plainL V.und undL scK kill dstsO dstsL dstsR ite_some ite_pair ite_vbool evUn evLoad evLen V.real finLoop_false quietK_false kill_none

def ubody : Nat → List UInt8 → List UInt8 → PR (List UInt8)
  | 0, l, _ => .err l 4
  | f + 1, l, acc =>
    if l = [] then .err [] 4
    else if (decV l 0).1 = 34 then .ok acc (l.drop 1)
    else if (decV l 0).1 < 32 then .err l 4
    else if (decV l 0).1 = 65533 ∧ (decV l 0).2 = 1 then .err l 2
    else if (decV l 0).1 = 92 then
      if (escR l).2 = 0 then .err l 4 else ubody f (l.drop (escR l).2) (acc ++ encV (escR l).1.toNat)
    else ubody f (l.drop (decV l 0).2) (acc ++ encV (decV l 0).1)

def punq (l : List UInt8) : PR (List UInt8) := if begs l [34] = true then ubody l.length (l.drop 1) [] else .err l 4

def prT : PR (List UInt8) → List UInt8
  | .ok t _ => t
  | .err _ _ => []
def PR.rest {α : Type} : PR α → List UInt8
  | .ok _ l => l
  | .err l _ => l
def PR.e {α : Type} : PR α → Int
  | .ok _ _ => 0
  | .err _ e => e

theorem ubody_suf : ∀ (f : Nat) (l acc : List UInt8), (ubody f l acc).rest <:+ l
  | 0, l, acc => List.suffix_refl _
  | f + 1, l, acc => by
    unfold ubody
    split
    · rename_i h; subst h; exact List.suffix_refl _
    · split
      · exact List.drop_suffix _ _
      · split
        · exact List.suffix_refl _
        · split
          · exact List.suffix_refl _
          · split
            · split
              · exact List.suffix_refl _
              · exact (ubody_suf f _ _).trans (List.drop_suffix _ _)
            · exact (ubody_suf f _ _).trans (List.drop_suffix _ _)
theorem punq_suf (l : List UInt8) : (punq l).rest <:+ l := by
  unfold punq
  split
  · exact (ubody_suf _ _ _).trans (List.drop_suffix _ _)
  · exact List.suffix_refl _

theorem unqLoop {q : List UInt8} (hq : q.length ≤ 1000000000) (o : List AObj) (bufs : List (Nat × Nat × TypeId)) : ∀ (f : Nat) (l acc : List UInt8) (env : Env), l <:+ q → l.length < f → acc.length + 4 * l.length ≤ 4000000000 → env 0 = .str q → env 5 = .ptr o.length 0 →
    env 6 = .int .i64 ((q.length - l.length : Nat) : Int) →
    Out (evC G (.loop false af60l0) env (ust o bufs acc)) (fun e env' s' => (∃ acc', s' = ust o bufs acc') ∧
      ((e = .exit 0 ∧ env' 0 = .str q ∧ ubody f l acc = .err [] 4) ∨
       (e = .ret ∧ env' 2 = .str (prT (ubody f l acc)) ∧ env' 3 = .int .i64 ((q.length - (ubody f l acc).rest.length : Nat) : Int) ∧ env' 4 = .int .i64 (ubody f l acc).e))) := by
  intro f
  induction f with
  | zero => intro l acc env hl hf; omega
  | succ f ih =>
    intro l acc env hl hf hacc h0 h5 h6
    have hlen := suf_len hl
    refine Out_loop G false _ _ af60l0.eq_1 _ _ _ ?_
    by_cases hn : l = []
    · subst hn
      simp [h0, h6]
      refine Out_cond _ _ _ _ _ _ _ rfl (fun h => by cases h) (fun _ => ?_)
      simp [h0, ubody]
      exact ⟨acc, rfl⟩
    have hpos : 0 < l.length := by
      rcases Nat.eq_zero_or_pos l.length with h | h
      · exact absurd (List.length_eq_zero_iff.1 h) hn
      · exact h
    have hlt : ((q.length - l.length : Nat) : Int) < (q.length : Int) := by omega
    have hlt' : q.length - l.length < q.length := by omega
    have hsl : evSlcS (.str q) (some (.int .i64 ((q.length - l.length : Nat) : Int))) none = some (.str l) := by
      simp [evSlcS, bnd, suf_drop hl]
    have hdec : ∀ s, call G 25 [.str l] s = some (.tup [.int .i32 ((decV l 0).1 : Nat), .int .i64 ((decV l 0).2 : Nat)], s) := fun s => by
      have h1 := dec_spec l s
      have h2 := decGo_drop l 0 hpos
      rw [List.drop_zero] at h2
      rw [h2] at h1
      exact h1
    obtain ⟨d1, d2, d3⟩ := decV_le l 0 hpos
    have hrok := decV_ok l 0 hpos
    simp only [Nat.zero_add] at d2
    unfold ubody
    rw [if_neg hn]
    generalize hC : (decV l 0).1 = c at *
    generalize hN : (decV l 0).2 = n at *
    simp [h0, h6, hlt']
    refine Out_cond _ _ _ _ _ _ _ rfl (fun _ => ?_) (fun h => by cases h)
    simp [h0, h6, hsl, hdec]
    by_cases c1 : c = 34
    · have i1 : (c : Int) = 34 := by omega
      have hw : IntKind.i64.wrap (((q.length - l.length : Nat) : Int) + 1) = ((q.length - (l.drop 1).length : Nat) : Int) := by rw [pos_drop hl hpos, wrap_in (by omega) (by omega)]; omega
      simp [i1, c1]
      refine Out_cond _ _ _ _ _ _ _ rfl (fun _ => ?_) (fun h => by cases h)
      simp at hw
      simp [h5, h6, string_ust o bufs acc (by omega), hw, prT, PR.rest, PR.e]
      exact ⟨acc, rfl⟩
    have i1 : ¬ (c : Int) = 34 := by omega
    rw [if_neg c1]
    simp [i1, c1]
    refine Out_cond _ _ _ _ _ _ _ rfl (fun h => by cases h) (fun _ => ?_)
    by_cases c2 : c < 32
    · have i2 : (c : Int) < 32 := by omega
      simp [i2, c2]
      refine Out_cond _ _ _ _ _ _ _ rfl (fun _ => ?_) (fun h => by cases h)
      simp [h6, prT, PR.rest, PR.e]
      exact ⟨acc, rfl⟩
    have i2 : ¬ (c : Int) < 32 := by omega
    rw [if_neg c2]
    simp [i2]
    refine Out_cond _ _ _ _ _ _ _ rfl (fun h => by first | cases h | (simp at h; omega)) (fun _ => ?_)
    have hn4 : ∀ c', (encV c').length ≤ 4 := fun c' => (encV_len c').2
    have hadd : ∀ m : Nat, 1 ≤ m → m ≤ l.length → IntKind.i64.wrap (((q.length - l.length : Nat) : Int) + (m : Int)) = ((q.length - (l.drop m).length : Nat) : Int) := fun m h1 h2 => by
      rw [pos_drop hl h2, wrap_in (by omega) (by omega)]; omega
    have next : ∀ (c' m : Nat) (env : Env), runeOk c' → 1 ≤ m → m ≤ l.length → env 0 = .str q → env 5 = .ptr o.length 0 → env 6 = .int .i64 ((q.length - (l.drop m).length : Nat) : Int) →
        Out (evC G (.loop false af60l0) env (ust o bufs (acc ++ encV c'))) (fun e env' s' => (∃ acc', s' = ust o bufs acc') ∧
          ((e = .exit 0 ∧ env' 0 = .str q ∧ ubody f (l.drop m) (acc ++ encV c') = .err [] 4) ∨
           (e = .ret ∧ env' 2 = .str (prT (ubody f (l.drop m) (acc ++ encV c'))) ∧ env' 3 = .int .i64 ((q.length - (ubody f (l.drop m) (acc ++ encV c')).rest.length : Nat) : Int) ∧ env' 4 = .int .i64 (ubody f (l.drop m) (acc ++ encV c')).e))) := by
      intro c' m env hr hm1 hm2 g0 g5 g6
      refine ih (l.drop m) (acc ++ encV c') env ((List.drop_suffix _ _).trans hl) ?_ ?_ g0 g5 g6
      · simp only [List.length_drop]; omega
      · have := hn4 c'
        simp only [List.length_drop, List.length_append]; omega
    by_cases c3 : c = 65533 ∧ n = 1
    · have i3 : (c : Int) = 65533 := by omega
      have i4 : (n : Int) = 1 := by omega
      simp [i3, i4, c3]
      refine Out_cond _ _ _ _ _ _ _ rfl (fun _ => ?_) (fun h => by cases h)
      simp [h6, prT, PR.rest, PR.e]
      exact ⟨acc, rfl⟩
    rw [if_neg c3]
    rw [Out_seq]
    refine Out.mono (Q := fun e env' s' => e = .norm ∧ s' = ust o bufs acc ∧ env' 33 = .bool false ∧ env' 0 = .str q ∧ env' 5 = .ptr o.length 0 ∧ env' 6 = .int .i64 ((q.length - l.length : Nat) : Int) ∧ env' 7 = .int .i32 c ∧ env' 8 = .int .i64 n) ?_ ?_
    · by_cases e3 : c = 65533
      · have i3 : (c : Int) = 65533 := by omega
        have i4 : ¬ (n : Int) = 1 := fun h => c3 ⟨e3, by omega⟩
        simp [h0, h5, h6, i3, i4]
      · have i3 : ¬ (c : Int) = 65533 := by omega
        simp [h0, h5, h6, i3]
    rintro e env1 s1 ⟨rfl, rfl, g33, g0, g5, g6, g7, g8⟩
    simp
    refine Out_cond _ _ _ _ _ _ _ g33 (fun h => by cases h) (fun _ => ?_)
    by_cases c4 : c = 92
    · have i4 : (c : Int) = 92 := by omega
      have he := escR_spec l (by omega)
      simp [g7, i4, c4]
      refine Out_cond _ _ _ _ _ _ _ rfl (fun _ => ?_) (fun h => by cases h)
      by_cases hz : (escR l).2 = 0
      · simp [g0, g6, hsl, he, hz]
        refine Out_cond _ _ _ _ _ _ _ rfl (fun _ => ?_) (fun h => by cases h)
        simp [g6, prT, PR.rest, PR.e]
        exact ⟨acc, rfl⟩
      · obtain ⟨c', k1, k2, k3, k4⟩ := escR_ok l hz
        have hz' : ¬ (((escR l).2 : Nat) : Int) = 0 := by omega
        obtain ⟨v, hv⟩ := rune_ust o bufs acc c' k2 (by omega)
        have hto : (escR l).1.toNat = c' := by rw [k1]; rfl
        have ha := hadd (escR l).2 (by omega) k3
        simp [g0, g6, hsl, he, hz, hz', k1]
        refine Out_cond _ _ _ _ _ _ _ rfl (fun h => by cases h) (fun _ => ?_)
        simp at ha
        simp [g0, g5, g6, hv, ha]
        refine Out.mono (next c' (escR l).2 _ k2 (by omega) k3 ?_ ?_ ?_) (fun e env' s' h => h)
        · simp [g0]
        · simp [g5]
        · simp
    · have i4 : ¬ (c : Int) = 92 := by omega
      obtain ⟨v, hv⟩ := rune_ust o bufs acc c hrok (by omega)
      have ha := hadd n d1 d2
      simp [g7, i4, c4]
      refine Out_cond _ _ _ _ _ _ _ rfl (fun h => by cases h) (fun _ => ?_)
      simp at ha
      simp [g0, g5, g6, g7, g8, hv, ha]
      refine Out.mono (next c n _ hrok d1 d2 ?_ ?_ ?_) (fun e env' s' h => h)
      · simp [g0]
      · simp [g5]
      · simp

theorem unq_spec {q : List UInt8} (hq : q.length ≤ 1000000000) (s : St) :
    call G 60 [.str q] s = some (.tup [.str (prT (punq q)), .int .i64 ((q.length - (punq q).rest.length : Nat) : Int), .int .i64 (punq q).e], s) := by
  have hh := hp_spec q [34] (by omega) s
  refine call_out (F := af60) rfl rfl ?_
  unfold punq
  by_cases hb : begs q [34] = true
  · have hq1 : 1 ≤ q.length := begs_len hb
    rw [if_pos hb]
    simp [af60, af60b, hh, hb]
    refine Out_cond _ _ _ _ _ _ _ rfl (fun h => by cases h) (fun _ => ?_)
    simp
    have e0 : (⟨s.obs ++ [.cells 69 [.pnil, .sl .nil []]], s.bufs⟩ : St) = ust s.obs s.bufs [] := by simp [ust, bst0]
    rw [e0]
    refine Out.mono (unqLoop hq s.obs s.bufs q.length (q.drop 1) [] _ (List.drop_suffix _ _) ?_ ?_ ?_ ?_ ?_) ?_
    · simp only [List.length_drop]; omega
    · simp only [List.length_drop, List.length_nil]; omega
    · simp
    · simp
    · simp only [List.length_drop]
      simp
      omega
    rintro e env' s' ⟨⟨acc', rfl⟩, ⟨rfl, h0, hU⟩ | ⟨rfl, h2, h3, h4⟩⟩
    · rw [List.drop_one] at hU
      simp only [hU]
      simp [h0, prT, PR.rest, PR.e]
      exact fin_ust s.obs s.bufs acc' (.tup [.str _, .int _ _, .int _ _]) rfl
    · rw [List.drop_one] at h2 h3 h4
      generalize ubody q.length q.tail [] = R at *
      simp [h2, h3, h4]
      exact fin_ust s.obs s.bufs acc' (.tup [.str _, .int _ _, .int _ _]) rfl
  · rw [if_neg hb]
    simp [af60, af60b, hh, hb]
    refine Out_cond _ _ _ _ _ _ _ rfl (fun _ => ?_) (fun h => by cases h)
    simp [prT, PR.rest, PR.e]
    exact fin_id s (v := .tup _) rfl

end Go.Proofs.YtadpobnajjocnaaGreatDoor.Eng

/-
  A text comes again from its quoting. No condition.
-/
namespace Go.Proofs.YtadpobnajjocnaaGreatDoor.Eng
open Go
set_option linter.unusedSimpArgs false
set_option linter.unusedVariables false

theorem ofN {n : Nat} (h : n < 256) : (UInt8.ofNat n).toNat = n := by rw [UInt8.toNat_ofNat']; omega

theorem sizeV_enc (c : Nat) (y : List UInt8) (hc : runeOk c) : sizeV (encV c ++ y) 0 = ((encV c).length, c) := by
  unfold runeOk at hc
  unfold encV
  split
  · rename_i h
    simp [sizeV, ofN (show c < 256 by omega), h]
  · split
    · rename_i h1 h2
      have e0 : (UInt8.ofNat (192 + c / 64)).toNat = 192 + c / 64 := ofN (by omega)
      have e1 : (UInt8.ofNat (128 + c % 64)).toNat = 128 + c % 64 := ofN (by omega)
      generalize UInt8.ofNat (192 + c / 64) = x0 at *
      generalize UInt8.ofNat (128 + c % 64) = x1 at *
      have g0 : ([x0, x1] ++ y).getD 0 0 = x0 := rfl
      have g1 : ([x0, x1] ++ y).getD (0 + 1) 0 = x1 := rfl
      have hl : ([x0, x1] ++ y).length = y.length + 2 := by simp
      simp only [sizeV, g0]
      rw [if_neg (by omega), if_pos (by omega), if_neg (by omega)]
      simp only [contV, g1, Nat.reduceSub]
      rw [if_neg (by omega)]
      simp only
      rw [if_neg (by omega)]
      simp
      omega
    · split
      · rename_i h1 h2 h3
        have e0 : (UInt8.ofNat (224 + c / 4096)).toNat = 224 + c / 4096 := ofN (by omega)
        have e1 : (UInt8.ofNat (128 + c / 64 % 64)).toNat = 128 + c / 64 % 64 := ofN (by omega)
        have e2 : (UInt8.ofNat (128 + c % 64)).toNat = 128 + c % 64 := ofN (by omega)
        generalize UInt8.ofNat (224 + c / 4096) = x0 at *
        generalize UInt8.ofNat (128 + c / 64 % 64) = x1 at *
        generalize UInt8.ofNat (128 + c % 64) = x2 at *
        have g0 : ([x0, x1, x2] ++ y).getD 0 0 = x0 := rfl
        have g1 : ([x0, x1, x2] ++ y).getD (0 + 1) 0 = x1 := rfl
        have g2 : ([x0, x1, x2] ++ y).getD (0 + (1 + 1)) 0 = x2 := rfl
        have hl : ([x0, x1, x2] ++ y).length = y.length + 3 := by simp
        simp only [sizeV, g0]
        rw [if_neg (by omega), if_neg (by omega), if_pos (by omega), if_neg (by omega)]
        simp only [contV, g1, g2, Nat.reduceSub]
        rw [if_neg (by omega), if_neg (by omega)]
        simp only
        rw [if_neg (by omega)]
        simp
        omega
      · rename_i h1 h2 h3
        have e0 : (UInt8.ofNat (240 + c / 262144)).toNat = 240 + c / 262144 := ofN (by omega)
        have e1 : (UInt8.ofNat (128 + c / 4096 % 64)).toNat = 128 + c / 4096 % 64 := ofN (by omega)
        have e2 : (UInt8.ofNat (128 + c / 64 % 64)).toNat = 128 + c / 64 % 64 := ofN (by omega)
        have e3 : (UInt8.ofNat (128 + c % 64)).toNat = 128 + c % 64 := ofN (by omega)
        generalize UInt8.ofNat (240 + c / 262144) = x0 at *
        generalize UInt8.ofNat (128 + c / 4096 % 64) = x1 at *
        generalize UInt8.ofNat (128 + c / 64 % 64) = x2 at *
        generalize UInt8.ofNat (128 + c % 64) = x3 at *
        have g0 : ([x0, x1, x2, x3] ++ y).getD 0 0 = x0 := rfl
        have g1 : ([x0, x1, x2, x3] ++ y).getD (0 + 1) 0 = x1 := rfl
        have g2 : ([x0, x1, x2, x3] ++ y).getD (0 + (1 + 1)) 0 = x2 := rfl
        have g3 : ([x0, x1, x2, x3] ++ y).getD (0 + (1 + 1 + 1)) 0 = x3 := rfl
        have hl : ([x0, x1, x2, x3] ++ y).length = y.length + 4 := by simp
        simp only [sizeV, g0]
        rw [if_neg (by omega), if_neg (by omega), if_neg (by omega), if_pos (by omega), if_neg (by omega)]
        simp only [contV, g1, g2, g3, Nat.reduceSub]
        rw [if_neg (by omega), if_neg (by omega), if_neg (by omega)]
        simp only
        rw [if_neg (by omega)]
        simp
        omega

theorem decV_enc (c : Nat) (y : List UInt8) (hc : runeOk c) : decV (encV c ++ y) 0 = (c, (encV c).length) := by
  have hpos : 0 < (encV c).length := by
    unfold encV
    (repeat' split) <;> simp
  have h := sizeV_dec (encV c ++ y) 0 (by simp; omega)
  rw [sizeV_enc c y hc] at h
  split at h
  · simp only [Prod.mk.injEq] at h; omega
  · simp only [Prod.mk.injEq] at h
    exact Prod.ext h.2.symm h.1.symm

def escOk (c : Nat) : Bool :=
  match escV c with
  | [] => true
  | [a, x] => decide (a = 92) && decide (shortR x = ((c : Int), true))
  | [a, u, x1, x2, x3, x4] => decide (a = 92) && decide (u = 117) && decide (hexF 0 [x1, x2, x3, x4] = (c : Int))
  | _ => false
set_option maxRecDepth 100000 in
theorem escTab : ∀ c : Fin 128, escOk c.val = true := by decide

theorem escV_big {c : Nat} (h : 128 ≤ c) : escV c = [] := by
  unfold escV
  repeat (rw [if_neg (by omega)])

/-- What is escaped is told again. -/
theorem escR_esc (c : Nat) (y : List UInt8) (h : escV c ≠ []) : escR (escV c ++ y) = ((c : Int), (escV c).length) ∧ ∃ t, escV c = 92 :: t := by
  have hc : c < 128 := by
    apply Decidable.byContradiction
    intro hn
    exact h (escV_big (by omega))
  have ht := escTab ⟨c, hc⟩
  simp only [escOk] at ht
  split at ht
  · rename_i e; exact absurd e h
  · rename_i a x e
    simp only [Bool.and_eq_true, decide_eq_true_eq] at ht
    obtain ⟨rfl, hs⟩ := ht
    rw [e]
    refine ⟨?_, _, rfl⟩
    simp [escR, hs]
  · rename_i a u x1 x2 x3 x4 e
    simp only [Bool.and_eq_true, decide_eq_true_eq] at ht
    obtain ⟨⟨rfl, rfl⟩, hx⟩ := ht
    rw [e]
    refine ⟨?_, _, rfl⟩
    have hu : unitR ([92, 117, x1, x2, x3, x4] ++ y) = (c : Int) := by
      simp only [List.cons_append, List.nil_append, unitR]
      rw [if_pos (by decide), hx]
    have hsh : (shortR 117).2 = false := by decide
    unfold escR
    rw [hu]
    rw [if_neg (by simp [hsh]), if_neg (by omega), if_pos (by omega)]
    rfl
  · cases ht

theorem ubody_quote (b : List UInt8) : ∀ (g f p : Nat) (acc x : List UInt8), p ≤ b.length → b.length < p + g → badV b g p = -1 → (quoteB b g p ++ 34 :: x).length ≤ f →
    ubody f (quoteB b g p ++ 34 :: x) acc = .ok (acc ++ b.drop p) x
  | 0, f, p, acc, x, hp, hg, _, _ => by omega
  | g + 1, f, p, acc, x, hp, hg, hb, hf => by
    have hf0 : f ≠ 0 := by
      intro q
      subst q
      simp at hf
    obtain ⟨f, rfl⟩ : ∃ k, f = k + 1 := ⟨f - 1, by omega⟩
    rw [quoteB] at hf ⊢
    by_cases hlt : p < b.length
    · rw [if_pos hlt] at hf ⊢
      obtain ⟨hs, hb'⟩ := badV_neg b g p hlt hb
      obtain ⟨h1, h2⟩ := size_bytes b p hlt hs
      have hle := sizeV_le b p hlt
      have hd : sizeV b p = ((decV b p).2, (decV b p).1) := by
        have := sizeV_dec b p hlt
        split at this
        · rw [this] at hs; simp at hs
        · exact this
      have hok := decV_ok b p hlt
      have hd1 : (decV b p).1 = (sizeV b p).2 := by rw [hd]
      have hd2 : (decV b p).2 = (sizeV b p).1 := by rw [hd]
      rw [hd1] at hok
      rw [hd1, hd2] at hf ⊢
      generalize hc : (sizeV b p).2 = c at *
      generalize hn : (sizeV b p).1 = n at *
      have hsplit : encV c ++ b.drop (p + n) = b.drop p := by rw [h1, ← List.drop_drop, List.take_append_drop]
      have hlen := hf
      simp only [List.length_append, List.length_cons] at hlen
      have hend : ∀ k, (quoteB b g (p + n) ++ 34 :: x).length ≤ k → ubody k (quoteB b g (p + n) ++ 34 :: x) (acc ++ encV c) = .ok (acc ++ b.drop p) x := fun k hk => by
        rw [ubody_quote b g k (p + n) _ x (by omega) (by omega) hb' hk, List.append_assoc, hsplit]
      have hpos : 0 < (encV c).length := by
        unfold encV
        (repeat' split) <;> simp
      by_cases he : escV c = []
      · have ho : outV c = encV c := by simp [outV, he]
        rw [ho] at hlen ⊢
        have hne : c ≠ 34 ∧ c ≠ 92 ∧ ¬ c < 32 := by
          refine ⟨?_, ?_, ?_⟩
          · rintro rfl; revert he; decide
          · rintro rfl; revert he; decide
          · intro h32
            have : ∀ k : Fin 32, escV k.val ≠ [] := by decide
            exact this ⟨c, h32⟩ he
        have hdv := decV_enc c (quoteB b g (p + n) ++ 34 :: x) hok
        rw [List.append_assoc, ubody, hdv]
        simp only
        rw [if_neg (by intro q; have := congrArg List.length q; simp at this), if_neg hne.1, if_neg hne.2.2, if_neg (by
          rintro ⟨q1, q2⟩
          subst q1
          revert q2
          decide), if_neg hne.2.1, List.drop_left]
        exact hend f (by simp only [List.length_append, List.length_cons]; omega)
      · obtain ⟨her, t, ht⟩ := escR_esc c (quoteB b g (p + n) ++ 34 :: x) he
        have ho : outV c = escV c := by simp [outV, he]
        rw [ho] at hlen ⊢
        have hel : (escV c).length ≠ 0 := by rw [ht]; simp
        have hdv : decV (escV c ++ (quoteB b g (p + n) ++ 34 :: x)) 0 = (92, 1) := by
          rw [ht]
          exact decV_enc 92 (t ++ (quoteB b g (p + n) ++ 34 :: x)) (by unfold runeOk; omega)
        rw [List.append_assoc, ubody, hdv, her]
        simp only
        rw [if_neg (by rw [ht]; simp), if_neg (by decide), if_neg (by decide), if_neg (by decide), if_pos trivial, if_neg hel, List.drop_left]
        exact hend f (by simp only [List.length_append, List.length_cons]; omega)
    · rw [if_neg hlt, List.nil_append, ubody]
      have hdv : decV (34 :: x) 0 = (34, 1) := decV_enc 34 x (by unfold runeOk; omega)
      rw [hdv]
      simp only
      have hb0 : b.drop p = [] := List.drop_of_length_le (by omega)
      rw [if_neg (by simp), if_pos trivial, hb0]
      simp

theorem punq_quote (s x : List UInt8) (h : rightV s = true) : punq (quoteV s ++ x) = .ok s x := by
  have hq : quoteV s ++ x = 34 :: (quoteB s (s.length + 1) 0 ++ 34 :: x) := by simp [quoteV]
  rw [hq]
  unfold punq
  rw [if_pos (by simp [begs])]
  have := ubody_quote s (s.length + 1) (34 :: (quoteB s (s.length + 1) 0 ++ 34 :: x)).length 0 [] x (by omega) (by omega) (by simpa [rightV] using h) (by simp)
  simpa using this
theorem skp_id {c : UInt8} (h : isBl c = false) (t : List UInt8) : skp (c :: t) = c :: t := by simp [skp, h]

end Go.Proofs.YtadpobnajjocnaaGreatDoor.Eng

/-
  The reference's reader: blanks, signs, digits. No condition.
-/
namespace Go.Proofs.YtadpobnajjocnaaGreatDoor.Eng
open Go
set_option linter.unusedSimpArgs false
set_option linter.unusedVariables false

attribute [local simp] evC_reg evC_regD evR_cons evR_nil runR_some regK_some evC_ret evC_skip evC_exit Out_seq Out_blk Out_some seqQ_norm seqQ_ret seqQ_exit blkQ_norm blkQ_ret blkQ_exit loopQ_norm loopQ_ret loopQ_exit
attribute [local simp] stepR evOp put upd_apply X.ev initEnv cells_agg cells_int cells_str cells_bool cells_sl cells_ptr cells_pnil cells_fn cells_map vc_length vc_take vc_plain vc_und toVs_plain toPs_plain toVs_und toPs_und takeN evBin isSh intBin strBin callK resOf packR V.plain plainL V.und undL scK kill dstsO dstsL dstsR ite_some ite_pair ite_vbool evUn evLoad evLen V.real finLoop_false quietK_false kill_none

/-- Does a byte stand there? -/
def hasB (l : List UInt8) (c : UInt8) : Bool := decide (l[0]? = some c)
/-- A digit? -/
def digB (l : List UInt8) : Bool := match l with | x :: _ => isDig x | [] => false

theorem at_get {b l : List UInt8} {c : UInt8} (h : (c :: l) <:+ b) : b[((b.length - (l.length + 1) : Nat) : Int).toNat]? = some c := by
  rw [Int.toNat_natCast]
  have := suf_get h
  simpa using this

end Go.Proofs.YtadpobnajjocnaaGreatDoor.Eng

/-
  The reference's runes, told. No condition.
-/
namespace Go.Proofs.YtadpobnajjocnaaGreatDoor.Eng
open Go
set_option linter.unusedSimpArgs false
set_option linter.unusedVariables false

attribute [local simp] evC_reg evC_regD evR_cons evR_nil runR_some regK_some evC_ret evC_skip evC_exit Out_seq Out_blk Out_some seqQ_norm seqQ_ret seqQ_exit blkQ_norm blkQ_ret blkQ_exit loopQ_norm loopQ_ret loopQ_exit
attribute [local simp] stepR evOp put upd_apply X.ev initEnv cells_agg cells_int cells_str cells_bool cells_sl cells_ptr cells_pnil cells_fn cells_map vc_length vc_take vc_plain vc_und toVs_plain toPs_plain toVs_und toPs_und takeN evBin isSh intBin strBin callK resOf packR V.plain plainL V.und undL scK kill dstsO dstsL dstsR ite_some ite_pair ite_vbool evUn evLoad evLen V.real finLoop_false quietK_false kill_none

theorem tdivN (a b : Nat) : ((a : Int)).tdiv (b : Int) = ((a / b : Nat) : Int) := by
  rw [Int.tdiv_eq_ediv_of_nonneg (by omega)]; rfl
theorem tmodN' (a b : Nat) : ((a : Int)).tmod (b : Int) = ((a % b : Nat) : Int) := by
  rw [Int.tmod_eq_emod_of_nonneg (by omega)]; rfl

theorem bytesOf_cons (n : Nat) (h : n < 256) (vs : List V) (r : List UInt8) (hr : bytesOf vs = some r) : bytesOf (.int .u8 (n : Int) :: vs) = some (UInt8.ofNat n :: r) := by
  unfold bytesOf
  rw [if_pos (by omega), hr]
  simp

theorem refRune_spec (c : Nat) (hc : runeOk c) (s : St) : call G 63 [.int .i32 (c : Int)] s = some (.str (encV c), s) := by
  unfold runeOk at hc
  refine call_out (F := af63) rfl rfl ?_
  have hw : IntKind.i64.wrap (c : Int) = c := wrap_in (by omega) (by omega)
  have n0 : ¬ (c : Int) < 0 := by omega
  have n1 : ¬ (1114111 : Int) < (c : Int) := by omega
  have n1' : ¬ 1114111 < c := by omega
  by_cases h1 : c < 128
  · have h1' : (c : Int) < 128 := by omega
    have n2 : ¬ (55296 : Int) ≤ (c : Int) := by omega
    have n2' : ¬ 55296 ≤ c := by omega
    have hu : IntKind.u8.wrap (c : Int) = c := by rw [wrapU8 (by omega)]; omega
    have hb := bytesOf_cons c (by omega) [] [] rfl
    simp [af63, af63b, hw, n0, n1, n1', n2, n2']
    refine Out_cond _ _ _ _ _ _ _ rfl (fun h => by simp at h) (fun _ => ?_)
    simp [h1, h1']
    refine Out_cond _ _ _ _ _ _ _ rfl (fun _ => ?_) (fun h => by simp at h)
    simp [hu, fillS, V.one, hb]
    rw [fin_id _ (v := .str _) rfl]
    simp [encV, h1]
  have h1' : ¬ (c : Int) < 128 := by omega
  have q64 : ((c : Int)).tdiv 64 = ((c / 64 : Nat) : Int) := tdivN c 64
  have q4096 : ((c : Int)).tdiv 4096 = ((c / 4096 : Nat) : Int) := tdivN c 4096
  have q26 : ((c : Int)).tdiv 262144 = ((c / 262144 : Nat) : Int) := tdivN c 262144
  have r64 : ((c : Int)).tmod 64 = ((c % 64 : Nat) : Int) := tmodN' c 64
  have r1 : ((c / 64 : Nat) : Int).tmod 64 = ((c / 64 % 64 : Nat) : Int) := tmodN' _ 64
  have r2 : ((c / 4096 : Nat) : Int).tmod 64 = ((c / 4096 % 64 : Nat) : Int) := tmodN' _ 64
  have wa : ∀ k n : Nat, k < 1000 → n ≤ 1114111 → IntKind.i64.wrap ((k : Int) + (n : Int)) = ((k + n : Nat) : Int) := fun k n _ _ => by rw [wrap_in (by omega) (by omega)]; omega
  have wq : ∀ n : Nat, n ≤ 1114111 → IntKind.i64.wrap (n : Int) = (n : Int) := fun n _ => wrap_in (by omega) (by omega)
  have wu : ∀ n : Nat, n < 256 → IntKind.u8.wrap (n : Int) = (n : Int) := fun n _ => by rw [wrapU8 (by omega)]; omega
  by_cases h2 : c < 2048
  · have h2' : (c : Int) < 2048 := by omega
    have n2 : ¬ (55296 : Int) ≤ (c : Int) := by omega
    have n2' : ¬ 55296 ≤ c := by omega
    have e1 := wa 192 (c / 64) (by omega) (by omega)
    have e2 := wa 128 (c % 64) (by omega) (by omega)
    have f1 := wu (192 + c / 64) (by omega)
    have f2 := wu (128 + c % 64) (by omega)
    have g1 := wq (c / 64) (by omega)
    have hb := bytesOf_cons (192 + c / 64) (by omega) _ _ (bytesOf_cons (128 + c % 64) (by omega) [] [] rfl)
    have henc : encV c = [UInt8.ofNat (192 + c / 64), UInt8.ofNat (128 + c % 64)] := by unfold encV; rw [if_neg h1, if_pos h2]
    rw [henc]
    generalize c / 64 = x at q64 e1 f1 g1 hb henc r1 ⊢
    generalize c % 64 = y at r64 e2 f2 hb henc ⊢
    generalize 192 + x = u at e1 f1 hb henc ⊢
    generalize 128 + y = v at e2 f2 hb henc ⊢
    simp at e1 e2
    simp [af63, af63b, hw, n0, n1, n1', n2, n2']
    refine Out_cond _ _ _ _ _ _ _ rfl (fun h => by simp at h) (fun _ => ?_)
    simp [h1, h1']
    refine Out_cond _ _ _ _ _ _ _ rfl (fun h => by simp at h) (fun _ => ?_)
    simp [h2, h2']
    refine Out_cond _ _ _ _ _ _ _ rfl (fun _ => ?_) (fun h => by simp at h)
    simp [q64, r64, g1, e1, e2, f1, f2, fillS, V.one, hb]
    rw [fin_id _ (v := .str _) rfl]
    simp
  · have pre : ∀ (G' : True), True := fun _ => trivial
    have n3 : ¬ c < 128 := h1
    have hs2 : ¬ (c : Int) < 2048 := by omega
    have e2 := wa 128 (c % 64) (by omega) (by omega)
    have f2 := wu (128 + c % 64) (by omega)
    simp [af63, af63b, hw, n0, n1, n1']
    refine Out.mono (Q := fun ex env' s' => ex = .norm ∧ env' 3 = .int .i64 (c : Int) ∧ s' = s) ?_ ?_
    · rcases hc.2 with hs | hs
      · have n2 : ¬ (55296 : Int) ≤ (c : Int) := by omega
        have n2' : ¬ 55296 ≤ c := by omega
        simp [n2, n2']
        refine Out_cond _ _ _ _ _ _ _ rfl (fun h => by simp at h) (fun _ => ?_)
        simp
      · have n2 : (55296 : Int) ≤ (c : Int) := by omega
        have n2' : 55296 ≤ c := by omega
        have m2 : ¬ (c : Int) < 57344 := by omega
        have m2' : ¬ c < 57344 := by omega
        simp [n2, n2', m2, m2']
        refine Out_cond _ _ _ _ _ _ _ rfl (fun h => by simp at h) (fun _ => ?_)
        simp
    rintro ex env s' ⟨rfl, q3, rfl⟩
    simp [q3, h1, h1']
    refine Out_cond _ _ _ _ _ _ _ rfl (fun h => by simp at h) (fun _ => ?_)
    simp [q3, h2, hs2]
    refine Out_cond _ _ _ _ _ _ _ rfl (fun h => by simp at h) (fun _ => ?_)
    by_cases h3 : c < 65536
    · have h3' : (c : Int) < 65536 := by omega
      have e1 := wa 224 (c / 4096) (by omega) (by omega)
      have e3 := wa 128 (c / 64 % 64) (by omega) (by omega)
      have f1 := wu (224 + c / 4096) (by omega)
      have f3 := wu (128 + c / 64 % 64) (by omega)
      have g1 := wq (c / 4096) (by omega)
      have g2 := wq (c / 64) (by omega)
      have hb := bytesOf_cons (224 + c / 4096) (by omega) _ _ (bytesOf_cons (128 + c / 64 % 64) (by omega) _ _ (bytesOf_cons (128 + c % 64) (by omega) [] [] rfl))
      have henc : encV c = [UInt8.ofNat (224 + c / 4096), UInt8.ofNat (128 + c / 64 % 64), UInt8.ofNat (128 + c % 64)] := by unfold encV; rw [if_neg h1, if_neg h2, if_pos h3]
      rw [henc]
      generalize 224 + c / 4096 = u at e1 f1 hb henc ⊢
      generalize 128 + c % 64 = v at e2 f2 hb henc ⊢
      generalize 128 + c / 64 % 64 = w at e3 f3 hb henc ⊢
      generalize c / 4096 = x at q4096 e1 g1 ⊢
      generalize c / 64 % 64 = z at r1 e3 ⊢
      generalize c / 64 = z0 at q64 g2 r1 ⊢
      generalize c % 64 = y at r64 e2 ⊢
      simp at e1 e2 e3
      simp [q3, h3, h3']
      refine Out_cond _ _ _ _ _ _ _ rfl (fun _ => ?_) (fun h => by simp at h)
      simp [q3, q64, q4096, r64, r1, g1, g2, e1, e2, e3, f1, f2, f3, fillS, V.one, hb]
      rw [fin_id _ (v := .str _) rfl]
      simp
    · have h3' : ¬ (c : Int) < 65536 := by omega
      have e1 := wa 240 (c / 262144) (by omega) (by omega)
      have e4 := wa 128 (c / 4096 % 64) (by omega) (by omega)
      have e3 := wa 128 (c / 64 % 64) (by omega) (by omega)
      have f1 := wu (240 + c / 262144) (by omega)
      have f4 := wu (128 + c / 4096 % 64) (by omega)
      have f3 := wu (128 + c / 64 % 64) (by omega)
      have g1 := wq (c / 4096) (by omega)
      have g2 := wq (c / 64) (by omega)
      have g3 := wq (c / 262144) (by omega)
      have hb := bytesOf_cons (240 + c / 262144) (by omega) _ _ (bytesOf_cons (128 + c / 4096 % 64) (by omega) _ _ (bytesOf_cons (128 + c / 64 % 64) (by omega) _ _ (bytesOf_cons (128 + c % 64) (by omega) [] [] rfl)))
      have henc : encV c = [UInt8.ofNat (240 + c / 262144), UInt8.ofNat (128 + c / 4096 % 64), UInt8.ofNat (128 + c / 64 % 64), UInt8.ofNat (128 + c % 64)] := by unfold encV; rw [if_neg h1, if_neg h2, if_neg h3]
      rw [henc]
      generalize 240 + c / 262144 = u at e1 f1 hb henc ⊢
      generalize 128 + c % 64 = v at e2 f2 hb henc ⊢
      generalize 128 + c / 64 % 64 = w at e3 f3 hb henc ⊢
      generalize 128 + c / 4096 % 64 = w4 at e4 f4 hb henc ⊢
      generalize c / 262144 = x at q26 e1 g3 ⊢
      generalize c / 4096 % 64 = z4 at r2 e4 ⊢
      generalize c / 4096 = z5 at q4096 g1 r2 ⊢
      generalize c / 64 % 64 = z at r1 e3 ⊢
      generalize c / 64 = z0 at q64 g2 r1 ⊢
      generalize c % 64 = y at r64 e2 ⊢
      simp at e1 e2 e3 e4
      simp [q3, h3, h3']
      refine Out_cond _ _ _ _ _ _ _ rfl (fun h => by simp at h) (fun _ => ?_)
      simp [q3, q64, q4096, q26, r64, r1, r2, g1, g2, g3, e1, e2, e3, e4, f1, f2, f3, f4, fillS, V.one, hb]
      rw [fin_id _ (v := .str _) rfl]
      simp

end Go.Proofs.YtadpobnajjocnaaGreatDoor.Eng

/-
  The reference's four digits. No condition.
-/
namespace Go.Proofs.YtadpobnajjocnaaGreatDoor.Eng
open Go
set_option linter.unusedSimpArgs false
set_option linter.unusedVariables false

attribute [local simp] evC_reg evC_regD evR_cons evR_nil runR_some regK_some evC_ret evC_skip evC_exit Out_seq Out_blk Out_some seqQ_norm seqQ_ret seqQ_exit blkQ_norm blkQ_ret blkQ_exit loopQ_norm loopQ_ret loopQ_exit
attribute [local simp] stepR evOp put upd_apply X.ev initEnv cells_agg cells_int cells_str cells_bool cells_sl cells_ptr cells_pnil cells_fn cells_map vc_length vc_take vc_plain vc_und toVs_plain toPs_plain toVs_und toPs_und takeN evBin isSh intBin strBin callK resOf packR V.plain plainL V.und undL scK kill dstsO dstsL dstsR ite_some ite_pair ite_vbool evUn evLoad evLen V.real finLoop_false quietK_false kill_none

theorem hexF_neg : ∀ (ds : List UInt8) (n : Int), 0 ≤ n → (∃ d ∈ ds, hexD d < 0) → hexF n ds = -1
  | [], n, _, h => by obtain ⟨d, hd, _⟩ := h; cases hd
  | c :: ds, n, hn, h => by
    rw [hexF]
    split
    · rfl
    · rename_i hc
      refine hexF_neg ds _ (by omega) ?_
      obtain ⟨d, hd, hl⟩ := h
      rcases List.mem_cons.1 hd with rfl | hd
      · exact absurd hl hc
      · exact ⟨d, hd, hl⟩

def dd1 (c : UInt8) : Int := if 48 ≤ c.toNat ∧ c.toNat ≤ 57 then (c.toNat : Int) - 48 else -1
def dd2 (c : UInt8) : Int := if 97 ≤ c.toNat ∧ c.toNat ≤ 102 then (c.toNat : Int) - 87 else dd1 c
def dd3 (c : UInt8) : Int := if 65 ≤ c.toNat ∧ c.toNat ≤ 70 then (c.toNat : Int) - 55 else dd2 c
theorem dd3_hex (c : UInt8) : dd3 c = hexD c := by
  unfold dd3 dd2 dd1 hexD
  repeat' split
  all_goals omega

theorem refFourLoop {b : List UInt8} (hb : b.length ≤ 1000000000) : ∀ (k : Nat) (v : List UInt8) (n : Int) (p : Int) (env : Env) (s : St), v <:+ b → k ≤ v.length → k ≤ 4 → 0 ≤ n → (n + 1) * 16 ^ k ≤ 65536 → env 0 = .str b → env 1 = .int .i64 p → -10 ≤ p → p ≤ 2000000000 →
      p + 4 = ((b.length - v.length : Nat) : Int) + k → env 5 = .int .i64 n → env 6 = .int .i64 ((b.length - v.length : Nat) : Int) →
    Out (evC G (.loop false af84l0) env s) (fun ex env' s' => s' = s ∧ ((hexF n (v.take k) < 0 ∧ ex = .ret ∧ env' 4 = .int .i64 (-1)) ∨ (0 ≤ hexF n (v.take k) ∧ ex = .exit 0 ∧ env' 5 = .int .i64 (hexF n (v.take k))))) := by
  intro k
  induction k with
  | zero =>
    intro v n p env s hv hk hk4 hn hn2 h0 h1 hp0 hp1 hp h5 h6
    have hw : IntKind.i64.wrap (p + 4) = p + 4 := wrap_in (by omega) (by omega)
    have hlt : ¬ ((b.length - v.length : Nat) : Int) < p + 4 := by omega
    refine Out_loop G false _ _ af84l0.eq_1 _ _ _ ?_
    simp [h1, h6, hw, hlt]
    refine Out_cond _ _ _ _ _ _ _ rfl (fun h => by simp at h) (fun _ => ?_)
    simp [h5, hexF, hn]
  | succ k ih =>
    intro v n p env s hv hk hk4 hn hn2 h0 h1 hp0 hp1 hp h5 h6
    have hw : IntKind.i64.wrap (p + 4) = p + 4 := wrap_in (by omega) (by omega)
    have hlt : ((b.length - v.length : Nat) : Int) < p + 4 := by omega
    cases v with
    | nil => simp at hk
    | cons c t =>
      have hlen := suf_len hv
      simp only [List.length_cons] at hlen hk h6 hlt hp
      have hgi := at_get hv
      have hw6 : IntKind.i64.wrap (((b.length - (t.length + 1) : Nat) : Int) + 1) = ((b.length - t.length : Nat) : Int) := by rw [wrap_in (by omega) (by omega)]; omega
      have hcl := byte_lt c
      have wc : IntKind.i64.wrap (c.toNat : Int) = (c.toNat : Int) := wrap_in (by omega) (by omega)
      refine Out_loop G false _ _ af84l0.eq_1 _ _ _ ?_
      simp [h1, h6, hw, hlt]
      refine Out_cond _ _ _ _ _ _ _ rfl (fun _ => ?_) (fun h => by simp at h)
      simp [h0, h6, ↓hgi, wc]
      refine Out.mono (Q := fun ex env' s' => ex = .norm ∧ s' = s ∧ env' 0 = .str b ∧ env' 1 = .int .i64 p ∧ env' 5 = .int .i64 n ∧ env' 6 = .int .i64 ((b.length - (t.length + 1) : Nat) : Int) ∧ env' 7 = .int .i64 (c.toNat : Int) ∧ env' 8 = .int .i64 (dd1 c)) ?_ ?_
      · by_cases a1 : 48 ≤ c.toNat ∧ c.toNat ≤ 57
        · have a2 : (48 : Int) ≤ (c.toNat : Int) := by omega
          have a3 : (c.toNat : Int) ≤ 57 := by omega
          have w1 : IntKind.i64.wrap ((c.toNat : Int) - 48) = (c.toNat : Int) - 48 := wrap_in (by omega) (by omega)
          have e : (dd1 c) = (c.toNat : Int) - 48 := by unfold dd1; rw [if_pos a1]
          rw [e]
          refine Out_cond _ _ _ _ _ _ _ rfl (fun _ => ?_) (fun h => by simp [a2, a3] at h)
          simp [h0, h1, h5, h6, w1]
        · have e : (dd1 c) = (-1) := by unfold dd1; rw [if_neg a1]
          rw [e]
          refine Out_cond _ _ _ _ _ _ _ rfl (fun h => ?_) (fun _ => ?_)
          · exfalso; simp at h; omega
          · simp [h0, h1, h5, h6]
      rintro ex env1 s1 ⟨rfl, hs1, m0, m1, m5, m6, m7, m8⟩
      rw [hs1]
      simp [m7]
      refine Out.mono (Q := fun ex env' s' => ex = .norm ∧ s' = s ∧ env' 0 = .str b ∧ env' 1 = .int .i64 p ∧ env' 5 = .int .i64 n ∧ env' 6 = .int .i64 ((b.length - (t.length + 1) : Nat) : Int) ∧ env' 7 = .int .i64 (c.toNat : Int) ∧ env' 8 = .int .i64 (dd2 c)) ?_ ?_
      · by_cases a1 : 97 ≤ c.toNat ∧ c.toNat ≤ 102
        · have a2 : (97 : Int) ≤ (c.toNat : Int) := by omega
          have a3 : (c.toNat : Int) ≤ 102 := by omega
          have w1 : IntKind.i64.wrap ((c.toNat : Int) - 87) = (c.toNat : Int) - 87 := wrap_in (by omega) (by omega)
          have e : (dd2 c) = (c.toNat : Int) - 87 := by unfold dd2; rw [if_pos a1]
          rw [e]
          refine Out_cond _ _ _ _ _ _ _ rfl (fun _ => ?_) (fun h => by simp [a2, a3] at h)
          simp [m0, m1, m5, m6, m7, w1]
        · have e : (dd2 c) = (dd1 c) := by unfold dd2; rw [if_neg a1]
          rw [e]
          refine Out_cond _ _ _ _ _ _ _ rfl (fun h => ?_) (fun _ => ?_)
          · exfalso; simp at h; omega
          · simp [m0, m1, m5, m6, m7, m8]
      clear m0 m1 m5 m6 m7 m8
      rintro ex env2 s2 ⟨rfl, hs2, m0, m1, m5, m6, m7, m8⟩
      rw [hs2]
      simp [m7]
      refine Out.mono (Q := fun ex env' s' => ex = .norm ∧ s' = s ∧ env' 0 = .str b ∧ env' 1 = .int .i64 p ∧ env' 5 = .int .i64 n ∧ env' 6 = .int .i64 ((b.length - (t.length + 1) : Nat) : Int) ∧ env' 7 = .int .i64 (c.toNat : Int) ∧ env' 8 = .int .i64 (dd3 c)) ?_ ?_
      · by_cases a1 : 65 ≤ c.toNat ∧ c.toNat ≤ 70
        · have a2 : (65 : Int) ≤ (c.toNat : Int) := by omega
          have a3 : (c.toNat : Int) ≤ 70 := by omega
          have w1 : IntKind.i64.wrap ((c.toNat : Int) - 55) = (c.toNat : Int) - 55 := wrap_in (by omega) (by omega)
          have e : (dd3 c) = (c.toNat : Int) - 55 := by unfold dd3; rw [if_pos a1]
          rw [e]
          refine Out_cond _ _ _ _ _ _ _ rfl (fun _ => ?_) (fun h => by simp [a2, a3] at h)
          simp [m0, m1, m5, m6, m7, w1]
        · have e : (dd3 c) = (dd2 c) := by unfold dd3; rw [if_neg a1]
          rw [e]
          refine Out_cond _ _ _ _ _ _ _ rfl (fun h => ?_) (fun _ => ?_)
          · exfalso; simp at h; omega
          · simp [m0, m1, m5, m6, m7, m8]
      clear m0 m1 m5 m6 m7 m8
      rintro ex env3 s3 ⟨rfl, hs3, m0, m1, m5, m6, m7, m8⟩
      rw [hs3]
      have hd3 : dd3 c = hexD c := dd3_hex c
      rw [hd3] at m8
      have hxr := hexD_le c
      simp [m8]
      by_cases hneg : hexD c < 0
      · refine Out_cond _ _ _ _ _ _ _ rfl (fun _ => ?_) (fun h => by simp at h; omega)
        simp [hexF, hneg]
      · have hn3 : n ≤ 65536 := by
          have h16 : (1 : Int) ≤ 16 ^ (k + 1) := Int.pow_pos (by decide)
          have := Int.mul_le_mul_of_nonneg_left h16 (show (0 : Int) ≤ n + 1 by omega)
          omega
        have w2 : IntKind.i64.wrap (n * 16) = n * 16 := wrap_in (by omega) (by omega)
        have w3 : IntKind.i64.wrap (n * 16 + hexD c) = n * 16 + hexD c := wrap_in (by omega) (by omega)
        have hk16 : (n * 16 + hexD c + 1) * 16 ^ k ≤ 65536 := by
          have hp16 : (0 : Int) ≤ 16 ^ k := Int.le_of_lt (Int.pow_pos (by decide))
          have h1 := Int.mul_le_mul_of_nonneg_right (show n * 16 + hexD c + 1 ≤ (n + 1) * 16 by omega) hp16
          have h2 : (n + 1) * 16 * 16 ^ k = (n + 1) * 16 ^ (k + 1) := by rw [Int.pow_succ, Int.mul_assoc, Int.mul_comm 16]
          omega
        refine Out_cond _ _ _ _ _ _ _ rfl (fun h => by simp at h; omega) (fun _ => ?_)
        simp [m5, m6, m8, w2, w3, hw6]
        refine Out.mono (ih t (n * 16 + hexD c) p _ s (suf_tail hv) (by omega) (by omega) (by omega) hk16 (by simp [m0]) (by simp [m1]) hp0 hp1 (by omega) (by simp) (by simp)) ?_
        rintro ex env' s' ⟨a, h⟩
        refine ⟨a, ?_⟩
        simpa [hexF, hneg] using h

/-- Four digits; -1: they aren't there. -/
def fourR (u : List UInt8) : Int := if u.length < 4 then -1 else hexF 0 (u.take 4)

theorem refFour_spec {b u : List UInt8} (hb : b.length ≤ 1000000000) (hu : u <:+ b) (s : St) : call G 84 [.str b, .int .i64 ((b.length - u.length : Nat) : Int)] s = some (.int .i64 (fourR u), s) := by
  have hlen := suf_len hu
  refine call_out (F := af84) rfl rfl ?_
  have w3 : IntKind.i64.wrap ((b.length : Int) - 3) = (b.length : Int) - 3 := wrap_in (by omega) (by omega)
  by_cases h4 : u.length < 4
  · have hc : (b.length : Int) - 3 ≤ ((b.length - u.length : Nat) : Int) := by omega
    simp [af84, af84b, w3, hc]
    refine Out_cond _ _ _ _ _ _ _ rfl (fun _ => ?_) (fun h => by simp at h)
    simp [fourR, h4]
    rw [fin_id _ (v := .int .i64 _) rfl]
    rfl
  · have hc : ¬ (b.length : Int) - 3 ≤ ((b.length - u.length : Nat) : Int) := by omega
    simp [af84, af84b, w3, hc]
    refine Out_cond _ _ _ _ _ _ _ rfl (fun h => by simp at h) (fun _ => ?_)
    simp
    refine Out.mono (refFourLoop hb 4 u 0 ((b.length - u.length : Nat) : Int) _ s hu (by omega) (by omega) (by omega) (by decide) (by simp) (by simp) (by omega) (by omega) (by omega) (by simp) (by simp)) ?_
    rintro ex env' s' ⟨rfl, ⟨h1, rfl, h2⟩ | ⟨h1, rfl, h2⟩⟩
    · have hm : hexF 0 (u.take 4) = -1 := by
        have := hexF_ge (u.take 4) 0 (by omega)
        omega
      simp [h2, fourR, h4, hm]
      rw [fin_id _ (v := .int .i64 _) rfl]
      rfl
    · simp [h2, fourR, h4]
      rw [fin_id _ (v := .int .i64 _) rfl]
      rfl

end Go.Proofs.YtadpobnajjocnaaGreatDoor.Eng

/-
  The reference's escapes. No condition.
-/
namespace Go.Proofs.YtadpobnajjocnaaGreatDoor.Eng
open Go
set_option linter.unusedSimpArgs false
set_option linter.unusedVariables false

attribute [local simp] evC_reg evC_regD evR_cons evR_nil runR_some regK_some evC_ret evC_skip evC_exit Out_seq Out_blk Out_some seqQ_norm seqQ_ret seqQ_exit blkQ_norm blkQ_ret blkQ_exit loopQ_norm loopQ_ret loopQ_exit
attribute [local simp] stepR evOp put upd_apply X.ev initEnv cells_agg cells_int cells_str cells_bool cells_sl cells_ptr cells_pnil cells_fn cells_map vc_length vc_take vc_plain vc_und toVs_plain toPs_plain toVs_und toPs_und takeN evBin isSh intBin strBin callK resOf packR V.plain plainL V.und undL scK kill dstsO dstsL dstsR ite_some ite_pair ite_vbool evUn evLoad evLen V.real finLoop_false quietK_false kill_none

def sgn : List UInt8 := [34, 92, 47, 98, 102, 110, 114, 116]
def std : List UInt8 := [34, 92, 47, 8, 12, 10, 13, 9]
def findS : List (UInt8 × UInt8) → UInt8 → Option UInt8
  | [], _ => none
  | p :: ps, c => if p.1 = c then some p.2 else findS ps c
def tabS : List (UInt8 × UInt8) := sgn.zip std

theorem refSignLoop (c : UInt8) : ∀ (m i : Nat) (env : Env) (s : St), 8 - i = m → i ≤ 8 → env 9 = .int .i64 i → env 7 = .str sgn → env 8 = .str std → env 6 = .int .u8 c.toNat →
    Out (evC G (.loop false af62l0) env s) (fun ex env' s' => s' = s ∧ match findS (tabS.drop i) c with
      | some x => ex = .ret ∧ env' 4 = .int .i32 x.toNat ∧ env' 5 = .int .i64 2
      | none => ex = .exit 0 ∧ env' 0 = env 0 ∧ env' 1 = env 1 ∧ env' 6 = env 6) := by
  intro m
  induction m with
  | zero =>
    intro i env s hm hi h9 h7 h8 h6
    have : i = 8 := by omega
    subst this
    refine Out_loop G false _ _ af62l0.eq_1 _ _ _ ?_
    simp [h9, h7, sgn]
    refine Out_cond _ _ _ _ _ _ _ rfl (fun h => by simp at h) (fun _ => ?_)
    simp [tabS, sgn, std, findS]
  | succ m ih =>
    intro i env s hm hi h9 h7 h8 h6
    have hlt : i < 8 := by omega
    have hlt' : (i : Int) < 8 := by omega
    have hs : sgn.length = 8 := rfl
    have hd : std.length = 8 := rfl
    have hsi : i < sgn.length := by omega
    have hdi : i < std.length := by omega
    have hg : sgn[((i : Nat) : Int).toNat]? = some sgn[i] := by rw [Int.toNat_natCast]; exact List.getElem?_eq_getElem hsi
    have hg2 : std[((i : Nat) : Int).toNat]? = some std[i] := by rw [Int.toNat_natCast]; exact List.getElem?_eq_getElem hdi
    have hdrop : tabS.drop i = (sgn[i], std[i]) :: tabS.drop (i + 1) := by
      unfold tabS
      rw [List.drop_eq_getElem_cons (by simp [hs, hd]; exact hlt)]
      simp
      rfl
    have hw : IntKind.i64.wrap ((i : Int) + 1) = ((i + 1 : Nat) : Int) := by rw [wrap_in (by omega) (by omega)]; omega
    have hx : ((sgn[i].toNat : Int) = (c.toNat : Int)) ↔ sgn[i] = c := by rw [← UInt8.toNat_inj]; omega
    have hw32 : IntKind.i32.wrap (std[i].toNat : Int) = (std[i].toNat : Int) := by
      have := byte_lt std[i]
      have e : (2 : Int) ^ IntKind.i32.bits = 4294967296 := by decide
      have e' : (2 : Int) ^ (IntKind.i32.bits - 1) = 2147483648 := by decide
      have e'' : IntKind.i32.signed = true := by decide
      unfold IntKind.wrap
      simp only [e, e', e'', Bool.true_and, decide_eq_true_eq, ge_iff_le]
      split <;> omega
    refine Out_loop G false _ _ af62l0.eq_1 _ _ _ ?_
    generalize sgn[i] = a at hg hdrop hx
    generalize std[i] = d at hg2 hdrop hw32
    simp [h9, h7, hs, hlt, hlt']
    refine Out_cond _ _ _ _ _ _ _ rfl (fun _ => ?_) (fun h => by simp at h)
    simp [h9, h7, h6, ↓hg, hx]
    rw [hdrop]
    by_cases ha : a = c
    · refine Out_cond _ _ _ _ _ _ _ rfl (fun _ => ?_) (fun h => by simp [ha] at h)
      simp [h8, h9, ↓hg2, hw32, findS, ha]
    · refine Out_cond _ _ _ _ _ _ _ rfl (fun h => by simp [ha] at h) (fun _ => ?_)
      simp [h9, hw]
      refine Out.mono (ih (i + 1) _ s (by omega) (by omega) (by simp) (by simp [h7]) (by simp [h8]) (by simp [h6])) ?_
      rintro ex env' s' ⟨rfl, h⟩
      refine ⟨rfl, ?_⟩
      simp only [findS]
      rw [if_neg ha]
      revert h
      cases findS (tabS.drop (i + 1)) c with
      | none => intro h; simpa [h6] using h
      | some x => intro h; simpa using h

theorem findS_short (c : UInt8) : shortR c = match findS tabS c with | some x => ((x.toNat : Int), true) | none => (0, false) := by
  have key : ∀ k : Fin 256, shortR (UInt8.ofNat k.val) = match findS tabS (UInt8.ofNat k.val) with | some x => ((x.toNat : Int), true) | none => (0, false) := by decide +kernel
  have := key ⟨c.toNat, c.toNat_lt⟩
  simpa using this

end Go.Proofs.YtadpobnajjocnaaGreatDoor.Eng

/-
  The reference's sign 5c: what it stands for. No condition.
-/
namespace Go.Proofs.YtadpobnajjocnaaGreatDoor.Eng
open Go
set_option linter.unusedSimpArgs false
set_option linter.unusedVariables false

attribute [local simp] evC_reg evC_regD evR_cons evR_nil runR_some regK_some evC_ret evC_skip evC_exit Out_seq Out_blk Out_some seqQ_norm seqQ_ret seqQ_exit blkQ_norm blkQ_ret blkQ_exit loopQ_norm loopQ_ret loopQ_exit
attribute [local simp] stepR evOp put upd_apply X.ev initEnv cells_agg cells_int cells_str cells_bool cells_sl cells_ptr cells_pnil cells_fn cells_map vc_length vc_take vc_plain vc_und toVs_plain toPs_plain toVs_und toPs_und takeN evBin isSh intBin strBin callK resOf packR V.plain plainL V.und undL scK kill dstsO dstsL dstsR ite_some ite_pair ite_vbool evUn evLoad evLen V.real finLoop_false quietK_false kill_none


theorem unitR_four (l : List UInt8) : unitR l = if l[0]? = some 92 ∧ l[1]? = some 117 then fourR (l.drop 2) else -1 := by
  rcases l with _ | ⟨a, _ | ⟨u, _ | ⟨d1, _ | ⟨d2, _ | ⟨d3, _ | ⟨d4, r⟩⟩⟩⟩⟩⟩ <;> simp [unitR, fourR]
  rw [if_neg (show ¬ r.length + 1 + 1 + 1 + 1 < 4 by omega)]

theorem hexF_lt4 (u : List UInt8) : -1 ≤ fourR u ∧ fourR u < 65536 ∧ (0 ≤ fourR u → 4 ≤ u.length) := by
  unfold fourR
  split
  · exact ⟨by omega, by omega, fun h => by omega⟩
  · refine ⟨hexF_ge _ _ (by omega), hexF_lt _ _ (by omega) ?_, fun _ => by omega⟩
    have : (u.take 4).length = 4 := by simp; omega
    rw [this]; decide

set_option maxHeartbeats 400000 in
theorem refSign_spec {b l : List UInt8} (hb : b.length ≤ 1000000000) (hl : l <:+ b) (h92 : l[0]? = some 92) (s : St) :
    call G 62 [.str b, .int .i64 ((b.length - l.length : Nat) : Int)] s = some (.tup [.int .i32 (escR l).1, .int .i64 (escR l).2], s) := by
  have hlen := suf_len hl
  have hU := unitR_four l
  have hV := unitR_four (l.drop 6)
  have hfu : l.drop 2 <:+ b := (List.drop_suffix 2 l).trans hl
  have hfv : l.drop 8 <:+ b := (List.drop_suffix 8 l).trans hl
  refine call_out (F := af62) rfl rfl ?_
  have w1 : IntKind.i64.wrap ((b.length : Int) - 1) = (b.length : Int) - 1 := wrap_in (by omega) (by omega)
  have hl0 : 0 < l.length := by
    cases l with
    | nil => simp at h92
    | cons x t => simp
  have wa : ∀ k : Nat, k ≤ 10 → IntKind.i64.wrap (((b.length - l.length : Nat) : Int) + (k : Int)) = ((b.length - l.length + k : Nat) : Int) := fun k hk => by rw [wrap_in (by omega) (by omega)]; omega
  have w01 := wa 1 (by omega)
  have w02 := wa 2 (by omega)
  have w06 := wa 6 (by omega)
  have w07 := wa 7 (by omega)
  have w08 := wa 8 (by omega)
  clear wa
  by_cases h1 : l.length ≤ 1
  · have hc : (b.length : Int) - 1 ≤ ((b.length - l.length : Nat) : Int) := by omega
    have hu1 : unitR l = -1 := unitR_short (by omega)
    have hn1 : ¬ 1 < l.length := by omega
    simp [af62, af62b, w1, hc]
    refine Out_cond _ _ _ _ _ _ _ rfl (fun _ => ?_) (fun h => by simp at h)
    simp [escR, hn1, hu1]
    rw [fin_id _ (v := .tup _) rfl]
    rfl
  have hn1 : 1 < l.length := by omega
  have hc : ¬ (b.length : Int) - 1 ≤ ((b.length - l.length : Nat) : Int) := by omega
  obtain ⟨c, hc1⟩ : ∃ c, l[1]? = some c := ⟨_, List.getElem?_eq_getElem hn1⟩
  have gx : ∀ k, k < l.length → b[b.length - l.length + k]? = l[k]? := fun k hk => by
    have h := suf_drop hl
    rw [← List.getElem?_drop, h]
  have g1 : b[((b.length - l.length + 1 : Nat) : Int).toNat]? = some c := by rw [Int.toNat_natCast, gx 1 hn1]; exact hc1
  have lt1 : b.length - l.length + 1 < b.length := by omega
  rw [show ((b.length - l.length + 1 : Nat) : Int) = ((b.length - l.length : Nat) : Int) + 1 by omega] at g1 w01
  have lt1' : ((b.length - l.length : Nat) : Int) + 1 < (b.length : Int) := by omega
  have ge1' : (0 : Int) ≤ ((b.length - l.length : Nat) : Int) + 1 := by omega
  simp at w01
  simp [af62, af62b, w1, hc, w01, ↓g1]
  refine Out_cond _ _ _ _ _ _ _ rfl (fun h => by simp at h) (fun _ => ?_)
  simp [w01, ↓g1, lt1', ge1']
  have hfs := findS_short c
  have hge : (l[1]?).getD 0 = c := by rw [hc1]; rfl
  refine Out.mono (refSignLoop c 8 0 _ s rfl (by omega) rfl rfl rfl rfl) ?_
  rintro ex env' s' ⟨hss, h⟩
  rw [hss]
  rw [List.drop_zero] at h
  cases hf : findS tabS c with
  | some x =>
    rw [hf] at h hfs
    obtain ⟨rfl, h4, h5⟩ := h
    have he : escR l = ((x.toNat : Int), 2) := by
      unfold escR
      rw [hge, hfs, if_pos ⟨hn1, rfl⟩]
    rw [he]
    simp [h4, h5]
    rw [fin_id _ (v := .tup _) rfl]
    rfl
  | none =>
    rw [hf] at h hfs
    obtain ⟨rfl, h0, h1, h6⟩ := h
    simp at h0 h1 h6
    have hE : escR l = if unitR l < 0 ∨ (56320 ≤ unitR l ∧ unitR l ≤ 57343) then (0, 0)
        else if unitR l < 55296 ∨ 57343 < unitR l then (unitR l, 6)
        else if unitR (l.drop 6) < 56320 ∨ 57343 < unitR (l.drop 6) then (0, 0)
        else (65536 + (unitR l - 55296) * 1024 + unitR (l.drop 6) - 56320, 12) := by
      rw [escR, hge, hfs, if_neg (by simp)]
    rw [hE]
    have e117 : ((c.toNat : Int) = 117) ↔ c = 117 := u8eq c 117 (by decide)
    by_cases hu : c = 117
    · subst hu
      have hun : unitR l = fourR (l.drop 2) := by rw [hU, if_pos ⟨h92, hc1⟩]
      clear hU hE
      have hle2 : (l.drop 2).length = l.length - 2 := List.length_drop ..
      have q2 : b.length - (l.drop 2).length = b.length - l.length + 2 := by omega
      have hf4 := refFour_spec hb hfu s
      rw [q2, Int.natCast_add] at hf4
      simp only [Int.cast_ofNat_Int] at hf4
      have hr := hexF_lt4 (l.drop 2)
      rw [hun]
      generalize fourR (l.drop 2) = n at hf4 hr ⊢
      have w02' : IntKind.i64.wrap (((b.length - l.length : Nat) : Int) + 2) = ((b.length - l.length : Nat) : Int) + 2 := w02
      simp only [blkQ_exit, if_true, seqQ_norm]
      simp [h6, h0, h1]
      refine Out_cond _ _ _ _ _ _ _ rfl (fun h => by simp at h) (fun _ => ?_)
      refine Out_shed (P := fun e => e 0 = .str b ∧ e 1 = .int .i64 ((b.length - l.length : Nat) : Int)) (by simp [h0, h1]) ?_
      clear h0 h1 h6
      rintro env' ⟨h0, h1⟩
      simp [h0, h1, w02', hf4]
      by_cases c1 : n < 0
      · refine Out_cond _ _ _ _ _ _ _ rfl (fun _ => ?_) (fun h => by simp [c1] at h)
        simp [c1]
        rw [fin_id _ (v := .tup _) rfl]
        rfl
      refine Out_cond _ _ _ _ _ _ _ rfl (fun h => by simp [c1] at h) (fun _ => ?_)
      refine Out_shed (P := fun e => e 0 = .str b ∧ e 1 = .int .i64 ((b.length - l.length : Nat) : Int) ∧ e 10 = .int .i64 n) (by simp [h0, h1]) ?_
      clear h0 h1
      rintro env' ⟨h0, h1, h10⟩
      have w32 : IntKind.i32.wrap n = n := wrap32 (by omega) (by omega)
      by_cases c2 : n < 55296
      · have c3 : ¬ 56320 ≤ n := by omega
        simp [h10, c1, c2, c3, w32]
        refine Out_cond _ _ _ _ _ _ _ rfl (fun _ => ?_) (fun h => by simp at h)
        simp [h10, w32]
        rw [fin_id _ (v := .tup _) rfl]
        rfl
      by_cases c4 : 57343 < n
      · have c3 : ¬ n ≤ 57343 := by omega
        simp [h10, c1, c2, c3, c4, w32]
        refine Out_cond _ _ _ _ _ _ _ rfl (fun _ => ?_) (fun h => by simp at h)
        simp [h10, w32]
        rw [fin_id _ (v := .tup _) rfl]
        rfl
      have c4' : n ≤ 57343 := by omega
      simp [h10, c1, c2, c4, c4']
      refine Out_cond _ _ _ _ _ _ _ rfl (fun h => by simp at h) (fun _ => ?_)
      refine Out_shed (P := fun e => e 0 = .str b ∧ e 1 = .int .i64 ((b.length - l.length : Nat) : Int) ∧ e 10 = .int .i64 n) (by simp [h0, h1, h10]) ?_
      clear h0 h1 h10
      rintro env' ⟨h0, h1, h10⟩
      by_cases c5 : 56319 < n
      · have c5' : 56320 ≤ n := by omega
        simp [h10, c5, c5']
        refine Out_cond _ _ _ _ _ _ _ rfl (fun _ => ?_) (fun h => by simp at h)
        simp
        rw [fin_id _ (v := .tup _) rfl]
        rfl
      have c5' : ¬ 56320 ≤ n := by omega
      have w7 : IntKind.i64.wrap ((b.length : Int) - 7) = (b.length : Int) - 7 := wrap_in (by omega) (by omega)
      have hfin : ∀ env : Env, env 4 = .int .i32 0 → True := fun _ _ => trivial
      have hdd : (l.drop 6)[0]? = l[6]? := by simp
      have hdd1 : (l.drop 6)[1]? = l[7]? := by simp
      rw [hdd, hdd1, List.drop_drop] at hV
      by_cases c6 : l.length ≤ 7
      · have hc6 : (b.length : Int) - 7 ≤ ((b.length - l.length : Nat) : Int) := by omega
        have hv1 : unitR (l.drop 6) = -1 := unitR_short (by rw [List.length_drop]; omega)
        have hc6' : ¬ ((b.length - l.length : Nat) : Int) < (b.length : Int) - 7 := by omega
        simp [h10, c5, c5', h0, h1, w7, hc6, hc6', hv1]
        refine Out_cond _ _ _ _ _ _ _ rfl (fun _ => ?_) (fun h => by simp at h)
        simp
        rw [fin_id _ (v := .tup _) rfl]
        rfl
      have hc6 : ¬ (b.length : Int) - 7 ≤ ((b.length - l.length : Nat) : Int) := by omega
      obtain ⟨x, hx⟩ : ∃ x, l[6]? = some x := ⟨_, List.getElem?_eq_getElem (by omega)⟩
      obtain ⟨y, hy⟩ : ∃ y, l[7]? = some y := ⟨_, List.getElem?_eq_getElem (by omega)⟩
      have g6 : b[b.length - l.length + 6]? = some x := by rw [gx 6 (by omega), hx]
      have g7 : b[b.length - l.length + 7]? = some y := by rw [gx 7 (by omega), hy]
      have ex92 : ((x.toNat : Int) = 92) ↔ x = 92 := u8eq x 92 (by decide)
      have ey117 : ((y.toNat : Int) = 117) ↔ y = 117 := u8eq y 117 (by decide)
      have w06' : IntKind.i64.wrap (((b.length - l.length : Nat) : Int) + 6) = ((b.length - l.length : Nat) : Int) + 6 := w06
      have w07' : IntKind.i64.wrap (((b.length - l.length : Nat) : Int) + 7) = ((b.length - l.length : Nat) : Int) + 7 := w07
      have w08' : IntKind.i64.wrap (((b.length - l.length : Nat) : Int) + 8) = ((b.length - l.length : Nat) : Int) + 8 := w08
      have t6 : (((b.length - l.length : Nat) : Int) + 6).toNat = b.length - l.length + 6 := by omega
      have t7 : (((b.length - l.length : Nat) : Int) + 7).toNat = b.length - l.length + 7 := by omega
      rw [← t6] at g6
      rw [← t7] at g7
      rw [hx, hy] at hV
      clear hfs hge h92 hc1 g1 lt1 lt1' ge1' w01 w02 w06 w07 w08
      have z6 : (0 : Int) ≤ ((b.length - l.length : Nat) : Int) + 6 := by omega
      have z7 : (0 : Int) ≤ ((b.length - l.length : Nat) : Int) + 7 := by omega
      have y6 : ((b.length - l.length : Nat) : Int) + 6 < (b.length : Int) := by omega
      have y7 : ((b.length - l.length : Nat) : Int) + 7 < (b.length : Int) := by omega
      have hc6' : ((b.length - l.length : Nat) : Int) < (b.length : Int) - 7 := by omega
      simp [h10, c5, c5', h0, h1, w7, hc6, hc6', w06', w07', ↓g6, ↓g7, z6, z7, y6, y7, ex92, ey117]
      by_cases c7 : x = 92 ∧ y = 117
      · obtain ⟨rfl, rfl⟩ := c7
        have hvn : unitR (l.drop 6) = fourR (l.drop 8) := by rw [hV, if_pos ⟨rfl, rfl⟩]
        clear hV
        have q8 : b.length - (l.drop 8).length = b.length - l.length + 8 := by rw [List.length_drop]; omega
        have hf8 := refFour_spec hb hfv s
        rw [q8, Int.natCast_add] at hf8
        simp only [Int.cast_ofNat_Int] at hf8
        have hr8 := hexF_lt4 (l.drop 8)
        rw [hvn]
        generalize fourR (l.drop 8) = m at hf8 hr8 ⊢
        simp
        refine Out_cond _ _ _ _ _ _ _ rfl (fun h => by simp at h) (fun _ => ?_)
        refine Out_shed (P := fun e => e 0 = .str b ∧ e 1 = .int .i64 ((b.length - l.length : Nat) : Int) ∧ e 10 = .int .i64 n) (by simp [h0, h1, h10]) ?_
        clear h0 h1 h10
        rintro env' ⟨h0, h1, h10⟩
        simp [h0, h1, w08', hf8]
        by_cases d1 : m < 56320
        · have d1' : ¬ 56320 ≤ m := by omega
          simp [d1, d1']
          refine Out_cond _ _ _ _ _ _ _ rfl (fun _ => ?_) (fun h => by simp at h)
          simp
          rw [fin_id _ (v := .tup _) rfl]
          rfl
        have d1' : 56320 ≤ m := by omega
        by_cases d2 : 57343 < m
        · have d2' : ¬ m ≤ 57343 := by omega
          simp [d1, d1', d2, d2']
          refine Out_cond _ _ _ _ _ _ _ rfl (fun _ => ?_) (fun h => by simp at h)
          simp
          rw [fin_id _ (v := .tup _) rfl]
          rfl
        have v1 : IntKind.i64.wrap (n - 55296) = n - 55296 := wrap_in (by omega) (by omega)
        have v2 : IntKind.i64.wrap ((n - 55296) * 1024) = (n - 55296) * 1024 := wrap_in (by omega) (by omega)
        have v3 : IntKind.i64.wrap (65536 + (n - 55296) * 1024) = 65536 + (n - 55296) * 1024 := wrap_in (by omega) (by omega)
        have v4 : IntKind.i64.wrap (65536 + (n - 55296) * 1024 + m) = 65536 + (n - 55296) * 1024 + m := wrap_in (by omega) (by omega)
        have v5 : IntKind.i64.wrap (65536 + (n - 55296) * 1024 + m - 56320) = 65536 + (n - 55296) * 1024 + m - 56320 := wrap_in (by omega) (by omega)
        have v6 : IntKind.i32.wrap (65536 + (n - 55296) * 1024 + m - 56320) = 65536 + (n - 55296) * 1024 + m - 56320 := wrap32 (by omega) (by omega)
        have d2' : m ≤ 57343 := by omega
        simp [d1, d1', d2, d2']
        refine Out_cond _ _ _ _ _ _ _ rfl (fun h => by simp at h) (fun _ => ?_)
        simp [h10, v1, v2, v3, v4, v5, v6]
        rw [fin_id _ (v := .tup _) rfl]
        rfl
      · have hv1 : unitR (l.drop 6) = -1 := by rw [hV, if_neg (by simpa using c7)]
        have c8 : x = 92 → ¬ y = 117 := fun h h2 => c7 ⟨h, h2⟩
        by_cases c9 : x = 92
        · simp [hv1, c9, c8 c9]
          refine Out_cond _ _ _ _ _ _ _ rfl (fun _ => ?_) (fun h => by simp at h)
          simp
          rw [fin_id _ (v := .tup _) rfl]
          rfl
        · simp [hv1, c9]
          refine Out_cond _ _ _ _ _ _ _ rfl (fun _ => ?_) (fun h => by simp at h)
          simp
          rw [fin_id _ (v := .tup _) rfl]
          rfl
    · simp [h6, h0, h1, e117, hu]
      refine Out_cond _ _ _ _ _ _ _ rfl (fun _ => ?_) (fun h => by simp at h)
      have hu1 : unitR l = -1 := by rw [hU, if_neg (by rw [hc1]; simp [hu])]
      simp [hu1]
      rw [fin_id _ (v := .tup _) rfl]
      rfl

end Go.Proofs.YtadpobnajjocnaaGreatDoor.Eng

/-
  The reference's quoted texts, read. No condition.
-/
namespace Go.Proofs.YtadpobnajjocnaaGreatDoor.Eng
open Go
set_option linter.unusedSimpArgs false
set_option linter.unusedVariables false

attribute [local simp] evC_reg evC_regD evR_cons evR_nil runR_some regK_some evC_ret evC_skip evC_exit Out_seq Out_blk Out_some seqQ_norm seqQ_ret seqQ_exit blkQ_norm blkQ_ret blkQ_exit loopQ_norm loopQ_ret loopQ_exit
attribute [local simp] stepR evOp put upd_apply X.ev initEnv cells_agg cells_int cells_str cells_bool cells_sl cells_ptr cells_pnil cells_fn cells_map vc_length vc_take vc_plain vc_und toVs_plain toPs_plain toVs_und toPs_und takeN evBin isSh intBin strBin callK resOf packR V.plain plainL V.und undL scK kill dstsO dstsL dstsR ite_some ite_pair ite_vbool evUn evLoad evLen V.real finLoop_false quietK_false kill_none


theorem decV_lo {c : UInt8} {t : List UInt8} (h : c.toNat < 128) : decV (c :: t) 0 = (c.toNat, 1) := by
  have he : encV c.toNat = [c] := by rw [encV, if_pos h]; exact congrArg (· :: []) (ofNat_eq rfl)
  have := decV_enc c.toNat t ⟨by omega, by omega⟩
  rw [he] at this
  exact this
theorem decV_hi {c : UInt8} {t : List UInt8} (h : 128 ≤ c.toNat) : 128 ≤ (decV (c :: t) 0).1 := by
  have h1 := sizeV_dec (c :: t) 0 (by simp)
  have h2 := decV_le (c :: t) 0 (by simp)
  by_cases hd : decV (c :: t) 0 = (65533, 1)
  · rw [hd]; decide
  · rw [if_neg hd] at h1
    have h3 := size_bytes (c :: t) 0 (by simp) (by rw [h1]; simp only; omega)
    rw [h1] at h3
    rcases h3.2 with ⟨_, _, h4⟩ | ⟨h4, _⟩
    · simp at h4; omega
    · exact h4
theorem decV_take {l : List UInt8} (hne : l ≠ []) (hd : decV l 0 ≠ (65533, 1)) : encV (decV l 0).1 = l.take (decV l 0).2 := by
  have hp := List.length_pos_iff.2 hne
  have h1 := sizeV_dec l 0 hp
  have h2 := decV_le l 0 hp
  rw [if_neg hd] at h1
  have h3 := size_bytes l 0 hp (by rw [h1]; simp only; omega)
  rw [h1] at h3
  exact h3.1
theorem decV_suf {b l : List UInt8} (hl : l <:+ b) (hne : l ≠ []) : decV b (b.length - l.length) = decV l 0 := by
  have hp := List.length_pos_iff.2 hne
  have hlen := suf_len hl
  have h1 := decGo_drop b (b.length - l.length) (by omega)
  have h2 := decGo_drop l 0 hp
  rw [suf_drop hl] at h1
  rw [List.drop_zero] at h2
  rw [← h1, h2]
theorem sizeV_suf {b l : List UInt8} (hl : l <:+ b) (hne : l ≠ []) : sizeV b (b.length - l.length) = if decV l 0 = (65533, 1) then (0, 0) else ((decV l 0).2, (decV l 0).1) := by
  have hp := List.length_pos_iff.2 hne
  have hlen := suf_len hl
  rw [sizeV_dec b _ (by omega), decV_suf hl hne]

theorem refUnqLoop {q : List UInt8} (hq : q.length ≤ 1000000000) : ∀ (f : Nat) (l acc : List UInt8) (env : Env) (s : St), l <:+ q → l.length < f → acc.length + 4 * l.length ≤ 4000000000 → env 0 = .str q → env 5 = .str acc →
    env 6 = .int .i64 ((q.length - l.length : Nat) : Int) →
    Out (evC G (.loop false af45l0) env s) (fun e env' s' => s' = s ∧
      ((e = .exit 0 ∧ env' 0 = .str q ∧ ubody f l acc = .err [] 4) ∨
       (e = .ret ∧ env' 2 = .str (prT (ubody f l acc)) ∧ env' 3 = .int .i64 ((q.length - (ubody f l acc).rest.length : Nat) : Int) ∧ env' 4 = .int .i64 (ubody f l acc).e))) := by
  intro f
  induction f with
  | zero => intro l acc env s hl hf; omega
  | succ f ih =>
    intro l acc env s hl hf hacc h0 h5 h6
    have hlen := suf_len hl
    refine Out_loop G false _ _ af45l0.eq_1 _ _ _ ?_
    cases l with
    | nil =>
      simp [h0, h6]
      refine Out_cond _ _ _ _ _ _ _ rfl (fun h => by cases h) (fun _ => ?_)
      simp [h0, ubody]
    | cons c t =>
      simp only [List.length_cons] at hlen hf hacc h6
      have hlt' : q.length - (t.length + 1) < q.length := by omega
      have hgi := at_get hl
      have e34 : ((c.toNat : Int) = 34) ↔ c = 34 := u8eq c 34 (by decide)
      have e92 : ((c.toNat : Int) = 92) ↔ c = 92 := u8eq c 92 (by decide)
      have e32 : ((c.toNat : Int) < 32) ↔ c.toNat < 32 := by omega
      simp [h0, h6, hlt']
      refine Out_cond _ _ _ _ _ _ _ rfl (fun _ => ?_) (fun h => by cases h)
      refine Out_shed (P := fun e => e 0 = .str q ∧ e 5 = .str acc ∧ e 6 = .int .i64 ((q.length - (t.length + 1) : Nat) : Int)) (by simp [h0, h5, h6]) ?_
      clear h0 h5 h6
      rintro env ⟨h0, h5, h6⟩
      simp [h0, h6, ↓hgi, e34]
      by_cases c1 : c = 34
      · subst c1
        have hw : IntKind.i64.wrap (((q.length - (t.length + 1) : Nat) : Int) + 1) = ((q.length - t.length : Nat) : Int) := by rw [wrap_in (by omega) (by omega)]; omega
        have hd : decV (34 :: t) 0 = (34, 1) := decV_lo (by decide)
        refine Out_cond _ _ _ _ _ _ _ rfl (fun _ => ?_) (fun h => by simp at h)
        simp [h5, h6, hw, ubody, hd, prT, PR.rest, PR.e]
      refine Out_cond _ _ _ _ _ _ _ rfl (fun h => by simp [c1] at h) (fun _ => ?_)
      refine Out_shed (P := fun e => e 0 = .str q ∧ e 5 = .str acc ∧ e 6 = .int .i64 ((q.length - (t.length + 1) : Nat) : Int)) (by simp [h0, h5, h6]) ?_
      clear h0 h5 h6
      rintro env ⟨h0, h5, h6⟩
      simp [h0, h6, ↓hgi, e32]
      have hc0 : ¬ (decV (c :: t) 0).1 = 34 := by
        by_cases hlo : c.toNat < 128
        · rw [decV_lo hlo]
          intro hh
          exact c1 (UInt8.toNat_inj.1 hh)
        · have := decV_hi (t := t) (show 128 ≤ c.toNat by omega)
          omega
      have hne : c :: t ≠ [] := by simp
      by_cases c2 : c.toNat < 32
      · have hd : decV (c :: t) 0 = (c.toNat, 1) := decV_lo (by omega)
        refine Out_cond _ _ _ _ _ _ _ rfl (fun _ => ?_) (fun h => by simp [c2] at h)
        rw [hd] at hc0
        simp at hc0
        simp [h5, h6, ubody, hd, hc0, c2, prT, PR.rest, PR.e]
      have hc32 : ¬ (decV (c :: t) 0).1 < 32 := by
        by_cases hlo : c.toNat < 128
        · rw [decV_lo hlo]; exact c2
        · have := decV_hi (t := t) (show 128 ≤ c.toNat by omega)
          omega
      refine Out_cond _ _ _ _ _ _ _ rfl (fun h => by simp [c2] at h) (fun _ => ?_)
      refine Out_shed (P := fun e => e 0 = .str q ∧ e 5 = .str acc ∧ e 6 = .int .i64 ((q.length - (t.length + 1) : Nat) : Int)) (by simp [h0, h5, h6]) ?_
      clear h0 h5 h6
      rintro env ⟨h0, h5, h6⟩
      simp [h0, h6, ↓hgi, e92]
      by_cases c3 : c = 92
      · have hsg := refSign_spec hq hl (by rw [c3]; rfl) s
        have hlo : c.toNat < 128 := by rw [c3]; decide
        have hd := decV_lo (t := t) hlo
        have hu : ubody (f + 1) (c :: t) acc = if (escR (c :: t)).2 = 0 then .err (c :: t) 4 else ubody f ((c :: t).drop (escR (c :: t)).2) (acc ++ encV (escR (c :: t)).1.toNat) := by
          rw [ubody, if_neg hne, if_neg hc0, if_neg hc32, hd, if_neg (by rw [c3]; decide), if_pos (by rw [c3]; decide)]
        rw [hu]
        have hok := escR_ok (c :: t)
        simp only [List.length_cons] at hsg hok
        refine Out_cond _ _ _ _ _ _ _ rfl (fun _ => ?_) (fun h => by simp [c3] at h)
        refine Out_shed (P := fun e => e 0 = .str q ∧ e 5 = .str acc ∧ e 6 = .int .i64 ((q.length - (t.length + 1) : Nat) : Int)) (by simp [h0, h5, h6]) ?_
        clear h0 h5 h6
        rintro env ⟨h0, h5, h6⟩
        generalize escR (c :: t) = R at hsg hok ⊢
        obtain ⟨R1, R2⟩ := R
        simp only at hsg hok ⊢
        simp [h0, h6, hsg]
        by_cases r0 : R2 = 0
        · subst r0
          refine Out_cond _ _ _ _ _ _ _ rfl (fun _ => ?_) (fun h => by simp at h)
          simp [h6, prT, PR.rest, PR.e]
        · obtain ⟨x, rfl, hx, hR2, hR3⟩ := hok r0
          clear hok
          have hrn := refRune_spec x hx s
          have hel := encV_len x
          have hw : IntKind.i64.wrap (((q.length - (t.length + 1) : Nat) : Int) + (R2 : Int)) = ((q.length - ((c :: t).drop R2).length : Nat) : Int) := by
            rw [List.length_drop, List.length_cons, wrap_in (by omega) (by omega)]; omega
          have hal : ((acc.length + (encV x).length : Nat) : Int) ≤ i64max := by have : i64max = 9223372036854775807 := rfl; omega
          refine Out_cond _ _ _ _ _ _ _ rfl (fun h => by simp [r0] at h) (fun _ => ?_)
          simp at hal
          simp [h5, h6, hrn, hal, hw, r0]
          refine Out.mono (ih ((c :: t).drop R2) (acc ++ encV x) _ s ((List.drop_suffix _ _).trans hl) ?_ ?_ ?_ ?_ ?_) ?_
          · rw [List.length_drop, List.length_cons]; omega
          · rw [List.length_drop, List.length_cons, List.length_append]; omega
          · simp [h0]
          · simp
          · simp
          · rintro e env' s' ⟨hs, h⟩
            exact ⟨hs, h⟩
      · have hc92 : ¬ (decV (c :: t) 0).1 = 92 := by
          by_cases hlo : c.toNat < 128
          · rw [decV_lo hlo]
            intro hh
            exact c3 (UInt8.toNat_inj.1 hh)
          · have := decV_hi (t := t) (show 128 ≤ c.toNat by omega)
            omega
        have hu : ubody (f + 1) (c :: t) acc = if (decV (c :: t) 0).1 = 65533 ∧ (decV (c :: t) 0).2 = 1 then .err (c :: t) 2 else ubody f ((c :: t).drop (decV (c :: t) 0).2) (acc ++ encV (decV (c :: t) 0).1) := by
          rw [ubody, if_neg hne, if_neg hc0, if_neg hc32]
          split
          · rfl
          · first | rfl | rw [if_neg hc92]
        rw [hu]
        have hz := size_spec q (q.length - (c :: t).length) (by omega) (by rw [List.length_cons]; omega) s
        rw [sizeV_suf hl hne] at hz
        simp only [List.length_cons] at hz
        have hdl := decV_le (c :: t) 0 (by simp)
        have htk := decV_take (l := c :: t) hne
        have hel := encV_len (decV (c :: t) 0).1
        simp only [List.length_cons, Nat.zero_add] at hdl
        clear hc0 hc32 hc92 hu
        refine Out_cond _ _ _ _ _ _ _ rfl (fun h => by simp [c3] at h) (fun _ => ?_)
        refine Out_shed (P := fun e => e 0 = .str q ∧ e 5 = .str acc ∧ e 6 = .int .i64 ((q.length - (t.length + 1) : Nat) : Int)) (by simp [h0, h5, h6]) ?_
        clear h0 h5 h6
        rintro env ⟨h0, h5, h6⟩
        generalize decV (c :: t) 0 = D at hz hdl htk hel ⊢
        obtain ⟨D1, D2⟩ := D
        simp only at hz hdl htk hel ⊢
        by_cases r0 : (D1, D2) = (65533, 1)
        · have r1 : D1 = 65533 ∧ D2 = 1 := by simpa using r0
          rw [if_pos r0] at hz
          simp at hz
          simp [h0, h6, hz]
          refine Out_cond _ _ _ _ _ _ _ rfl (fun _ => ?_) (fun h => by simp at h)
          simp [h6, r1, prT, PR.rest, PR.e]
        · have r1 : ¬ (D1 = 65533 ∧ D2 = 1) := by simpa using r0
          have hD2 : ¬ D2 = 0 := by omega
          have htk' := htk r0
          have hw : IntKind.i64.wrap (((q.length - (t.length + 1) : Nat) : Int) + (D2 : Int)) = ((q.length - (t.length + 1) : Nat) : Int) + (D2 : Int) := wrap_in (by omega) (by omega)
          have hp : ((q.length - (t.length + 1) : Nat) : Int) + (D2 : Int) = ((q.length - ((c :: t).drop D2).length : Nat) : Int) := by
            rw [List.length_drop, List.length_cons]; omega
          have hsl : evSlcS (.str q) (some (.int .i64 ((q.length - (t.length + 1) : Nat) : Int))) (some (.int .i64 (((q.length - (t.length + 1) : Nat) : Int) + (D2 : Int)))) = some (.str ((c :: t).take D2)) := by
            have e : (q.take (q.length - (t.length + 1) + D2)).drop (q.length - (t.length + 1)) = (c :: t).take D2 := by
              have h := suf_drop hl
              simp only [List.length_cons] at h
              rw [List.drop_take, h]
              congr 1
              omega
            have e2 : ((q.length - (t.length + 1) : Nat) : Int) + (D2 : Int) = ((q.length - (t.length + 1) + D2 : Nat) : Int) := by omega
            rw [e2]
            simp only [evSlcS, bnd, Int.toNat_natCast]
            rw [if_pos (by omega), if_pos (by omega)]
            simp only
            rw [if_pos (by omega)]
            rw [e]
          have hal : ((acc.length + ((c :: t).take D2).length : Nat) : Int) ≤ i64max := by
            have : i64max = 9223372036854775807 := rfl
            rw [← htk']
            omega
          rw [if_neg r0] at hz
          rw [if_neg r1]
          generalize hE : (c :: t).take D2 = E at *
          simp only at hz
          simp at hal
          simp [h0, h6, hz]
          refine Out_cond _ _ _ _ _ _ _ rfl (fun h => by simp [hD2] at h) (fun _ => ?_)
          simp [h0, h5, h6, hw, hsl, hal]
          refine Out.mono (ih ((c :: t).drop D2) (acc ++ encV D1) _ s ((List.drop_suffix _ _).trans hl) ?_ ?_ ?_ ?_ ?_) ?_
          · rw [List.length_drop, List.length_cons]; omega
          · rw [List.length_drop, List.length_cons, List.length_append]; omega
          · simp [h0]
          · simp [htk']
          · rw [← hp]; simp
          · rintro e env' s' ⟨hs, h⟩
            exact ⟨hs, h⟩

theorem refUnq_spec {q : List UInt8} (hq : q.length ≤ 1000000000) (s : St) :
    call G 45 [.str q] s = some (.tup [.str (prT (punq q)), .int .i64 ((q.length - (punq q).rest.length : Nat) : Int), .int .i64 (punq q).e], s) := by
  refine call_out (F := af45) rfl rfl ?_
  unfold punq
  cases q with
  | nil =>
    simp [af45, af45b]
    refine Out_cond _ _ _ _ _ _ _ rfl (fun _ => ?_) (fun h => by cases h)
    simp [begs, prT, PR.rest, PR.e]
    rw [fin_id _ (v := .tup _) rfl]
    rfl
  | cons c t =>
    have e34 : ((c.toNat : Int) = 34) ↔ c = 34 := u8eq c 34 (by decide)
    have hbg : begs (c :: t) [34] = decide (c = 34) := by simp [begs]
    rw [hbg]
    have hnl : ¬ ((t.length : Int) + 1 = 0) := by omega
    simp [af45, af45b, e34, hnl]
    by_cases c1 : c = 34
    · subst c1
      refine Out_cond _ _ _ _ _ _ _ rfl (fun h => by simp at h) (fun _ => ?_)
      simp
      refine Out.mono (refUnqLoop hq (t.length + 1) t [] _ s (List.suffix_cons _ _) (by omega) (by simp at hq ⊢; omega) (by simp) (by simp) (by simp)) ?_
      rintro e env' s' ⟨hs, ⟨rfl, h0, hU⟩ | ⟨rfl, h2, h3, h4⟩⟩
      · rw [hs, hU]
        simp [h0, prT, PR.rest, PR.e]
        rw [fin_id _ (v := .tup _) rfl]
        rfl
      · rw [hs]
        simp [h2, h3, h4]
        rw [fin_id _ (v := .tup _) rfl]
        rfl
    · refine Out_cond _ _ _ _ _ _ _ rfl (fun _ => ?_) (fun h => by simp [c1] at h)
      simp [c1, prT, PR.rest, PR.e]
      rw [fin_id _ (v := .tup _) rfl]
      rfl

end Go.Proofs.YtadpobnajjocnaaGreatDoor.Eng
