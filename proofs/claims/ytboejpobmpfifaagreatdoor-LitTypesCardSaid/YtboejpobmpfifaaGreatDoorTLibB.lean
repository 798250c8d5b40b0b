/-
  JSON: what the functions do, one behind the other. No condition.
-/
import Derived.Test.YtboejpobmpfifaaGreatDoorTLib0
/-
  JSON, read: what a reader holds; blanks, signs, faults. No condition.
-/
namespace Go.Proofs.YtboejpobmpfifaaGreatDoor.Eng
open Go
set_option linter.unusedSimpArgs false
set_option linter.unusedVariables false

attribute [local simp] evC_reg evC_regD evR_cons evR_nil runR_some regK_some evC_ret evC_skip evC_exit Out_seq Out_blk Out_some seqQ_norm seqQ_ret seqQ_exit blkQ_norm blkQ_ret blkQ_exit loopQ_norm loopQ_ret loopQ_exit
attribute [local simp] stepR evOp put upd_apply X.ev initEnv cells_agg cells_int cells_str cells_bool cells_sl cells_ptr cells_pnil cells_fn cells_map vc_length vc_take vc_plain vc_und toVs_plain toPs_plain toVs_und toPs_und takeN evBin isSh intBin strBin callK resOf packR V.plain plainL V.und undL scK kill dstsO dstsL dstsR ite_some ite_pair ite_vbool evUn evLoad evLen V.real finLoop_false quietK_false kill_none

/-! ### The plain parser -/
/-- What is read, and the rest; or the rest at which something is wrong, and what. -/
inductive PR (α : Type) where
  | ok (v : α) (l : List UInt8)
  | err (l : List UInt8) (e : Int)

/-- ... with another object there. -/
abbrev upR (s : St) (r : Nat) (o : AObj) : St := ⟨s.obs.set r o, s.bufs⟩

theorem suf_drop {b l : List UInt8} (h : l <:+ b) : b.drop (b.length - l.length) = l := (List.suffix_iff_eq_drop.1 h).symm
theorem suf_len {b l : List UInt8} (h : l <:+ b) : l.length ≤ b.length := h.length_le
theorem suf_get {b l : List UInt8} (h : l <:+ b) : b[b.length - l.length]? = l[0]? := by
  have := suf_drop h
  conv => rhs; rw [← this]
  simp [List.getElem?_drop]
theorem suf_tail {b : List UInt8} {c : UInt8} {l : List UInt8} (h : (c :: l) <:+ b) : l <:+ b := (List.suffix_cons c l).trans h
theorem fin_up (s : St) {r : Nat} {o : AObj} (hr : r < s.obs.length) (ho : o.und s.obs.length s.bufs.length = true) (junk : List AObj) (ex : List (Nat × Nat × TypeId)) {v : V} (hv : v.plain.und s.obs.length 0 = true) :
    ∃ ex', fin false s ⟨s.obs.set r o ++ junk, s.bufs ++ ex⟩ v = (v.plain, ⟨s.obs.set r o, s.bufs ++ ex'⟩) ∧ (ex = [] → ex' = []) := by
  have hl : (s.obs.set r o).length = s.obs.length := by simp
  have ht : (s.obs.set r o ++ junk).take s.obs.length = s.obs.set r o := by rw [← hl, List.take_left]
  unfold fin
  simp only [Bool.false_eq_true, if_false, ht]
  split
  · rename_i h
    have h1 : s.obs.set r o = s.obs := by rw [← ht]; exact h.1
    exact ⟨[], by rw [h1]; simp, fun _ => rfl⟩
  · rename_i h
    rw [if_pos]
    · exact ⟨ex, rfl, fun h => h⟩
    · refine ⟨fun i hi => ?_, hv⟩
      by_cases e : i = r
      · subst e
        right
        intro o' ho'
        rw [List.getElem?_append_left (by omega), List.getElem?_set_self hi] at ho'
        cases ho'
        exact AObj.und_mono (Nat.le_refl _) (by simp) _ ho
      · left
        rw [List.getElem?_append_left (by omega), List.getElem?_set_ne (by omega)]

theorem fin_up0 (s : St) {r : Nat} {o : AObj} (hr : r < s.obs.length) (ho : o.und s.obs.length s.bufs.length = true) (junk : List AObj) {v : V} (hv : v.plain.und s.obs.length 0 = true) :
    fin false s ⟨s.obs.set r o ++ junk, s.bufs⟩ v = (v.plain, ⟨s.obs.set r o, s.bufs⟩) := by
  obtain ⟨ex', h1, h2⟩ := fin_up s hr ho junk [] hv
  rw [h2 rfl] at h1
  simpa using h1
theorem fin_up1 (s : St) {r : Nat} {o : AObj} (hr : r < s.obs.length) (ho : o.und s.obs.length s.bufs.length = true) {v : V} (hv : v.plain.und s.obs.length 0 = true) :
    fin false s ⟨s.obs.set r o, s.bufs⟩ v = (v.plain, ⟨s.obs.set r o, s.bufs⟩) := by
  have := fin_up0 s hr ho [] hv
  simpa using this
theorem get_lt {s : St} {r : Nat} {o : AObj} (h : s.obs[r]? = some o) : r < s.obs.length := (List.getElem?_eq_some_iff.1 h).1
theorem set_same {s : St} {r : Nat} {o : AObj} (h : s.obs[r]? = some o) : upR s r o = s := by
  have hr := get_lt h
  have : s.obs[r] = o := by rw [List.getElem?_eq_getElem hr] at h; exact Option.some.inj h
  simp only [upR]
  rw [← this, List.set_getElem_self hr]

/-! ### fail -/
/-! ### skip -/
theorem ib_spec (b : List UInt8) (c : UInt8) (s : St) : call G 256 [.str b, .int .u8 c.toNat] s = some (.int .i64 (Lib.indexByte b c), s) := by
  rw [call_prim G 256 _ s primIB rfl]
  simp [primIB]

/-- The first byte; 0 at the end. -/
def hd0 (l : List UInt8) : UInt8 := (l[0]?).getD 0

end Go.Proofs.YtboejpobmpfifaaGreatDoor.Eng

/-
  JSON, read: words, numbers. No condition.
-/
namespace Go.Proofs.YtboejpobmpfifaaGreatDoor.Eng
open Go
set_option linter.unusedSimpArgs false
set_option linter.unusedVariables false

attribute [local simp] evC_reg evC_regD evR_cons evR_nil runR_some regK_some evC_ret evC_skip evC_exit Out_seq Out_blk Out_some seqQ_norm seqQ_ret seqQ_exit blkQ_norm blkQ_ret blkQ_exit loopQ_norm loopQ_ret loopQ_exit
attribute [local simp] stepR evOp put upd_apply X.ev initEnv cells_agg cells_int cells_str cells_bool cells_sl cells_ptr cells_pnil cells_fn cells_map vc_length vc_take vc_plain vc_und toVs_plain toPs_plain toVs_und toPs_und takeN evBin isSh intBin strBin callK resOf packR V.plain plainL V.und undL scK kill dstsO dstsL dstsR ite_some ite_pair ite_vbool evUn evLoad evLen V.real finLoop_false quietK_false kill_none

/-- Does it begin so? -/
def begs (l w : List UInt8) : Bool := decide (w.length ≤ l.length) && decide (l.take w.length = w)

theorem hp_spec (l w : List UInt8) (hl : l.length ≤ 9223372036854775807) (s : St) : call G 261 [.str l, .str w] s = some (.bool (begs l w), s) := by
  have h84 : call G 300 [.str l, .str w] s = some (.bool (begs l w), s) := by
    refine call_out (F := af300) rfl rfl ?_
    by_cases h : w.length ≤ l.length
    · have h' : ((w.length : Nat) : Int) ≤ (l.length : Int) := by omega
      simp [af300, af300b, h, h', evSlcS, bnd]
      rw [fin_id s (v := .bool _) rfl]
      simp [begs, h]
    · have h' : ¬ ((w.length : Nat) : Int) ≤ (l.length : Int) := by omega
      simp [af300, af300b, h, h']
      rw [fin_id s (v := .bool _) rfl]
      simp [begs, h]
  refine call_out (F := af261) rfl rfl ?_
  simp [af261, af261b, h84]
  exact fin_id s (v := .bool _) rfl

theorem begs_len {l w : List UInt8} (h : begs l w = true) : w.length ≤ l.length := by
  simp only [begs, Bool.and_eq_true, decide_eq_true_eq] at h
  exact h.1
theorem pos_drop {b l : List UInt8} (hl : l <:+ b) {n : Nat} (hn : n ≤ l.length) : b.length - (l.drop n).length = b.length - l.length + n := by
  have := suf_len hl
  simp only [List.length_drop]
  omega

end Go.Proofs.YtboejpobmpfifaaGreatDoor.Eng

/-
  JSON, read: numbers. No condition.
-/
namespace Go.Proofs.YtboejpobmpfifaaGreatDoor.Eng
open Go
set_option linter.unusedSimpArgs false
set_option linter.unusedVariables false

attribute [local simp] evC_reg evC_regD evR_cons evR_nil runR_some regK_some evC_ret evC_skip evC_exit Out_seq Out_blk Out_some seqQ_norm seqQ_ret seqQ_exit blkQ_norm blkQ_ret blkQ_exit loopQ_norm loopQ_ret loopQ_exit
attribute [local simp] stepR evOp put upd_apply X.ev initEnv cells_agg cells_int cells_str cells_bool cells_sl cells_ptr cells_pnil cells_fn cells_map vc_length vc_take vc_plain vc_und toVs_plain toPs_plain toVs_und toPs_und takeN evBin isSh intBin strBin callK resOf packR V.plain plainL V.und undL scK kill dstsO dstsL dstsR ite_some ite_pair ite_vbool evUn evLoad evLen V.real finLoop_false quietK_false kill_none

/-- Behind a sign. -/
def numT : List UInt8 → List UInt8
  | [] => []
  | x :: t => if x = 45 then t else x :: t
def isNeg (l : List UInt8) : Bool := decide (hd0 l = 45)
/-! ### ParseInt -/
theorem valF_ge (l : List UInt8) : ∀ a : Nat, a ≤ l.foldl (fun a x => 10 * a + (x.toNat - 48)) a := by
  induction l with
  | nil => intro a; exact Nat.le_refl _
  | cons x l ih =>
    intro a
    simp only [List.foldl_cons]
    exact Nat.le_trans (by omega) (ih _)

theorem parseU : ∀ (l : List UInt8) (a : Nat), (∀ x ∈ l, isDig x = true) →
    (Lib.parseUintM 18446744073709551615 a l = .ok (l.foldl (fun a x => 10 * a + (x.toNat - 48)) a)) ∨ (Lib.parseUintM 18446744073709551615 a l = .range ∧ 18446744073709551615 < l.foldl (fun a x => 10 * a + (x.toNat - 48)) a)
  | [], a, _ => .inl rfl
  | x :: l, a, h => by
    have hx := h x (by simp)
    simp only [isDig, Bool.and_eq_true, decide_eq_true_eq] at hx
    simp only [Lib.parseUintM, if_pos hx, List.foldl_cons]
    have hge := valF_ge l (10 * a + (x.toNat - 48))
    split
    · exact .inr ⟨rfl, by omega⟩
    · split
      · exact .inr ⟨rfl, by omega⟩
      · rw [show a * 10 + (x.toNat - 48) = 10 * a + (x.toNat - 48) by omega]
        exact parseU l _ (fun y hy => h y (by simp [hy]))

/-- Behind ParseInt: a number, or a fault. -/
def erV (t : Bool) : V := if t = true then .ifc 341 .junk else .nilI

theorem pi_spec (w : List UInt8) (hw : w.length ≤ 1000000000) : ∃ n eb, (∀ s, call G 273 [.str w, .int .i64 10, .int .i64 64] s = some (.tup [.int .i64 n, erV eb], s)) ∧
    (eb = true ∧ (∀ v, Lib.parseIntB 64 w ≠ .ok v) ∨ eb = false ∧ Lib.parseIntB 64 w = .ok n) := by
  have h := fun s => call_prim G 273 [.str w, .int .i64 10, .int .i64 64] s primPI rfl
  have hle : w.length ≤ 281474976710656 := by omega
  simp only [primPI, if_pos hle] at h
  cases hp : Lib.parseIntB 64 w with
  | ok v => simp only [hp] at h; exact ⟨v, false, h, .inr ⟨rfl, rfl⟩⟩
  | range => simp only [hp] at h; exact ⟨_, true, h, .inl ⟨rfl, fun v q => by cases q⟩⟩
  | _ => simp only [hp] at h; exact ⟨0, true, h, .inl ⟨rfl, fun v q => by cases q⟩⟩

theorem takeWhile_all (l : List UInt8) : ∀ x ∈ l.takeWhile isDig, isDig x = true := fun x hx => by
  have := List.all_takeWhile (p := isDig) (l := l)
  rw [List.all_eq_true] at this
  exact this x hx

/-- What ParseInt makes of digits, with a sign or without. -/
theorem pi_val {ds : List UInt8} (hd : ∀ x ∈ ds, isDig x = true) (hne : ds ≠ []) (ng : Bool) :
    (valD ds ≤ 9007199254740991 → Lib.parseIntB 64 (if ng = true then 45 :: ds else ds) = .ok (if ng = true then -(valD ds : Int) else (valD ds : Int))) ∧
    (9007199254740991 < valD ds → ∀ n, Lib.parseIntB 64 (if ng = true then 45 :: ds else ds) = .ok n → n < -9007199254740991 ∨ 9007199254740991 < n) := by
  have hu := parseU ds 0 hd
  have hB : Lib.parseUintB 64 ds = Lib.parseUintM 18446744073709551615 0 ds := by simp [Lib.parseUintB, hne]
  have hv : ds.foldl (fun a x => 10 * a + (x.toNat - 48)) 0 = valD ds := rfl
  rw [hv, ← hB] at hu
  have hfirst : ∀ c r, ds = c :: r → c.toNat ≠ 43 ∧ c.toNat ≠ 45 := by
    rintro c r rfl
    have := hd c (by simp)
    simp only [isDig, Bool.and_eq_true, decide_eq_true_eq] at this
    omega
  have hP : Lib.parseIntB 64 (if ng = true then 45 :: ds else ds) = match Lib.parseUintB 64 ds with
      | Lib.NumEnd.syntax => Lib.NumEnd.syntax
      | .range => .range
      | .ok u => if ¬ ng = true ∧ 2 ^ 63 ≤ u then .range else if ng = true ∧ 2 ^ 63 < u then .range else .ok (if ng = true then -(u : Int) else u) := by
    cases ng with
    | true => simp [Lib.parseIntB]; cases Lib.parseUintB 64 ds <;> rfl
    | false =>
      cases ds with
      | nil => exact absurd rfl hne
      | cons c r =>
        obtain ⟨h1, h2⟩ := hfirst c r rfl
        simp [Lib.parseIntB, h1, h2]
        cases Lib.parseUintB 64 (c :: r) <;> rfl
  rw [hP]
  refine ⟨fun hle => ?_, fun hgt n => ?_⟩
  · rcases hu with hu | ⟨_, hu⟩
    · rw [hu]
      cases ng <;> simp <;> omega
    · omega
  · rcases hu with hu | ⟨hu, _⟩
    · rw [hu]
      intro h
      simp only at h
      split at h
      · cases h
      · split at h
        · cases h
        · simp only [Lib.NumEnd.ok.injEq] at h
          split at h <;> omega
    · rw [hu]
      intro h
      cases h

end Go.Proofs.YtboejpobmpfifaaGreatDoor.Eng

/-
  JSON, read: the function that reads a number. No condition.
-/
namespace Go.Proofs.YtboejpobmpfifaaGreatDoor.Eng
open Go
set_option linter.unusedSimpArgs false
set_option linter.unusedVariables false

attribute [local simp] evC_reg evC_regD evR_cons evR_nil runR_some regK_some evC_ret evC_skip evC_exit Out_seq Out_blk Out_some seqQ_norm seqQ_ret seqQ_exit blkQ_norm blkQ_ret blkQ_exit loopQ_norm loopQ_ret loopQ_exit
attribute [local simp] stepR evOp put upd_apply X.ev initEnv cells_agg cells_int cells_str cells_bool cells_sl cells_ptr cells_pnil cells_fn cells_map vc_length vc_take vc_plain vc_und toVs_plain toPs_plain toVs_und toPs_und takeN evBin isSh intBin strBin callK resOf packR V.plain plainL V.und undL scK kill dstsO dstsL dstsR ite_some ite_pair ite_vbool evUn evLoad evLen V.real finLoop_false quietK_false kill_none

theorem numT_suf (l : List UInt8) : numT l <:+ l := by
  cases l with
  | nil => exact List.suffix_refl _
  | cons x t =>
    simp only [numT]
    split
    · exact List.suffix_cons _ _
    · exact List.suffix_refl _
theorem valD_ge : ∀ (l : List UInt8) (a : Nat), 10 ^ l.length * a ≤ l.foldl (fun a x => 10 * a + (x.toNat - 48)) a
  | [], a => by simp
  | x :: l, a => by
    simp only [List.foldl_cons, List.length_cons]
    refine Nat.le_trans ?_ (valD_ge l _)
    rw [Nat.pow_succ, Nat.mul_assoc]
    exact Nat.mul_le_mul_left _ (by omega)

/-- So many digits, of which the first isn't 0, are a great number. -/
theorem valD_big {ds : List UInt8} (hd : ∀ x ∈ ds, isDig x = true) (h0 : hd0 ds ≠ 48) (hl : 17 ≤ ds.length) : 9007199254740991 < valD ds := by
  cases ds with
  | nil => simp at hl
  | cons x r =>
    have hx := hd x (by simp)
    simp only [isDig, Bool.and_eq_true, decide_eq_true_eq] at hx
    have hx0 : x.toNat ≠ 48 := fun q => h0 (by simp only [hd0, List.getElem?_cons_zero, Option.getD_some]; exact UInt8.toNat_inj.1 q)
    have h1 := valD_ge r (10 * 0 + (x.toNat - 48))
    have h2 : 10 ^ 16 * 1 ≤ 10 ^ r.length * (10 * 0 + (x.toNat - 48)) := Nat.mul_le_mul (Nat.pow_le_pow_right (by omega) (by simp at hl; omega)) (by omega)
    have h3 : valD (x :: r) = r.foldl (fun a x => 10 * a + (x.toNat - 48)) (10 * 0 + (x.toNat - 48)) := rfl
    rw [h3]
    have : (10 : Nat) ^ 16 = 10000000000000000 := by decide
    omega

theorem seqQ_mono {G : Gp} {b : ACode} {Q Q' : AExit → Env → St → Prop} (h : ∀ e env s, Q e env s → Q' e env s) : ∀ e env s, seqQ G b Q e env s → seqQ G b Q' e env s
  | .norm, env, s, q => Out.mono q h
  | .ret, env, s, q => h _ _ _ q
  | .exit i, env, s, q => h _ _ _ q

end Go.Proofs.YtboejpobmpfifaaGreatDoor.Eng

/-
  Quoted texts, read: what stands behind a sign 5c. No condition.
-/
namespace Go.Proofs.YtboejpobmpfifaaGreatDoor.Eng
open Go
set_option linter.unusedSimpArgs false
set_option linter.unusedVariables false

attribute [local simp] evC_reg evC_regD evR_cons evR_nil runR_some regK_some evC_ret evC_skip evC_exit Out_seq Out_blk Out_some seqQ_norm seqQ_ret seqQ_exit blkQ_norm blkQ_ret blkQ_exit loopQ_norm loopQ_ret loopQ_exit
attribute [local simp] stepR evOp put upd_apply X.ev initEnv cells_agg cells_int cells_str cells_bool cells_sl cells_ptr cells_pnil cells_fn cells_map vc_length vc_take vc_plain vc_und toVs_plain toPs_plain toVs_und toPs_und takeN evBin isSh intBin strBin callK resOf packR fin V.plain plainL V.und undL scK kill dstsO dstsL dstsR ite_some ite_pair ite_vbool evUn evLoad evLen V.real finLoop_false quietK_false kill_none

/-- A hexadecimal digit; -1: none. -/
def hexD (x : UInt8) : Int :=
  if 48 ≤ x.toNat ∧ x.toNat ≤ 57 then x.toNat - 48
  else if 97 ≤ x.toNat ∧ x.toNat ≤ 102 then x.toNat - 87
  else if 65 ≤ x.toNat ∧ x.toNat ≤ 70 then x.toNat - 55
  else -1

theorem wrap8 {n : Int} (h0 : 0 ≤ n) (h1 : n < 256) : IntKind.u8.wrap n = n := by rw [wrapU8 h0]; omega

theorem hexD_spec (x : UInt8) (s : St) : call G 357 [.int .u8 x.toNat] s = some (.int .i32 (hexD x), s) := by
  have hx := x.toNat_lt
  refine call_out (F := af357) rfl rfl ?_
  by_cases a1 : 48 ≤ x.toNat ∧ x.toNat ≤ 57
  · have i1 : (48 : Int) ≤ (x.toNat : Int) := by omega
    have i2 : (x.toNat : Int) ≤ 57 := by omega
    have w1 : IntKind.u8.wrap ((x.toNat : Int) - 48) = x.toNat - 48 := wrap8 (by omega) (by omega)
    have w2 : IntKind.i32.wrap ((x.toNat : Int) - 48) = x.toNat - 48 := wrap32 (by omega) (by omega)
    simp [af357, af357b, i1, i2]
    refine Out_cond _ _ _ _ _ _ _ rfl (fun _ => ?_) (fun h => by cases h)
    simp [w1, w2, hexD, a1]
  · have h1 : hexD x = if 97 ≤ x.toNat ∧ x.toNat ≤ 102 then (x.toNat : Int) - 87 else if 65 ≤ x.toNat ∧ x.toNat ≤ 70 then (x.toNat : Int) - 55 else -1 := by
      unfold hexD; rw [if_neg a1]
    have c1 : ∀ (Q : AExit → Env → St → Prop) env, Out (evC G (.reg [⟨(some 4), .mov (.tmp 0)⟩, ⟨(some 5), .bin .geq (.tmp 4) (.c (.int .u8 48))⟩,
        ⟨(some 9), .sc 6 true (.tmp 5) [⟨(some 7), .mov (.tmp 0)⟩, ⟨(some 8), .bin .leq (.tmp 7) (.c (.int .u8 57))⟩] (.tmp 8)⟩, ⟨(some 3), .mov (.tmp 9)⟩]) env s) Q → True := fun _ _ _ => trivial
    by_cases i1 : (48 : Int) ≤ (x.toNat : Int)
    · have i2 : ¬ (x.toNat : Int) ≤ 57 := by omega
      simp [af357, af357b, i1, i2]
      refine Out_cond _ _ _ _ _ _ _ rfl (fun h => by cases h) (fun _ => ?_)
      by_cases b1 : (97 : Int) ≤ (x.toNat : Int)
      · by_cases b2 : (x.toNat : Int) ≤ 102
        · have w1 : IntKind.u8.wrap ((x.toNat : Int) - 97) = x.toNat - 97 := wrap8 (by omega) (by omega)
          have w2 : IntKind.i32.wrap ((x.toNat : Int) - 97) = x.toNat - 97 := wrap32 (by omega) (by omega)
          have w3 : IntKind.i32.wrap ((x.toNat : Int) - 97 + 10) = x.toNat - 87 := by rw [wrap32 (by omega) (by omega)]; omega
          simp [b1, b2]
          refine Out_cond _ _ _ _ _ _ _ rfl (fun _ => ?_) (fun h => by cases h)
          simp [w1, w2, w3, h1]
          omega
        · simp [b1, b2]
          refine Out_cond _ _ _ _ _ _ _ rfl (fun h => by cases h) (fun _ => ?_)
          have d1 : (65 : Int) ≤ (x.toNat : Int) := by omega
          have d2 : ¬ (x.toNat : Int) ≤ 70 := by omega
          simp [d1, d2]
          refine Out_cond _ _ _ _ _ _ _ rfl (fun h => by cases h) (fun _ => ?_)
          simp [h1]
          rw [if_neg (by omega), if_neg (by omega)]
      · simp [b1]
        refine Out_cond _ _ _ _ _ _ _ rfl (fun h => by cases h) (fun _ => ?_)
        by_cases d1 : (65 : Int) ≤ (x.toNat : Int)
        · by_cases d2 : (x.toNat : Int) ≤ 70
          · have w1 : IntKind.u8.wrap ((x.toNat : Int) - 65) = x.toNat - 65 := wrap8 (by omega) (by omega)
            have w2 : IntKind.i32.wrap ((x.toNat : Int) - 65) = x.toNat - 65 := wrap32 (by omega) (by omega)
            have w3 : IntKind.i32.wrap ((x.toNat : Int) - 65 + 10) = x.toNat - 55 := by rw [wrap32 (by omega) (by omega)]; omega
            simp [d1, d2]
            refine Out_cond _ _ _ _ _ _ _ rfl (fun _ => ?_) (fun h => by cases h)
            simp [w1, w2, w3, h1]
            rw [if_neg (by omega), if_pos (by omega)]
          · simp [d1, d2]
            refine Out_cond _ _ _ _ _ _ _ rfl (fun h => by cases h) (fun _ => ?_)
            simp [h1]
            rw [if_neg (by omega), if_neg (by omega)]
        · simp [d1]
          refine Out_cond _ _ _ _ _ _ _ rfl (fun h => by cases h) (fun _ => ?_)
          simp [h1]
          rw [if_neg (by omega), if_neg (by omega)]
    · simp [af357, af357b, i1]
      refine Out_cond _ _ _ _ _ _ _ rfl (fun h => by cases h) (fun _ => ?_)
      have b1 : ¬ (97 : Int) ≤ (x.toNat : Int) := by omega
      simp [b1]
      refine Out_cond _ _ _ _ _ _ _ rfl (fun h => by cases h) (fun _ => ?_)
      have d1 : ¬ (65 : Int) ≤ (x.toNat : Int) := by omega
      simp [d1]
      refine Out_cond _ _ _ _ _ _ _ rfl (fun h => by cases h) (fun _ => ?_)
      simp [h1]
      rw [if_neg (by omega), if_neg (by omega)]

theorem hexD_le (x : UInt8) : -1 ≤ hexD x ∧ hexD x ≤ 15 := by
  have hx := x.toNat_lt
  unfold hexD
  repeat' split
  all_goals omega

/-- One byte behind the sign: the rune; is there one? -/
def shortR (x : UInt8) : Int × Bool :=
  if x.toNat = 34 ∨ x.toNat = 92 ∨ x.toNat = 47 then (x.toNat, true)
  else if x.toNat = 98 then (8, true) else if x.toNat = 102 then (12, true) else if x.toNat = 110 then (10, true)
  else if x.toNat = 114 then (13, true) else if x.toNat = 116 then (9, true) else (0, false)

theorem shortR_spec (x : UInt8) (s : St) : call G 346 [.int .u8 x.toNat] s = some (.tup [.int .i32 (shortR x).1, .bool (shortR x).2], s) := by
  have hx := x.toNat_lt
  have w : IntKind.i32.wrap (x.toNat : Int) = x.toNat := wrap32 (by omega) (by omega)
  refine call_out (F := af346) rfl rfl ?_
  by_cases a1 : x.toNat = 34
  · have i1 : (x.toNat : Int) = 34 := by omega
    simp [af346, af346b, i1, ↓shortR, a1]
    refine Out_cond _ _ _ _ _ _ _ rfl (fun _ => ?_) (fun h => by cases h)
    simp
    refine Out_cond _ _ _ _ _ _ _ rfl (fun _ => ?_) (fun h => by cases h)
    simp [i1, show IntKind.i32.wrap 34 = 34 from by decide]
  have j1 : ¬ (x.toNat : Int) = 34 := by omega
  simp [af346, af346b, j1]
  refine Out_cond _ _ _ _ _ _ _ rfl (fun h => by cases h) (fun _ => ?_)
  by_cases a2 : x.toNat = 92
  · have i1 : (x.toNat : Int) = 92 := by omega
    simp [i1]
    refine Out_cond _ _ _ _ _ _ _ rfl (fun _ => ?_) (fun h => by cases h)
    simp
    refine Out_cond _ _ _ _ _ _ _ rfl (fun _ => ?_) (fun h => by cases h)
    simp [i1, show IntKind.i32.wrap 92 = 92 from by decide, shortR, a2]
  have j2 : ¬ (x.toNat : Int) = 92 := by omega
  simp [j2]
  refine Out_cond _ _ _ _ _ _ _ rfl (fun h => by cases h) (fun _ => ?_)
  by_cases a3 : x.toNat = 47
  · have i1 : (x.toNat : Int) = 47 := by omega
    simp [i1]
    refine Out_cond _ _ _ _ _ _ _ rfl (fun _ => ?_) (fun h => by cases h)
    simp [i1, show IntKind.i32.wrap 47 = 47 from by decide, shortR, a3]
  have j3 : ¬ (x.toNat : Int) = 47 := by omega
  simp [j3]
  refine Out_cond _ _ _ _ _ _ _ rfl (fun h => by cases h) (fun _ => ?_)
  by_cases a4 : x.toNat = 98
  · have i1 : (x.toNat : Int) = 98 := by omega
    simp [i1]
    refine Out_cond _ _ _ _ _ _ _ rfl (fun _ => ?_) (fun h => by cases h)
    simp [shortR, a4]
  have j4 : ¬ (x.toNat : Int) = 98 := by omega
  simp [j4]
  refine Out_cond _ _ _ _ _ _ _ rfl (fun h => by cases h) (fun _ => ?_)
  by_cases a5 : x.toNat = 102
  · have i1 : (x.toNat : Int) = 102 := by omega
    simp [i1]
    refine Out_cond _ _ _ _ _ _ _ rfl (fun _ => ?_) (fun h => by cases h)
    simp [shortR, a5]
  have j5 : ¬ (x.toNat : Int) = 102 := by omega
  simp [j5]
  refine Out_cond _ _ _ _ _ _ _ rfl (fun h => by cases h) (fun _ => ?_)
  by_cases a6 : x.toNat = 110
  · have i1 : (x.toNat : Int) = 110 := by omega
    simp [i1]
    refine Out_cond _ _ _ _ _ _ _ rfl (fun _ => ?_) (fun h => by cases h)
    simp [shortR, a6]
  have j6 : ¬ (x.toNat : Int) = 110 := by omega
  simp [j6]
  refine Out_cond _ _ _ _ _ _ _ rfl (fun h => by cases h) (fun _ => ?_)
  by_cases a7 : x.toNat = 114
  · have i1 : (x.toNat : Int) = 114 := by omega
    simp [i1]
    refine Out_cond _ _ _ _ _ _ _ rfl (fun _ => ?_) (fun h => by cases h)
    simp [shortR, a7]
  have j7 : ¬ (x.toNat : Int) = 114 := by omega
  simp [j7]
  refine Out_cond _ _ _ _ _ _ _ rfl (fun h => by cases h) (fun _ => ?_)
  by_cases a8 : x.toNat = 116
  · have i1 : (x.toNat : Int) = 116 := by omega
    simp [i1]
    refine Out_cond _ _ _ _ _ _ _ rfl (fun _ => ?_) (fun h => by cases h)
    simp [shortR, a8]
  have j8 : ¬ (x.toNat : Int) = 116 := by omega
  simp [j8]
  refine Out_cond _ _ _ _ _ _ _ rfl (fun h => by cases h) (fun _ => ?_)
  simp [shortR, a1, a2, a3, a4, a5, a6, a7, a8]

def hexF : Int → List UInt8 → Int
  | n, [] => n
  | n, d :: ds => if hexD d < 0 then -1 else hexF (n * 16 + hexD d) ds
/-- Four digits behind 5c, u; -1: they aren't there. -/
def unitR : List UInt8 → Int
  | a :: u :: d1 :: d2 :: d3 :: d4 :: _ => if a = 92 ∧ u = 117 then hexF 0 [d1, d2, d3, d4] else -1
  | _ => -1

theorem hexF_ge : ∀ (ds : List UInt8) (n : Int), 0 ≤ n → -1 ≤ hexF n ds
  | [], n, h => by simp only [hexF]; omega
  | d :: ds, n, h => by
    simp only [hexF]
    split
    · omega
    · exact hexF_ge ds _ (by omega)

theorem shl_or {n d : Int} (h0 : 0 ≤ n) (h1 : n < 134217728) (h2 : 0 ≤ d) (h3 : d < 16) :
    evBin .or (.int .i32 (IntKind.i32.wrap (n * 2 ^ (min 4 IntKind.i32.bits)))) (.int .i32 d) = some (.int .i32 (n * 16 + d)) := by
  have m : min 4 IntKind.i32.bits = 4 := by decide
  have w : IntKind.i32.wrap (n * 2 ^ (min 4 IntKind.i32.bits)) = n * 16 := by rw [m, wrap32 (by omega) (by omega)]; rfl
  rw [w]
  have hb : IntKind.i32.bits = 32 := rfl
  simp only [evBin, isSh, intBin, Bool.false_eq_true, if_false, if_true, hb]
  have e1 : (BitVec.ofInt 32 (n * 16) ||| BitVec.ofInt 32 d).toNat = (n * 16 + d).toNat := by
    rw [BitVec.toNat_or, BitVec.toNat_ofInt, BitVec.toNat_ofInt]
    have p : ((2 ^ 32 : Nat) : Int) = 4294967296 := by decide
    rw [p, Int.emod_eq_of_lt (by omega) (by omega), Int.emod_eq_of_lt (by omega) (by omega)]
    have q : (n * 16).toNat = 2 ^ 4 * n.toNat := by omega
    rw [q, ← Nat.two_pow_add_eq_or_of_lt (i := 4) (by omega)]
    omega
  have e2 : (BitVec.ofInt IntKind.i32.bits (n * 16) ||| BitVec.ofInt IntKind.i32.bits d).toNat = (n * 16 + d).toNat := e1
  rw [e2, wrap32 (by omega) (by omega)]
  congr 2
  omega

theorem unitR_short {l : List UInt8} (h : l.length < 6) : unitR l = -1 := by
  rcases l with _ | ⟨_, _ | ⟨_, _ | ⟨_, _ | ⟨_, _ | ⟨_, _ | ⟨_, _⟩⟩⟩⟩⟩⟩ <;> first | rfl | (simp at h; omega)

theorem unitLoop (l r : List UInt8) (hl : l.length ≤ 1000000000) : ∀ (ds pre : List UInt8) (i : Nat) (n : Int) (env : Env) (s : St), l = pre ++ ds ++ r → pre.length = 2 + i → ds.length + i = 4 → 0 ≤ n → (n + 1) * 16 ^ ds.length ≤ 65536 →
    env 0 = .str l → env 3 = .int .i32 n → env 19 = .int .i64 i →
    Out (evC G (.loop false af347l0) env s) (fun e env' s' => s' = s ∧ ((hexF n ds = -1 ∧ e = .ret ∧ env' 2 = .int .i32 (-1)) ∨ (0 ≤ hexF n ds ∧ e = .exit 0 ∧ env' 3 = .int .i32 (hexF n ds)))) := by
  intro ds
  induction ds with
  | nil =>
    intro pre i n env s hle hp hd h0 h1 e0 e3 e19
    have hi : i = 4 := by simpa using hd
    subst hi
    refine Out_loop G false _ _ af347l0.eq_1 _ _ _ ?_
    simp [e19]
    refine Out_cond _ _ _ _ _ _ _ rfl (fun h => by cases h) (fun _ => ?_)
    simp [hexF, e3, h0]
  | cons d ds ih =>
    intro pre i n env s hle hp hd h0 h1 e0 e3 e19
    have hi4 : i < 4 := by simp at hd; omega
    have hi4' : (i : Int) < 4 := by omega
    have hg : l[2 + i]? = some d := by
      rw [hle, List.append_assoc, List.getElem?_append_right (by omega), hp]
      simp
    have hw : IntKind.i64.wrap (2 + (i : Int)) = ((2 + i : Nat) : Int) := by rw [wrap_in (by omega) (by omega)]; omega
    have hgi : l[((2 : Int) + (i : Int)).toNat]? = some d := by rw [show ((2 : Int) + (i : Int)).toNat = 2 + i by omega]; exact hg
    have hge : (0 : Int) ≤ 2 + (i : Int) := by omega
    have hdl := hexD_le d
    have hpow : (16 : Int) ^ (ds.length + 1) = 16 ^ ds.length * 16 := by rw [Int.pow_succ]
    have hpos : (1 : Int) ≤ 16 ^ ds.length := by
      have := Nat.one_le_pow ds.length 16 (by omega)
      have h2 : ((16 ^ ds.length : Nat) : Int) = (16 : Int) ^ ds.length := by simp
      omega
    have hn : n < 4096 := by
      simp only [List.length_cons] at h1
      rw [hpow] at h1
      have : (n + 1) * 16 ≤ (n + 1) * (16 ^ ds.length * 16) := by
        refine Int.mul_le_mul_of_nonneg_left ?_ (by omega)
        omega
      omega
    refine Out_loop G false _ _ af347l0.eq_1 _ _ _ ?_
    simp [e19, hi4']
    refine Out_cond _ _ _ _ _ _ _ rfl (fun _ => ?_) (fun h => by cases h)
    simp [e0, e3, e19, hw, hge, ↓hgi, hexD_spec]
    refine Out_cond _ _ _ _ _ _ _ rfl (fun h => ?_) (fun h => ?_)
    · have q1 : hexD d < 0 := by simpa using h
      simp [hexF, q1]
    · have q1 : ¬ hexD d < 0 := by simpa using h
      have o1 := shl_or (n := n) (d := hexD d) h0 (by omega) (by omega) (by omega)
      have hsh : shBin .shl .i32 n 4 = some (.int .i32 (IntKind.i32.wrap (n * 2 ^ (min 4 IntKind.i32.bits)))) := rfl
      have hw2 : IntKind.i64.wrap ((i : Int) + 1) = ((i + 1 : Nat) : Int) := by rw [wrap_in (by omega) (by omega)]; omega
      simp only [evBin, isSh, intBin, Bool.false_eq_true, if_false, if_true, Option.some.injEq] at o1
      simp [e3, e19, hsh, hw2]
      refine Out.mono (ih (pre ++ [d]) (i + 1) (n * 16 + hexD d) _ s ?_ ?_ ?_ ?_ ?_ ?_ ?_ ?_) ?_
      · rw [hle]; simp
      · simp [hp]; omega
      · simp at hd ⊢; omega
      · omega
      · simp only [List.length_cons] at h1
        rw [hpow] at h1
        have e : (n * 16 + hexD d + 1) * 16 ^ ds.length ≤ ((n + 1) * 16) * 16 ^ ds.length := Int.mul_le_mul_of_nonneg_right (by omega) (by omega)
        have e2 : ((n + 1) * 16) * 16 ^ ds.length = (n + 1) * (16 ^ ds.length * 16) := by rw [Int.mul_assoc, Int.mul_comm 16]
        omega
      · simp [e0]
      · simp at o1 ⊢
        exact o1
      · simp
      · rintro e env' s' ⟨rfl, h⟩
        refine ⟨rfl, ?_⟩
        rw [hexF, if_neg q1]
        exact h

theorem unitR_spec (l : List UInt8) (hl : l.length ≤ 1000000000) (s : St) : call G 347 [.str l] s = some (.int .i32 (unitR l), s) := by
  have b92 : ∀ x : UInt8, ((x.toNat : Int) = 92) ↔ x = 92 := fun x => ⟨fun q => UInt8.toNat_inj.1 (by simp; omega), fun q => by subst q; rfl⟩
  have b117 : ∀ x : UInt8, ((x.toNat : Int) = 117) ↔ x = 117 := fun x => ⟨fun q => UInt8.toNat_inj.1 (by simp; omega), fun q => by subst q; rfl⟩
  refine call_out (F := af347) rfl rfl ?_
  by_cases h6 : l.length < 6
  · have h6' : (l.length : Int) < 6 := by omega
    simp [af347, af347b, h6']
    refine Out_cond _ _ _ _ _ _ _ rfl (fun _ => ?_) (fun h => by cases h)
    simp [unitR_short h6]
  rcases l with _ | ⟨a, _ | ⟨u, _ | ⟨d1, _ | ⟨d2, _ | ⟨d3, _ | ⟨d4, r⟩⟩⟩⟩⟩⟩
  iterate 6 (exact absurd (by simp) h6)
  have h6' : (6 : Int) ≤ (r.length : Int) + 1 + 1 + 1 + 1 + 1 + 1 := by omega
  have h6'' : ¬ ((r.length : Int) + 1 + 1 + 1 + 1 + 1 + 1 < 6) := by omega
  by_cases ha : a = 92
  · by_cases hu : u = 117
    · subst ha hu
      simp [af347, af347b, h6', h6'']
      refine Out_cond _ _ _ _ _ _ _ rfl (fun h => by cases h) (fun _ => ?_)
      simp
      refine Out.mono (unitLoop _ r hl [d1, d2, d3, d4] [92, 117] 0 0 _ s (by simp) rfl rfl (by omega) (by simp) ?_ ?_ ?_) ?_
      · simp
      · simp
      · simp
      rintro e env' s' ⟨rfl, ⟨h1, rfl, h2⟩ | ⟨h1, rfl, h2⟩⟩
      · simp [h2, unitR, h1]
      · simp [h2, unitR]
    · have hu' := mt (b117 u).1 hu
      subst ha
      simp [af347, af347b, h6', h6'', hu']
      refine Out_cond _ _ _ _ _ _ _ rfl (fun _ => ?_) (fun h => by cases h)
      simp [unitR, hu]
  · have ha' := mt (b92 a).1 ha
    simp [af347, af347b, h6', h6'', ha']
    refine Out_cond _ _ _ _ _ _ _ rfl (fun _ => ?_) (fun h => by cases h)
    simp [unitR, ha]

/-- The rune behind a sign 5c, and how many bytes it takes; 0: none. -/
def escR (l : List UInt8) : Int × Nat :=
  if 1 < l.length ∧ (shortR ((l[1]?).getD 0)).2 = true then ((shortR ((l[1]?).getD 0)).1, 2)
  else if unitR l < 0 ∨ (56320 ≤ unitR l ∧ unitR l ≤ 57343) then (0, 0)
  else if unitR l < 55296 ∨ 57343 < unitR l then (unitR l, 6)
  else if unitR (l.drop 6) < 56320 ∨ 57343 < unitR (l.drop 6) then (0, 0)
  else (65536 + (unitR l - 55296) * 1024 + unitR (l.drop 6) - 56320, 12)

theorem hexF_lt : ∀ (ds : List UInt8) (n : Int), 0 ≤ n → (n + 1) * 16 ^ ds.length ≤ 65536 → hexF n ds < 65536
  | [], n, h, h1 => by simp [hexF] at h1 ⊢; omega
  | d :: ds, n, h, h1 => by
    have hdl := hexD_le d
    have hpow : (16 : Int) ^ (ds.length + 1) = 16 ^ ds.length * 16 := by rw [Int.pow_succ]
    have hpos : (0 : Int) ≤ 16 ^ ds.length := by
      exact Int.le_of_lt (Int.pow_pos (by omega))
    simp only [hexF]
    split
    · omega
    · refine hexF_lt ds _ (by omega) ?_
      simp only [List.length_cons] at h1
      rw [hpow] at h1
      have e : (n * 16 + hexD d + 1) * 16 ^ ds.length ≤ ((n + 1) * 16) * 16 ^ ds.length := Int.mul_le_mul_of_nonneg_right (by omega) hpos
      have e2 : ((n + 1) * 16) * 16 ^ ds.length = (n + 1) * (16 ^ ds.length * 16) := by rw [Int.mul_assoc, Int.mul_comm 16]
      omega

theorem unitR_le (l : List UInt8) : -1 ≤ unitR l ∧ unitR l < 65536 ∧ (0 ≤ unitR l → 6 ≤ l.length) := by
  rcases l with _ | ⟨a, _ | ⟨u, _ | ⟨d1, _ | ⟨d2, _ | ⟨d3, _ | ⟨d4, r⟩⟩⟩⟩⟩⟩ <;> try (simp [unitR]; done)
  simp only [unitR]
  split
  · exact ⟨hexF_ge _ _ (by omega), hexF_lt _ _ (by omega) (by simp), fun _ => by simp⟩
  · exact ⟨by omega, by omega, fun h => by omega⟩

theorem escR_spec (l : List UInt8) (hl : l.length ≤ 1000000000) (s : St) : call G 328 [.str l] s = some (.tup [.int .i32 (escR l).1, .int .i64 (escR l).2], s) := by
  have hu := unitR_spec l hl
  obtain ⟨u0, u1, u6⟩ := unitR_le l
  have hs6 : 6 ≤ l.length → evSlcS (.str l) (some (.int .i64 6)) none = some (.str (l.drop 6)) := by
    intro h; simp [evSlcS, bnd, h]
  have hd := unitR_spec (l.drop 6) (by simp; omega)
  obtain ⟨v0, v1, _⟩ := unitR_le (l.drop 6)
  refine call_out (F := af328) rfl rfl ?_
  simp [af328, af328b]
  refine Out.mono (Q := fun e env' s' => s' = s ∧ ((e = .ret ∧ 1 < l.length ∧ (shortR ((l[1]?).getD 0)).2 = true ∧ env' 2 = .int .i32 (shortR ((l[1]?).getD 0)).1 ∧ env' 3 = .int .i64 2) ∨
    (e = .norm ∧ env' 0 = .str l ∧ ¬ (1 < l.length ∧ (shortR ((l[1]?).getD 0)).2 = true)))) ?_ ?_
  · refine Out_cond _ _ _ _ _ _ _ rfl (fun h => ?_) (fun h => ?_)
    · have h' : 1 < l.length := by simp at h; omega
      obtain ⟨x, hx⟩ : ∃ x, l[1]? = some x := ⟨_, List.getElem?_eq_getElem (by omega)⟩
      simp [hx, shortR_spec]
      refine Out_cond _ _ _ _ _ _ _ rfl (fun hq => ?_) (fun hq => ?_)
      · simp [h', hq]
      · simp [hq]
    · simp at h
      simp
      omega
  rintro e env1 s1 ⟨rfl, ⟨rfl, h1, h2, h3, h4⟩ | ⟨rfl, g0, hno⟩⟩
  · simp only [h3, h4, escR, h1, h2, and_self, if_true]
    simp [h3, h4]
  · generalize hU : unitR l = U at *
    simp [g0, hu]
    by_cases c1 : U < 0
    · have c1' : ¬ 0 ≤ U := by omega
      simp [c1, c1']
      refine Out_cond _ _ _ _ _ _ _ rfl (fun _ => ?_) (fun h => by cases h)
      simp [escR, hno, hU, c1]
    have c1' : 0 ≤ U := by omega
    by_cases c2 : 56320 ≤ U
    · by_cases c3 : U ≤ 57343
      · simp [c1, c1', c2, c3]
        refine Out_cond _ _ _ _ _ _ _ rfl (fun _ => ?_) (fun h => by cases h)
        simp [escR, hno, hU, c2, c3]
      · have c4 : ¬ U < 55296 := by omega
        have c4' : 55296 ≤ U := by omega
        have c5 : 57343 < U := by omega
        simp [c1, c1', c2, c3, c5]
        refine Out_cond _ _ _ _ _ _ _ rfl (fun h => by cases h) (fun _ => ?_)
        simp [c4, c4', c5]
        refine Out_cond _ _ _ _ _ _ _ rfl (fun _ => ?_) (fun h => by cases h)
        simp [escR, hno, hU, c1, c3, c5]
    · have c2' : U < 56320 := by omega
      simp [c1, c1', c2, c2']
      refine Out_cond _ _ _ _ _ _ _ rfl (fun h => by cases h) (fun _ => ?_)
      by_cases c4 : U < 55296
      · have c4' : ¬ 55296 ≤ U := by omega
        simp [c4, c4']
        refine Out_cond _ _ _ _ _ _ _ rfl (fun _ => ?_) (fun h => by cases h)
        simp [escR, hno, hU, c1, c2, c4]
      · have c4' : 55296 ≤ U := by omega
        have c5 : ¬ 57343 < U := by omega
        have c5' : U ≤ 57343 := by omega
        simp [c4, c4', c5, c5']
        refine Out_cond _ _ _ _ _ _ _ rfl (fun h => by cases h) (fun _ => ?_)
        simp [g0, hs6 (u6 (by omega)), hd]
        generalize hW : unitR (l.drop 6) = W at *
        by_cases d1 : W < 56320
        · have d1' : ¬ 56320 ≤ W := by omega
          simp [d1, d1']
          refine Out_cond _ _ _ _ _ _ _ rfl (fun _ => ?_) (fun h => by cases h)
          simp [escR, hno, hU, c1, c2, c4, c5, hW, d1]
        · have d1' : 56320 ≤ W := by omega
          by_cases d2 : 57343 < W
          · have d2' : ¬ W ≤ 57343 := by omega
            simp [d1, d1', d2, d2']
            refine Out_cond _ _ _ _ _ _ _ rfl (fun _ => ?_) (fun h => by cases h)
            simp [escR, hno, hU, c1, c2, c4, c5, hW, d2]
          · have d2' : W ≤ 57343 := by omega
            have m10 : min 10 IntKind.i32.bits = 10 := by decide
            have w1 : IntKind.i32.wrap (U - 55296) = U - 55296 := wrap32 (by omega) (by omega)
            have w2 : IntKind.i32.wrap ((U - 55296) * 1024) = (U - 55296) * 1024 := by rw [wrap32 (by omega) (by omega)]
            have w3 : IntKind.i32.wrap (65536 + (U - 55296) * 1024) = 65536 + (U - 55296) * 1024 := wrap32 (by omega) (by omega)
            have w4 : IntKind.i32.wrap (65536 + (U - 55296) * 1024 + W) = 65536 + (U - 55296) * 1024 + W := wrap32 (by omega) (by omega)
            have w5 : IntKind.i32.wrap (65536 + (U - 55296) * 1024 + W - 56320) = 65536 + (U - 55296) * 1024 + W - 56320 := wrap32 (by omega) (by omega)
            simp [d1, d1', d2, d2']
            refine Out_cond _ _ _ _ _ _ _ rfl (fun h => by cases h) (fun _ => ?_)
            simp [shBin, m10, w1, w2, w3, w4, w5, escR, hno, hU, c1, c1', c2, c2', c4, c4', c5, c5', hW, d1, d1', d2, d2']

/-- What is behind the sign is a rune. -/
theorem escR_ok (l : List UInt8) (h : (escR l).2 ≠ 0) : ∃ c : Nat, (escR l).1 = c ∧ runeOk c ∧ (escR l).2 ≤ l.length ∧ 2 ≤ (escR l).2 := by
  obtain ⟨u0, u1, u6⟩ := unitR_le l
  obtain ⟨v0, v1, v6⟩ := unitR_le (l.drop 6)
  unfold escR at h ⊢
  split
  · rename_i hc
    have : ∀ x : UInt8, (shortR x).2 = true → ∃ c : Nat, (shortR x).1 = c ∧ runeOk c := by
      intro x hx
      have := x.toNat_lt
      unfold shortR runeOk at *
      (repeat' split) <;> first | exact ⟨_, rfl, by omega, by omega⟩ | skip
      · exact ⟨8, rfl, by omega, by omega⟩
      · exact ⟨12, rfl, by omega, by omega⟩
      · exact ⟨10, rfl, by omega, by omega⟩
      · exact ⟨13, rfl, by omega, by omega⟩
      · exact ⟨9, rfl, by omega, by omega⟩
      · simp_all
    obtain ⟨c, h1, h2⟩ := this _ hc.2
    exact ⟨c, h1, h2, by omega, by omega⟩
  · rename_i hc
    rw [if_neg hc] at h
    split
    · rename_i hd; rw [if_pos hd] at h; exact absurd rfl h
    · rename_i hd
      rw [if_neg hd] at h
      split
      · exact ⟨(unitR l).toNat, by simp only; omega, ⟨by omega, by omega⟩, u6 (by omega), by simp⟩
      · rename_i he
        rw [if_neg he] at h
        split
        · rename_i hf; rw [if_pos hf] at h; exact absurd rfl h
        · have := v6 (by omega)
          simp only [List.length_drop] at this
          exact ⟨(65536 + (unitR l - 55296) * 1024 + unitR (l.drop 6) - 56320).toNat, by simp only; omega, ⟨by omega, by omega⟩, by simp only; omega, by simp⟩

end Go.Proofs.YtboejpobmpfifaaGreatDoor.Eng

/-
  Quoted texts, read: the text that is built, and the whole. No condition.
-/
namespace Go.Proofs.YtboejpobmpfifaaGreatDoor.Eng
open Go
set_option linter.unusedSimpArgs false
set_option linter.unusedVariables false

attribute [local simp] evC_reg evC_regD evR_cons evR_nil runR_some regK_some evC_ret evC_skip evC_exit Out_seq Out_blk Out_some seqQ_norm seqQ_ret seqQ_exit blkQ_norm blkQ_ret blkQ_exit loopQ_norm loopQ_ret loopQ_exit
attribute [local simp] stepR evOp put upd_apply X.ev initEnv cells_agg cells_int cells_str cells_bool cells_sl cells_ptr cells_pnil cells_fn cells_map vc_length vc_take vc_plain vc_und toVs_plain toPs_plain toVs_und toPs_und takeN evBin isSh intBin strBin callK resOf packR fin V.plain plainL V.und undL scK kill dstsO dstsL dstsR ite_some ite_pair ite_vbool evUn evLoad evLen V.real finLoop_false quietK_false kill_none

theorem app80n_spec (obs : List AObj) (bufs : List (Nat × Nat × TypeId)) (c : Nat) (h0 : 128 ≤ c) (h1 : c ≤ 1114111) (h2 : c < 55296 ∨ 57344 ≤ c) :
    call G 339 [.sl .nil [], .int .i32 c] ⟨obs, bufs⟩ =
      some (.sl (.buf bufs.length) (asBytes (encV c)), ⟨obs, bufs ++ [((encV c).length, 1, 5)]⟩) := by
  have hroom : room = 140737488355328 := by decide
  have w32 : IntKind.u32.wrap (c : Int) = c := wrapU32 (by omega) (by omega)
  have s6 : (c : Int).fdiv 64 = (c : Int) / 64 := Int.fdiv_eq_ediv_of_nonneg _ (by omega)
  have s12 : (c : Int).fdiv 4096 = (c : Int) / 4096 := Int.fdiv_eq_ediv_of_nonneg _ (by omega)
  have s18 : (c : Int).fdiv 262144 = (c : Int) / 262144 := Int.fdiv_eq_ediv_of_nonneg _ (by omega)
  have m6 : min 6 IntKind.i32.bits = 6 := by decide
  have m12 : min 12 IntKind.i32.bits = 12 := by decide
  have m18 : min 18 IntKind.i32.bits = 18 := by decide
  have lw0 : IntKind.u8.wrap (c : Int) = (c : Int) % 256 := wrapU8 (by omega)
  have lw6 : IntKind.u8.wrap ((c : Int) / 64) = (c : Int) / 64 % 256 := wrapU8 (by omega)
  have lw12 : IntKind.u8.wrap ((c : Int) / 4096) = (c : Int) / 4096 % 256 := wrapU8 (by omega)
  have lw18 : IntKind.u8.wrap ((c : Int) / 262144) = (c : Int) / 262144 % 256 := wrapU8 (by omega)
  have t0 : orB 128 (andB ((c : Int) % 256) 63) = 128 + (c : Int) % 64 := by rw [and63 (by omega) (by omega), or128 (by omega) (by omega)]; omega
  have t6 : orB 128 (andB ((c : Int) / 64 % 256) 63) = 128 + (c : Int) / 64 % 64 := by rw [and63 (by omega) (by omega), or128 (by omega) (by omega)]; omega
  have t12 : orB 128 (andB ((c : Int) / 4096 % 256) 63) = 128 + (c : Int) / 4096 % 64 := by rw [and63 (by omega) (by omega), or128 (by omega) (by omega)]; omega
  have hr : 4 ≤ 140737488355328 := by decide
  refine call_out (F := af339) rfl rfl ?_
  simp [-intBin, iB_leq, af339, af339b, w32]
  refine Out_cond _ _ _ _ _ _ _ rfl (fun h => ?_) (fun h => ?_)
  · have hc : c ≤ 2047 := by simp at h; omega
    have o1 : orB 192 ((c : Int) / 64 % 256) = 192 + (c : Int) / 64 := by rw [or192 (by omega) (by omega)]; omega
    have ev : encV c = [UInt8.ofNat (192 + c / 64), UInt8.ofNat (128 + c % 64)] := by simp [encV, show ¬ c < 128 by omega, show c < 2048 by omega]
    have v1 := ofNat_val (n := 192 + c / 64) (by omega)
    have v2 := ofNat_val (n := 128 + c % 64) (by omega)
    have eb : asBytes (encV c) = [.int .u8 (192 + (c : Int) / 64), .int .u8 (128 + (c : Int) % 64)] := by
      rw [ev]
      simp only [asBytes, List.map_cons, List.map_nil, v1, v2]
      simp
    have hr' : 2 ≤ 140737488355328 := by omega
    rw [eb, ev]
    simp [-intBin, iB_or, iB_and, shBin, m6, s6, lw0, lw6, o1, t0, fillS, V.one, evApp, appSrc, asBytes_length, fits_bytes, fits_int, fits_nil, hroom, hr']
  · have hc : ¬ c ≤ 2047 := by simp at h; omega
    simp [-intBin, iB_lss]
    refine Out_cond _ _ _ _ _ _ _ rfl (fun h3 => ?_) (fun h3 => ?_)
    · have hc3 : c < 55296 := by simp at h3; omega
      simp
      refine Out_cond _ _ _ _ _ _ _ rfl (fun _ => ?_) (fun h4 => by simp at h4; omega)
      have o1 : orB 224 ((c : Int) / 4096 % 256) = 224 + (c : Int) / 4096 := by rw [or224 (by omega) (by omega)]; omega
      have ev : encV c = [UInt8.ofNat (224 + c / 4096), UInt8.ofNat (128 + c / 64 % 64), UInt8.ofNat (128 + c % 64)] := by
        simp [encV, show ¬ c < 128 by omega, show ¬ c < 2048 by omega, show c < 65536 by omega]
      have v1 := ofNat_val (n := 224 + c / 4096) (by omega)
      have v2 := ofNat_val (n := 128 + c / 64 % 64) (by omega)
      have v3 := ofNat_val (n := 128 + c % 64) (by omega)
      have eb : asBytes (encV c) = [.int .u8 (224 + (c : Int) / 4096), .int .u8 (128 + (c : Int) / 64 % 64), .int .u8 (128 + (c : Int) % 64)] := by
        rw [ev]
        simp only [asBytes, List.map_cons, List.map_nil, v1, v2, v3]
        simp
      have hr' : 3 ≤ 140737488355328 := by omega
      rw [eb, ev]
      simp [-intBin, iB_or, iB_and, shBin, m6, m12, s6, s12, lw0, lw6, lw12, o1, t0, t6, fillS, V.one, evApp, appSrc, asBytes_length, fits_bytes, fits_int, fits_nil, hroom, hr']
    · have hc3 : ¬ c < 55296 := by simp at h3; omega
      simp [-intBin, iB_lss, iB_leq]
      refine Out_cond _ _ _ _ _ _ _ rfl (fun h4 => ?_) (fun h4 => ?_)
      · have hc4 : c ≤ 65535 := by simp at h4; omega
        have o1 : orB 224 ((c : Int) / 4096 % 256) = 224 + (c : Int) / 4096 := by rw [or224 (by omega) (by omega)]; omega
        have ev : encV c = [UInt8.ofNat (224 + c / 4096), UInt8.ofNat (128 + c / 64 % 64), UInt8.ofNat (128 + c % 64)] := by
          simp [encV, show ¬ c < 128 by omega, show ¬ c < 2048 by omega, show c < 65536 by omega]
        have v1 := ofNat_val (n := 224 + c / 4096) (by omega)
        have v2 := ofNat_val (n := 128 + c / 64 % 64) (by omega)
        have v3 := ofNat_val (n := 128 + c % 64) (by omega)
        have eb : asBytes (encV c) = [.int .u8 (224 + (c : Int) / 4096), .int .u8 (128 + (c : Int) / 64 % 64), .int .u8 (128 + (c : Int) % 64)] := by
          rw [ev]
          simp only [asBytes, List.map_cons, List.map_nil, v1, v2, v3]
          simp
        have hr' : 3 ≤ 140737488355328 := by omega
        rw [eb, ev]
        simp [-intBin, iB_or, iB_and, shBin, m6, m12, s6, s12, lw0, lw6, lw12, o1, t0, t6, fillS, V.one, evApp, appSrc, asBytes_length, fits_bytes, fits_int, fits_nil, hroom, hr']
      · have hc4 : ¬ c ≤ 65535 := by simp at h4; omega
        simp [-intBin, iB_leq, iB_gtr]
        refine Out_cond _ _ _ _ _ _ _ rfl (fun _ => ?_) (fun h5 => by simp at h5; omega)
        have o1 : orB 240 ((c : Int) / 262144 % 256) = 240 + (c : Int) / 262144 := by rw [or240 (by omega) (by omega)]; omega
        have ev : encV c = [UInt8.ofNat (240 + c / 262144), UInt8.ofNat (128 + c / 4096 % 64), UInt8.ofNat (128 + c / 64 % 64), UInt8.ofNat (128 + c % 64)] := by
          simp [encV, show ¬ c < 128 by omega, show ¬ c < 2048 by omega, show ¬ c < 65536 by omega]
        have v1 := ofNat_val (n := 240 + c / 262144) (by omega)
        have v2 := ofNat_val (n := 128 + c / 4096 % 64) (by omega)
        have v3 := ofNat_val (n := 128 + c / 64 % 64) (by omega)
        have v4 := ofNat_val (n := 128 + c % 64) (by omega)
        have eb : asBytes (encV c) = [.int .u8 (240 + (c : Int) / 262144), .int .u8 (128 + (c : Int) / 4096 % 64), .int .u8 (128 + (c : Int) / 64 % 64), .int .u8 (128 + (c : Int) % 64)] := by
          rw [ev]
          simp only [asBytes, List.map_cons, List.map_nil, v1, v2, v3, v4]
          simp
        rw [eb, ev]
        simp [-intBin, iB_or, iB_and, shBin, m6, m12, m18, s6, s12, s18, lw0, lw6, lw12, lw18, o1, t0, t6, t12, fillS, V.one, evApp, appSrc, asBytes_length, fits_bytes, fits_int, fits_nil, hroom, hr]

theorem app65n_spec (obs : List AObj) (bufs : List (Nat × Nat × TypeId)) (c : Nat) (hc : runeOk c) :
    call G 313 [.sl .nil [], .int .i32 c] ⟨obs, bufs⟩ =
      some (.sl (.buf bufs.length) (asBytes (encV c)), ⟨obs, bufs ++ [((encV c).length, 1, 5)]⟩) := by
  obtain ⟨h1, h2⟩ := hc
  have w32 : IntKind.u32.wrap (c : Int) = c := wrapU32 (by omega) (by omega)
  have hr : 4 ≤ 140737488355328 := by decide
  refine call_out (F := af313) rfl rfl ?_
  simp [-intBin, iB_leq, af313, af313b, w32]
  refine Out_cond _ _ _ _ _ _ _ rfl (fun h => ?_) (fun h => ?_)
  · have hc : c < 128 := by simp at h; omega
    have lw0 : IntKind.u8.wrap (c : Int) = c := by rw [wrapU8 (by omega)]; omega
    have v1 := ofNat_val (n := c) (by omega)
    have ev : encV c = [UInt8.ofNat c] := by simp [encV, hc]
    have eb : asBytes (encV c) = [.int .u8 c] := by
      rw [ev]
      simp only [asBytes, List.map_cons, List.map_nil, v1]
    rw [eb, ev]
    have hroom : room = 140737488355328 := by decide
    have hr1 : 1 ≤ 140737488355328 := by omega
    simp [lw0, fillS, V.one, evApp, appSrc, asBytes_length, fits_bytes, fits_int, fits_nil, hroom, hr1]
  · have hc : 128 ≤ c := by simp at h; omega
    simp [app80n_spec obs bufs c hc h1 h2]


theorem rune_bst0 (obs tl : List AObj) (bufs : List (Nat × Nat × TypeId)) (c : Nat) (hc : runeOk c) :
    call G 279 [.ptr obs.length 0, .int .i32 c] (bst0 obs tl bufs) = some (.tup [.int .i64 (encV c).length, .nilI], bst obs tl bufs (encV c)) := by
  have hl := encV_len c
  have hw : IntKind.i64.wrap (((encV c).length : Int) - 0) = (encV c).length := by rw [wrap_in (by omega) (by omega)]; omega
  have h65 := fun o => app65n_spec o bufs c hc
  refine call_out (F := af279) rfl rfl ?_
  simp [af279, af279b, copy_bst0]
  simp [bst, bst1, bObj, asBytes_length]
  simp at h65 hw
  simp [h65, evStore, V.one, putL, asBytes_length, hw]

/-- A builder that holds a text. -/
def ust (o : List AObj) (bufs : List (Nat × Nat × TypeId)) (acc : List UInt8) : St := if acc = [] then bst0 o [] bufs else bst o [] bufs acc

theorem rune_ust (o : List AObj) (bufs : List (Nat × Nat × TypeId)) (acc : List UInt8) (c : Nat) (hc : runeOk c) (hr : acc.length ≤ 4000000000) :
    ∃ v, call G 279 [.ptr o.length 0, .int .i32 c] (ust o bufs acc) = some (v, ust o bufs (acc ++ encV c)) := by
  have hl := encV_len c
  have hne : acc ++ encV c ≠ [] := fun q => by
    have := congrArg List.length q
    simp at this
    rw [this.2] at hl
    simp at hl
  unfold ust
  rw [if_neg hne]
  by_cases h : acc = []
  · subst h
    exact ⟨_, by simpa using rune_bst0 o [] bufs c hc⟩
  · rw [if_neg h]
    exact ⟨_, rune_bst o [] bufs acc c hc (by omega)⟩

theorem string_ust (o : List AObj) (bufs : List (Nat × Nat × TypeId)) (acc : List UInt8) (hr : acc.length ≤ 4000000000) : call G 75 [.ptr o.length 0] (ust o bufs acc) = some (.str acc, ust o bufs acc) := by
  unfold ust
  by_cases h : acc = []
  · subst h
    simp only [if_true]
    refine call_out (F := af75) rfl rfl ?_
    simp [-fin, af75, af75b, bst0]
    exact fin_same _ _ rfl
  · rw [if_neg h]
    exact string_bst o [] bufs acc h (by omega)

theorem fin_ust (o : List AObj) (bufs : List (Nat × Nat × TypeId)) (acc : List UInt8) (r : V) (h : r.plain.und o.length 0 = true) : fin false ⟨o, bufs⟩ (ust o bufs acc) r = (r.plain, ⟨o, bufs⟩) := by
  unfold ust
  split
  · unfold fin
    rw [if_neg (by simp), if_pos]
    · simp [bst0]
    · exact ⟨by simp [bst0], h⟩
  · exact fin_bst o [] bufs acc r h

end Go.Proofs.YtboejpobmpfifaaGreatDoor.Eng

/-
  Quoted texts, read. No condition.
-/
namespace Go.Proofs.YtboejpobmpfifaaGreatDoor.Eng
open Go
set_option linter.unusedSimpArgs false
set_option linter.unusedVariables false

attribute [local simp] evC_reg evC_regD evR_cons evR_nil runR_some regK_some evC_ret evC_skip evC_exit Out_seq Out_blk Out_some seqQ_norm seqQ_ret seqQ_exit blkQ_norm blkQ_ret blkQ_exit loopQ_norm loopQ_ret loopQ_exit
attribute [local simp] stepR evOp put upd_apply X.ev initEnv cells_agg cells_int cells_str cells_bool cells_sl cells_ptr cells_pnil cells_fn cells_map vc_length vc_take vc_plain vc_und toVs_plain toPs_plain toVs_und toPs_und takeN evBin isSh intBin strBin callK resOf packR V.plain plainL V.und undL scK kill dstsO dstsL dstsR ite_some ite_pair ite_vbool evUn evLoad evLen V.real finLoop_false quietK_false kill_none

def ubody : Nat → List UInt8 → List UInt8 → PR (List UInt8)
  | 0, l, _ => .err l 4
  | f + 1, l, acc =>
    if l = [] then .err [] 4
    else if (decV l 0).1 = 34 then .ok acc (l.drop 1)
    else if (decV l 0).1 < 32 then .err l 4
    else if (decV l 0).1 = 65533 ∧ (decV l 0).2 = 1 then .err l 2
    else if (decV l 0).1 = 92 then
      if (escR l).2 = 0 then .err l 4 else ubody f (l.drop (escR l).2) (acc ++ encV (escR l).1.toNat)
    else ubody f (l.drop (decV l 0).2) (acc ++ encV (decV l 0).1)

def punq (l : List UInt8) : PR (List UInt8) := if begs l [34] = true then ubody l.length (l.drop 1) [] else .err l 4

def prT : PR (List UInt8) → List UInt8
  | .ok t _ => t
  | .err _ _ => []
def PR.rest {α : Type} : PR α → List UInt8
  | .ok _ l => l
  | .err l _ => l
def PR.e {α : Type} : PR α → Int
  | .ok _ _ => 0
  | .err _ e => e

theorem ubody_suf : ∀ (f : Nat) (l acc : List UInt8), (ubody f l acc).rest <:+ l
  | 0, l, acc => List.suffix_refl _
  | f + 1, l, acc => by
    unfold ubody
    split
    · rename_i h; subst h; exact List.suffix_refl _
    · split
      · exact List.drop_suffix _ _
      · split
        · exact List.suffix_refl _
        · split
          · exact List.suffix_refl _
          · split
            · split
              · exact List.suffix_refl _
              · exact (ubody_suf f _ _).trans (List.drop_suffix _ _)
            · exact (ubody_suf f _ _).trans (List.drop_suffix _ _)
theorem punq_suf (l : List UInt8) : (punq l).rest <:+ l := by
  unfold punq
  split
  · exact (ubody_suf _ _ _).trans (List.drop_suffix _ _)
  · exact List.suffix_refl _

theorem unqLoop {q : List UInt8} (hq : q.length ≤ 1000000000) (o : List AObj) (bufs : List (Nat × Nat × TypeId)) : ∀ (f : Nat) (l acc : List UInt8) (env : Env), l <:+ q → l.length < f → acc.length + 4 * l.length ≤ 4000000000 → env 0 = .str q → env 5 = .ptr o.length 0 →
    env 6 = .int .i64 ((q.length - l.length : Nat) : Int) →
    Out (evC G (.loop false af305l0) env (ust o bufs acc)) (fun e env' s' => (∃ acc', s' = ust o bufs acc') ∧
      ((e = .exit 0 ∧ env' 0 = .str q ∧ ubody f l acc = .err [] 4) ∨
       (e = .ret ∧ env' 2 = .str (prT (ubody f l acc)) ∧ env' 3 = .int .i64 ((q.length - (ubody f l acc).rest.length : Nat) : Int) ∧ env' 4 = .int .i64 (ubody f l acc).e))) := by
  intro f
  induction f with
  | zero => intro l acc env hl hf; omega
  | succ f ih =>
    intro l acc env hl hf hacc h0 h5 h6
    have hlen := suf_len hl
    refine Out_loop G false _ _ af305l0.eq_1 _ _ _ ?_
    by_cases hn : l = []
    · subst hn
      simp [h0, h6]
      refine Out_cond _ _ _ _ _ _ _ rfl (fun h => by cases h) (fun _ => ?_)
      simp [h0, ubody]
      exact ⟨acc, rfl⟩
    have hpos : 0 < l.length := by
      rcases Nat.eq_zero_or_pos l.length with h | h
      · exact absurd (List.length_eq_zero_iff.1 h) hn
      · exact h
    have hlt : ((q.length - l.length : Nat) : Int) < (q.length : Int) := by omega
    have hlt' : q.length - l.length < q.length := by omega
    have hsl : evSlcS (.str q) (some (.int .i64 ((q.length - l.length : Nat) : Int))) none = some (.str l) := by
      simp [evSlcS, bnd, suf_drop hl]
    have hdec : ∀ s, call G 240 [.str l] s = some (.tup [.int .i32 ((decV l 0).1 : Nat), .int .i64 ((decV l 0).2 : Nat)], s) := fun s => by
      have h1 := dec_spec l s
      have h2 := decGo_drop l 0 hpos
      rw [List.drop_zero] at h2
      rw [h2] at h1
      exact h1
    obtain ⟨d1, d2, d3⟩ := decV_le l 0 hpos
    have hrok := decV_ok l 0 hpos
    simp only [Nat.zero_add] at d2
    unfold ubody
    rw [if_neg hn]
    generalize hC : (decV l 0).1 = c at *
    generalize hN : (decV l 0).2 = n at *
    simp [h0, h6, hlt']
    refine Out_cond _ _ _ _ _ _ _ rfl (fun _ => ?_) (fun h => by cases h)
    simp [h0, h6, hsl, hdec]
    by_cases c1 : c = 34
    · have i1 : (c : Int) = 34 := by omega
      have hw : IntKind.i64.wrap (((q.length - l.length : Nat) : Int) + 1) = ((q.length - (l.drop 1).length : Nat) : Int) := by rw [pos_drop hl hpos, wrap_in (by omega) (by omega)]; omega
      simp [i1, c1]
      refine Out_cond _ _ _ _ _ _ _ rfl (fun _ => ?_) (fun h => by cases h)
      simp at hw
      simp [h5, h6, string_ust o bufs acc (by omega), hw, prT, PR.rest, PR.e]
      exact ⟨acc, rfl⟩
    have i1 : ¬ (c : Int) = 34 := by omega
    rw [if_neg c1]
    simp [i1, c1]
    refine Out_cond _ _ _ _ _ _ _ rfl (fun h => by cases h) (fun _ => ?_)
    by_cases c2 : c < 32
    · have i2 : (c : Int) < 32 := by omega
      simp [i2, c2]
      refine Out_cond _ _ _ _ _ _ _ rfl (fun _ => ?_) (fun h => by cases h)
      simp [h6, prT, PR.rest, PR.e]
      exact ⟨acc, rfl⟩
    have i2 : ¬ (c : Int) < 32 := by omega
    rw [if_neg c2]
    simp [i2]
    refine Out_cond _ _ _ _ _ _ _ rfl (fun h => by first | cases h | (simp at h; omega)) (fun _ => ?_)
    have hn4 : ∀ c', (encV c').length ≤ 4 := fun c' => (encV_len c').2
    have hadd : ∀ m : Nat, 1 ≤ m → m ≤ l.length → IntKind.i64.wrap (((q.length - l.length : Nat) : Int) + (m : Int)) = ((q.length - (l.drop m).length : Nat) : Int) := fun m h1 h2 => by
      rw [pos_drop hl h2, wrap_in (by omega) (by omega)]; omega
    have next : ∀ (c' m : Nat) (env : Env), runeOk c' → 1 ≤ m → m ≤ l.length → env 0 = .str q → env 5 = .ptr o.length 0 → env 6 = .int .i64 ((q.length - (l.drop m).length : Nat) : Int) →
        Out (evC G (.loop false af305l0) env (ust o bufs (acc ++ encV c'))) (fun e env' s' => (∃ acc', s' = ust o bufs acc') ∧
          ((e = .exit 0 ∧ env' 0 = .str q ∧ ubody f (l.drop m) (acc ++ encV c') = .err [] 4) ∨
           (e = .ret ∧ env' 2 = .str (prT (ubody f (l.drop m) (acc ++ encV c'))) ∧ env' 3 = .int .i64 ((q.length - (ubody f (l.drop m) (acc ++ encV c')).rest.length : Nat) : Int) ∧ env' 4 = .int .i64 (ubody f (l.drop m) (acc ++ encV c')).e))) := by
      intro c' m env hr hm1 hm2 g0 g5 g6
      refine ih (l.drop m) (acc ++ encV c') env ((List.drop_suffix _ _).trans hl) ?_ ?_ g0 g5 g6
      · simp only [List.length_drop]; omega
      · have := hn4 c'
        simp only [List.length_drop, List.length_append]; omega
    by_cases c3 : c = 65533 ∧ n = 1
    · have i3 : (c : Int) = 65533 := by omega
      have i4 : (n : Int) = 1 := by omega
      simp [i3, i4, c3]
      refine Out_cond _ _ _ _ _ _ _ rfl (fun _ => ?_) (fun h => by cases h)
      simp [h6, prT, PR.rest, PR.e]
      exact ⟨acc, rfl⟩
    rw [if_neg c3]
    rw [Out_seq]
    refine Out.mono (Q := fun e env' s' => e = .norm ∧ s' = ust o bufs acc ∧ env' 33 = .bool false ∧ env' 0 = .str q ∧ env' 5 = .ptr o.length 0 ∧ env' 6 = .int .i64 ((q.length - l.length : Nat) : Int) ∧ env' 7 = .int .i32 c ∧ env' 8 = .int .i64 n) ?_ ?_
    · by_cases e3 : c = 65533
      · have i3 : (c : Int) = 65533 := by omega
        have i4 : ¬ (n : Int) = 1 := fun h => c3 ⟨e3, by omega⟩
        simp [h0, h5, h6, i3, i4]
      · have i3 : ¬ (c : Int) = 65533 := by omega
        simp [h0, h5, h6, i3]
    rintro e env1 s1 ⟨rfl, rfl, g33, g0, g5, g6, g7, g8⟩
    simp
    refine Out_cond _ _ _ _ _ _ _ g33 (fun h => by cases h) (fun _ => ?_)
    by_cases c4 : c = 92
    · have i4 : (c : Int) = 92 := by omega
      have he := escR_spec l (by omega)
      simp [g7, i4, c4]
      refine Out_cond _ _ _ _ _ _ _ rfl (fun _ => ?_) (fun h => by cases h)
      by_cases hz : (escR l).2 = 0
      · simp [g0, g6, hsl, he, hz]
        refine Out_cond _ _ _ _ _ _ _ rfl (fun _ => ?_) (fun h => by cases h)
        simp [g6, prT, PR.rest, PR.e]
        exact ⟨acc, rfl⟩
      · obtain ⟨c', k1, k2, k3, k4⟩ := escR_ok l hz
        have hz' : ¬ (((escR l).2 : Nat) : Int) = 0 := by omega
        obtain ⟨v, hv⟩ := rune_ust o bufs acc c' k2 (by omega)
        have hto : (escR l).1.toNat = c' := by rw [k1]; rfl
        have ha := hadd (escR l).2 (by omega) k3
        simp [g0, g6, hsl, he, hz, hz', k1]
        refine Out_cond _ _ _ _ _ _ _ rfl (fun h => by cases h) (fun _ => ?_)
        simp at ha
        simp [g0, g5, g6, hv, ha]
        refine Out.mono (next c' (escR l).2 _ k2 (by omega) k3 ?_ ?_ ?_) (fun e env' s' h => h)
        · simp [g0]
        · simp [g5]
        · simp
    · have i4 : ¬ (c : Int) = 92 := by omega
      obtain ⟨v, hv⟩ := rune_ust o bufs acc c hrok (by omega)
      have ha := hadd n d1 d2
      simp [g7, i4, c4]
      refine Out_cond _ _ _ _ _ _ _ rfl (fun h => by cases h) (fun _ => ?_)
      simp at ha
      simp [g0, g5, g6, g7, g8, hv, ha]
      refine Out.mono (next c n _ hrok d1 d2 ?_ ?_ ?_) (fun e env' s' h => h)
      · simp [g0]
      · simp [g5]
      · simp

theorem unq_spec {q : List UInt8} (hq : q.length ≤ 1000000000) (s : St) :
    call G 305 [.str q] s = some (.tup [.str (prT (punq q)), .int .i64 ((q.length - (punq q).rest.length : Nat) : Int), .int .i64 (punq q).e], s) := by
  have hh := hp_spec q [34] (by omega) s
  refine call_out (F := af305) rfl rfl ?_
  unfold punq
  by_cases hb : begs q [34] = true
  · have hq1 : 1 ≤ q.length := begs_len hb
    rw [if_pos hb]
    simp [af305, af305b, hh, hb]
    refine Out_cond _ _ _ _ _ _ _ rfl (fun h => by cases h) (fun _ => ?_)
    simp
    have e0 : (⟨s.obs ++ [.cells 128 [.pnil, .sl .nil []]], s.bufs⟩ : St) = ust s.obs s.bufs [] := by simp [ust, bst0]
    rw [e0]
    refine Out.mono (unqLoop hq s.obs s.bufs q.length (q.drop 1) [] _ (List.drop_suffix _ _) ?_ ?_ ?_ ?_ ?_) ?_
    · simp only [List.length_drop]; omega
    · simp only [List.length_drop, List.length_nil]; omega
    · simp
    · simp
    · simp only [List.length_drop]
      simp
      omega
    rintro e env' s' ⟨⟨acc', rfl⟩, ⟨rfl, h0, hU⟩ | ⟨rfl, h2, h3, h4⟩⟩
    · rw [List.drop_one] at hU
      simp only [hU]
      simp [h0, prT, PR.rest, PR.e]
      exact fin_ust s.obs s.bufs acc' (.tup [.str _, .int _ _, .int _ _]) rfl
    · rw [List.drop_one] at h2 h3 h4
      generalize ubody q.length q.tail [] = R at *
      simp [h2, h3, h4]
      exact fin_ust s.obs s.bufs acc' (.tup [.str _, .int _ _, .int _ _]) rfl
  · rw [if_neg hb]
    simp [af305, af305b, hh, hb]
    refine Out_cond _ _ _ _ _ _ _ rfl (fun _ => ?_) (fun h => by cases h)
    simp [prT, PR.rest, PR.e]
    exact fin_id s (v := .tup _) rfl

end Go.Proofs.YtboejpobmpfifaaGreatDoor.Eng

/-
  A text comes again from its quoting. No condition.
-/
namespace Go.Proofs.YtboejpobmpfifaaGreatDoor.Eng
open Go
set_option linter.unusedSimpArgs false
set_option linter.unusedVariables false

theorem ofN {n : Nat} (h : n < 256) : (UInt8.ofNat n).toNat = n := by rw [UInt8.toNat_ofNat']; omega

theorem sizeV_enc (c : Nat) (y : List UInt8) (hc : runeOk c) : sizeV (encV c ++ y) 0 = ((encV c).length, c) := by
  unfold runeOk at hc
  unfold encV
  split
  · rename_i h
    simp [sizeV, ofN (show c < 256 by omega), h]
  · split
    · rename_i h1 h2
      have e0 : (UInt8.ofNat (192 + c / 64)).toNat = 192 + c / 64 := ofN (by omega)
      have e1 : (UInt8.ofNat (128 + c % 64)).toNat = 128 + c % 64 := ofN (by omega)
      generalize UInt8.ofNat (192 + c / 64) = x0 at *
      generalize UInt8.ofNat (128 + c % 64) = x1 at *
      have g0 : ([x0, x1] ++ y).getD 0 0 = x0 := rfl
      have g1 : ([x0, x1] ++ y).getD (0 + 1) 0 = x1 := rfl
      have hl : ([x0, x1] ++ y).length = y.length + 2 := by simp
      simp only [sizeV, g0]
      rw [if_neg (by omega), if_pos (by omega), if_neg (by omega)]
      simp only [contV, g1, Nat.reduceSub]
      rw [if_neg (by omega)]
      simp only
      rw [if_neg (by omega)]
      simp
      omega
    · split
      · rename_i h1 h2 h3
        have e0 : (UInt8.ofNat (224 + c / 4096)).toNat = 224 + c / 4096 := ofN (by omega)
        have e1 : (UInt8.ofNat (128 + c / 64 % 64)).toNat = 128 + c / 64 % 64 := ofN (by omega)
        have e2 : (UInt8.ofNat (128 + c % 64)).toNat = 128 + c % 64 := ofN (by omega)
        generalize UInt8.ofNat (224 + c / 4096) = x0 at *
        generalize UInt8.ofNat (128 + c / 64 % 64) = x1 at *
        generalize UInt8.ofNat (128 + c % 64) = x2 at *
        have g0 : ([x0, x1, x2] ++ y).getD 0 0 = x0 := rfl
        have g1 : ([x0, x1, x2] ++ y).getD (0 + 1) 0 = x1 := rfl
        have g2 : ([x0, x1, x2] ++ y).getD (0 + (1 + 1)) 0 = x2 := rfl
        have hl : ([x0, x1, x2] ++ y).length = y.length + 3 := by simp
        simp only [sizeV, g0]
        rw [if_neg (by omega), if_neg (by omega), if_pos (by omega), if_neg (by omega)]
        simp only [contV, g1, g2, Nat.reduceSub]
        rw [if_neg (by omega), if_neg (by omega)]
        simp only
        rw [if_neg (by omega)]
        simp
        omega
      · rename_i h1 h2 h3
        have e0 : (UInt8.ofNat (240 + c / 262144)).toNat = 240 + c / 262144 := ofN (by omega)
        have e1 : (UInt8.ofNat (128 + c / 4096 % 64)).toNat = 128 + c / 4096 % 64 := ofN (by omega)
        have e2 : (UInt8.ofNat (128 + c / 64 % 64)).toNat = 128 + c / 64 % 64 := ofN (by omega)
        have e3 : (UInt8.ofNat (128 + c % 64)).toNat = 128 + c % 64 := ofN (by omega)
        generalize UInt8.ofNat (240 + c / 262144) = x0 at *
        generalize UInt8.ofNat (128 + c / 4096 % 64) = x1 at *
        generalize UInt8.ofNat (128 + c / 64 % 64) = x2 at *
        generalize UInt8.ofNat (128 + c % 64) = x3 at *
        have g0 : ([x0, x1, x2, x3] ++ y).getD 0 0 = x0 := rfl
        have g1 : ([x0, x1, x2, x3] ++ y).getD (0 + 1) 0 = x1 := rfl
        have g2 : ([x0, x1, x2, x3] ++ y).getD (0 + (1 + 1)) 0 = x2 := rfl
        have g3 : ([x0, x1, x2, x3] ++ y).getD (0 + (1 + 1 + 1)) 0 = x3 := rfl
        have hl : ([x0, x1, x2, x3] ++ y).length = y.length + 4 := by simp
        simp only [sizeV, g0]
        rw [if_neg (by omega), if_neg (by omega), if_neg (by omega), if_pos (by omega), if_neg (by omega)]
        simp only [contV, g1, g2, g3, Nat.reduceSub]
        rw [if_neg (by omega), if_neg (by omega), if_neg (by omega)]
        simp only
        rw [if_neg (by omega)]
        simp
        omega

theorem decV_enc (c : Nat) (y : List UInt8) (hc : runeOk c) : decV (encV c ++ y) 0 = (c, (encV c).length) := by
  have hpos : 0 < (encV c).length := by
    unfold encV
    (repeat' split) <;> simp
  have h := sizeV_dec (encV c ++ y) 0 (by simp; omega)
  rw [sizeV_enc c y hc] at h
  split at h
  · simp only [Prod.mk.injEq] at h; omega
  · simp only [Prod.mk.injEq] at h
    exact Prod.ext h.2.symm h.1.symm

end Go.Proofs.YtboejpobmpfifaaGreatDoor.Eng

/-
  The reference's reader: blanks, signs, digits. No condition.
-/
namespace Go.Proofs.YtboejpobmpfifaaGreatDoor.Eng
open Go
set_option linter.unusedSimpArgs false
set_option linter.unusedVariables false

attribute [local simp] evC_reg evC_regD evR_cons evR_nil runR_some regK_some evC_ret evC_skip evC_exit Out_seq Out_blk Out_some seqQ_norm seqQ_ret seqQ_exit blkQ_norm blkQ_ret blkQ_exit loopQ_norm loopQ_ret loopQ_exit
attribute [local simp] stepR evOp put upd_apply X.ev initEnv cells_agg cells_int cells_str cells_bool cells_sl cells_ptr cells_pnil cells_fn cells_map vc_length vc_take vc_plain vc_und toVs_plain toPs_plain toVs_und toPs_und takeN evBin isSh intBin strBin callK resOf packR V.plain plainL V.und undL scK kill dstsO dstsL dstsR ite_some ite_pair ite_vbool evUn evLoad evLen V.real finLoop_false quietK_false kill_none

theorem at_get {b l : List UInt8} {c : UInt8} (h : (c :: l) <:+ b) : b[((b.length - (l.length + 1) : Nat) : Int).toNat]? = some c := by
  rw [Int.toNat_natCast]
  have := suf_get h
  simpa using this

end Go.Proofs.YtboejpobmpfifaaGreatDoor.Eng

/-
  The reference's runes, told. No condition.
-/
namespace Go.Proofs.YtboejpobmpfifaaGreatDoor.Eng
open Go
set_option linter.unusedSimpArgs false
set_option linter.unusedVariables false

attribute [local simp] evC_reg evC_regD evR_cons evR_nil runR_some regK_some evC_ret evC_skip evC_exit Out_seq Out_blk Out_some seqQ_norm seqQ_ret seqQ_exit blkQ_norm blkQ_ret blkQ_exit loopQ_norm loopQ_ret loopQ_exit
attribute [local simp] stepR evOp put upd_apply X.ev initEnv cells_agg cells_int cells_str cells_bool cells_sl cells_ptr cells_pnil cells_fn cells_map vc_length vc_take vc_plain vc_und toVs_plain toPs_plain toVs_und toPs_und takeN evBin isSh intBin strBin callK resOf packR V.plain plainL V.und undL scK kill dstsO dstsL dstsR ite_some ite_pair ite_vbool evUn evLoad evLen V.real finLoop_false quietK_false kill_none

end Go.Proofs.YtboejpobmpfifaaGreatDoor.Eng

/-
  The reference's four digits. No condition.
-/
namespace Go.Proofs.YtboejpobmpfifaaGreatDoor.Eng
open Go
set_option linter.unusedSimpArgs false
set_option linter.unusedVariables false

attribute [local simp] evC_reg evC_regD evR_cons evR_nil runR_some regK_some evC_ret evC_skip evC_exit Out_seq Out_blk Out_some seqQ_norm seqQ_ret seqQ_exit blkQ_norm blkQ_ret blkQ_exit loopQ_norm loopQ_ret loopQ_exit
attribute [local simp] stepR evOp put upd_apply X.ev initEnv cells_agg cells_int cells_str cells_bool cells_sl cells_ptr cells_pnil cells_fn cells_map vc_length vc_take vc_plain vc_und toVs_plain toPs_plain toVs_und toPs_und takeN evBin isSh intBin strBin callK resOf packR V.plain plainL V.und undL scK kill dstsO dstsL dstsR ite_some ite_pair ite_vbool evUn evLoad evLen V.real finLoop_false quietK_false kill_none

end Go.Proofs.YtboejpobmpfifaaGreatDoor.Eng

/-
  The reference's escapes. No condition.
-/
namespace Go.Proofs.YtboejpobmpfifaaGreatDoor.Eng
open Go
set_option linter.unusedSimpArgs false
set_option linter.unusedVariables false

attribute [local simp] evC_reg evC_regD evR_cons evR_nil runR_some regK_some evC_ret evC_skip evC_exit Out_seq Out_blk Out_some seqQ_norm seqQ_ret seqQ_exit blkQ_norm blkQ_ret blkQ_exit loopQ_norm loopQ_ret loopQ_exit
attribute [local simp] stepR evOp put upd_apply X.ev initEnv cells_agg cells_int cells_str cells_bool cells_sl cells_ptr cells_pnil cells_fn cells_map vc_length vc_take vc_plain vc_und toVs_plain toPs_plain toVs_und toPs_und takeN evBin isSh intBin strBin callK resOf packR V.plain plainL V.und undL scK kill dstsO dstsL dstsR ite_some ite_pair ite_vbool evUn evLoad evLen V.real finLoop_false quietK_false kill_none

end Go.Proofs.YtboejpobmpfifaaGreatDoor.Eng

/-
  The reference's sign 5c: what it stands for. No condition.
-/
namespace Go.Proofs.YtboejpobmpfifaaGreatDoor.Eng
open Go
set_option linter.unusedSimpArgs false
set_option linter.unusedVariables false

attribute [local simp] evC_reg evC_regD evR_cons evR_nil runR_some regK_some evC_ret evC_skip evC_exit Out_seq Out_blk Out_some seqQ_norm seqQ_ret seqQ_exit blkQ_norm blkQ_ret blkQ_exit loopQ_norm loopQ_ret loopQ_exit
attribute [local simp] stepR evOp put upd_apply X.ev initEnv cells_agg cells_int cells_str cells_bool cells_sl cells_ptr cells_pnil cells_fn cells_map vc_length vc_take vc_plain vc_und toVs_plain toPs_plain toVs_und toPs_und takeN evBin isSh intBin strBin callK resOf packR V.plain plainL V.und undL scK kill dstsO dstsL dstsR ite_some ite_pair ite_vbool evUn evLoad evLen V.real finLoop_false quietK_false kill_none


end Go.Proofs.YtboejpobmpfifaaGreatDoor.Eng

/-
  The reference's quoted texts, read. No condition.
-/
namespace Go.Proofs.YtboejpobmpfifaaGreatDoor.Eng
open Go
set_option linter.unusedSimpArgs false
set_option linter.unusedVariables false

attribute [local simp] evC_reg evC_regD evR_cons evR_nil runR_some regK_some evC_ret evC_skip evC_exit Out_seq Out_blk Out_some seqQ_norm seqQ_ret seqQ_exit blkQ_norm blkQ_ret blkQ_exit loopQ_norm loopQ_ret loopQ_exit
attribute [local simp] stepR evOp put upd_apply X.ev initEnv cells_agg cells_int cells_str cells_bool cells_sl cells_ptr cells_pnil cells_fn cells_map vc_length vc_take vc_plain vc_und toVs_plain toPs_plain toVs_und toPs_und takeN evBin isSh intBin strBin callK resOf packR V.plain plainL V.und undL scK kill dstsO dstsL dstsR ite_some ite_pair ite_vbool evUn evLoad evLen V.real finLoop_false quietK_false kill_none


theorem decV_lo {c : UInt8} {t : List UInt8} (h : c.toNat < 128) : decV (c :: t) 0 = (c.toNat, 1) := by
  have he : encV c.toNat = [c] := by rw [encV, if_pos h]; exact congrArg (· :: []) (ofNat_eq rfl)
  have := decV_enc c.toNat t ⟨by omega, by omega⟩
  rw [he] at this
  exact this
theorem decV_hi {c : UInt8} {t : List UInt8} (h : 128 ≤ c.toNat) : 128 ≤ (decV (c :: t) 0).1 := by
  have h1 := sizeV_dec (c :: t) 0 (by simp)
  have h2 := decV_le (c :: t) 0 (by simp)
  by_cases hd : decV (c :: t) 0 = (65533, 1)
  · rw [hd]; decide
  · rw [if_neg hd] at h1
    have h3 := size_bytes (c :: t) 0 (by simp) (by rw [h1]; simp only; omega)
    rw [h1] at h3
    rcases h3.2 with ⟨_, _, h4⟩ | ⟨h4, _⟩
    · simp at h4; omega
    · exact h4
theorem decV_suf {b l : List UInt8} (hl : l <:+ b) (hne : l ≠ []) : decV b (b.length - l.length) = decV l 0 := by
  have hp := List.length_pos_iff.2 hne
  have hlen := suf_len hl
  have h1 := decGo_drop b (b.length - l.length) (by omega)
  have h2 := decGo_drop l 0 hp
  rw [suf_drop hl] at h1
  rw [List.drop_zero] at h2
  rw [← h1, h2]
end Go.Proofs.YtboejpobmpfifaaGreatDoor.Eng
