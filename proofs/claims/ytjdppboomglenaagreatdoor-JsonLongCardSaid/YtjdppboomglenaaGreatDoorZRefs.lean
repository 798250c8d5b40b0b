/-
  JSON: what the functions do, one behind the other. No condition.
-/
import Derived.Test.YtjdppboomglenaaGreatDoorJPars
/-
  The reference's reader: blanks, signs, digits. No condition.
-/
namespace Go.Proofs.YtjdppboomglenaaGreatDoor.Eng
open Go
set_option linter.unusedSimpArgs false
set_option linter.unusedVariables false

attribute [local simp] evC_reg evC_regD evR_cons evR_nil runR_some regK_some evC_ret evC_skip evC_exit Out_seq Out_blk Out_some seqQ_norm seqQ_ret seqQ_exit blkQ_norm blkQ_ret blkQ_exit loopQ_norm loopQ_ret loopQ_exit
attribute [local simp] stepR evOp put upd_apply X.ev initEnv cells_agg cells_int cells_str cells_bool cells_sl cells_ptr cells_pnil cells_fn cells_map vc_length vc_take vc_plain vc_und toVs_plain toPs_plain toVs_und toPs_und takeN evBin isSh intBin strBin callK resOf packR V.plain plainL V.und undL scK kill dstsO dstsL dstsR ite_some ite_pair ite_vbool evUn evLoad evLen V.real finLoop_false quietK_false kill_none

/-- Does a byte stand there? -/
def hasB (l : List UInt8) (c : UInt8) : Bool := decide (l[0]? = some c)
/-- A digit? -/
def digB (l : List UInt8) : Bool := match l with | x :: _ => isDig x | [] => false

theorem at_get {b l : List UInt8} {c : UInt8} (h : (c :: l) <:+ b) : b[((b.length - (l.length + 1) : Nat) : Int).toNat]? = some c := by
  rw [Int.toNat_natCast]
  have := suf_get h
  simpa using this

theorem refBlankLoop {b : List UInt8} (hb : b.length ≤ 1000000000) : ∀ (l : List UInt8) (env : Env) (s : St), l <:+ b → env 0 = .str b → env 1 = .int .i64 ((b.length - l.length : Nat) : Int) →
    Out (evC G (.loop false af13l0) env s) (fun ex env' s' => ex = .exit 0 ∧ s' = s ∧ env' 1 = .int .i64 ((b.length - (skp l).length : Nat) : Int)) := by
  intro l
  induction l with
  | nil =>
    intro env s hl h0 h1
    refine Out_loop G false _ _ af13l0.eq_1 _ _ _ ?_
    simp [h0, h1]
    refine Out_cond _ _ _ _ _ _ _ rfl (fun h => by simp at h) (fun _ => ?_)
    simp [h1, skp]
  | cons c l ih =>
    intro env s hl h0 h1
    have hlen := suf_len hl
    simp only [List.length_cons] at hlen h1
    have hlt : b.length - (l.length + 1) < b.length := by omega
    have hgi := at_get hl
    have e32 : ((c.toNat : Int) = 32) ↔ c = 32 := u8eq c 32 (by decide)
    have e9 : ((c.toNat : Int) = 9) ↔ c = 9 := u8eq c 9 (by decide)
    have e10 : ((c.toNat : Int) = 10) ↔ c = 10 := u8eq c 10 (by decide)
    have e13 : ((c.toNat : Int) = 13) ↔ c = 13 := u8eq c 13 (by decide)
    have hw : IntKind.i64.wrap (((b.length - (l.length + 1) : Nat) : Int) + 1) = ((b.length - l.length : Nat) : Int) := by rw [wrap_in (by omega) (by omega)]; omega
    have yes : isBl c = true → Out (evC G (.loop false af13l0) env s) (fun ex env' s' => ex = .exit 0 ∧ s' = s ∧ env' 1 = .int .i64 ((b.length - (skp (c :: l)).length : Nat) : Int)) := by
      intro hc
      have hsk : skp (c :: l) = skp l := by simp [skp, hc]
      simp only [isBl, Bool.or_eq_true, decide_eq_true_eq] at hc
      rw [hsk]
      refine Out_loop G false _ _ af13l0.eq_1 _ _ _ ?_
      rcases hc with ((rfl | rfl) | rfl) | rfl
      all_goals
        simp [h0, h1, hlt, ↓hgi]
        refine Out_cond _ _ _ _ _ _ _ rfl (fun _ => ?_) (fun h => by simp at h)
        simp [h0, h1, hw]
        refine Out.mono (ih _ s (suf_tail hl) (by simp [h0]) (by simp)) ?_
        rintro ex env' s' ⟨a, b, c⟩
        exact ⟨a, b, c⟩
    by_cases hc : isBl c = true
    · exact yes hc
    · have hsk : skp (c :: l) = c :: l := skp_id (by simpa using hc) l
      have hn : c ≠ 32 ∧ c ≠ 9 ∧ c ≠ 10 ∧ c ≠ 13 := by
        refine ⟨?_, ?_, ?_, ?_⟩ <;> (rintro rfl; exact hc rfl)
      refine Out_loop G false _ _ af13l0.eq_1 _ _ _ ?_
      simp [h0, h1, hlt, ↓hgi, e32, e9, e10, e13, hn.1, hn.2.1, hn.2.2.1, hn.2.2.2]
      refine Out_cond _ _ _ _ _ _ _ rfl (fun h => by simp at h) (fun _ => ?_)
      simp [h1, hsk]

theorem refBlank_spec {b l : List UInt8} (hb : b.length ≤ 1000000000) (hl : l <:+ b) (s : St) :
    call G 13 [.str b, .int .i64 ((b.length - l.length : Nat) : Int)] s = some (.int .i64 ((b.length - (skp l).length : Nat) : Int), s) := by
  refine call_out (F := af13) rfl rfl ?_
  simp [af13, af13b]
  refine Out.mono (refBlankLoop hb l _ s hl (by simp) (by simp)) ?_
  rintro ex env' s' ⟨rfl, rfl, h⟩
  simp [h]
  rw [fin_id _ (v := .int .i64 _) rfl]
  rfl

theorem refHas_spec {b l : List UInt8} (hb : b.length ≤ 1000000000) (hl : l <:+ b) (c : UInt8) (s : St) :
    call G 50 [.str b, .int .i64 ((b.length - l.length : Nat) : Int), .int .u8 c.toNat] s = some (.bool (hasB l c), s) := by
  refine call_out (F := af50) rfl rfl ?_
  cases l with
  | nil =>
    simp [af50, af50b, hasB]
    rw [fin_id _ (v := .bool _) rfl]
    rfl
  | cons x t =>
    have hlen := suf_len hl
    simp only [List.length_cons] at hlen
    have hlt : b.length - (t.length + 1) < b.length := by omega
    have hgi := at_get hl
    have hx : ((x.toNat : Int) = (c.toNat : Int)) ↔ x = c := by rw [← UInt8.toNat_inj]; omega
    simp [af50, af50b, hlt, ↓hgi, hasB, hx]
    rw [fin_id _ (v := .bool _) rfl]
    rfl

theorem refDigit_spec {b l : List UInt8} (hb : b.length ≤ 1000000000) (hl : l <:+ b) (s : St) :
    call G 21 [.str b, .int .i64 ((b.length - l.length : Nat) : Int)] s = some (.bool (digB l), s) := by
  refine call_out (F := af21) rfl rfl ?_
  cases l with
  | nil =>
    simp [af21, af21b, digB]
    rw [fin_id _ (v := .bool _) rfl]
    rfl
  | cons x t =>
    have hlen := suf_len hl
    simp only [List.length_cons] at hlen
    have hlt : b.length - (t.length + 1) < b.length := by omega
    have hgi := at_get hl
    have e : digB (x :: t) = (decide (48 ≤ x.toNat) && decide (x.toNat ≤ 57)) := rfl
    have e48 : ((48 : Int) ≤ (x.toNat : Int)) ↔ 48 ≤ x.toNat := by omega
    have e57 : ((x.toNat : Int) ≤ 57) ↔ x.toNat ≤ 57 := by omega
    rw [e]
    by_cases h48 : 48 ≤ x.toNat
    · simp [af21, af21b, hlt, ↓hgi, e48, e57, h48]
      rw [fin_id _ (v := .bool _) rfl]
      rfl
    · simp [af21, af21b, hlt, ↓hgi, e48, e57, h48]
      rw [fin_id _ (v := .bool _) rfl]
      rfl

theorem refBegins_spec {b l w : List UInt8} (hb : b.length ≤ 1000000000) (hw : w.length ≤ 1000) (hl : l <:+ b) (s : St) :
    call G 24 [.str b, .int .i64 ((b.length - l.length : Nat) : Int), .str w] s = some (.bool (begs l w), s) := by
  refine call_out (F := af24) rfl rfl ?_
  have hlen := suf_len hl
  have h1 : IntKind.i64.wrap ((b.length : Int) - ((b.length - l.length : Nat) : Int)) = (l.length : Int) := by rw [wrap_in (by omega) (by omega)]; omega
  have h2 : IntKind.i64.wrap (((b.length - l.length : Nat) : Int) + (w.length : Int)) = ((b.length - l.length + w.length : Nat) : Int) := by rw [wrap_in (by omega) (by omega)]; omega
  by_cases h : w.length ≤ l.length
  · have h' : ((w.length : Nat) : Int) ≤ (l.length : Int) := by omega
    have hsl : evSlcS (.str b) (some (.int .i64 ((b.length - l.length : Nat) : Int))) (some (.int .i64 ((b.length - l.length + w.length : Nat) : Int))) = some (.str (l.take w.length)) := by
      have e : (b.take (b.length - l.length + w.length)).drop (b.length - l.length) = l.take w.length := by
        rw [List.drop_take, suf_drop hl]
        congr 1
        omega
      simp only [evSlcS, bnd, Int.toNat_natCast]
      rw [if_pos (by omega), if_pos (by omega)]
      simp only
      rw [if_pos (by omega)]
      first | rw [e] | (simp [e]; done) | skip
    rw [show ((b.length - l.length + w.length : Nat) : Int) = ((b.length - l.length : Nat) : Int) + (w.length : Int) by omega] at hsl h2
    simp [af24, af24b, h1, h2, h, h', hsl]
    rw [fin_id _ (v := .bool _) rfl]
    simp [begs, h]
  · have h' : ¬ ((w.length : Nat) : Int) ≤ (l.length : Int) := by omega
    simp [af24, af24b, h1, h2, h, h']
    rw [fin_id _ (v := .bool _) rfl]
    simp [begs, h]

end Go.Proofs.YtjdppboomglenaaGreatDoor.Eng

/-
  The reference's numbers. No condition.
-/
namespace Go.Proofs.YtjdppboomglenaaGreatDoor.Eng
open Go
set_option linter.unusedSimpArgs false
set_option linter.unusedVariables false

attribute [local simp] evC_reg evC_regD evR_cons evR_nil runR_some regK_some evC_ret evC_skip evC_exit Out_seq Out_blk Out_some seqQ_norm seqQ_ret seqQ_exit blkQ_norm blkQ_ret blkQ_exit loopQ_norm loopQ_ret loopQ_exit
attribute [local simp] stepR evOp put upd_apply X.ev initEnv cells_agg cells_int cells_str cells_bool cells_sl cells_ptr cells_pnil cells_fn cells_map vc_length vc_take vc_plain vc_und toVs_plain toPs_plain toVs_und toPs_und takeN evBin isSh intBin strBin callK resOf packR V.plain plainL V.und undL scK kill dstsO dstsL dstsR ite_some ite_pair ite_vbool evUn evLoad evLen V.real finLoop_false quietK_false kill_none

/-- One digit more. -/
def stepN (p : Nat × Bool) (d : UInt8) : Nat × Bool := if p.1 < 1000000000000000 then (p.1 * 10 + (d.toNat - 48), p.2) else (p.1, true)
def foldN (p : Nat × Bool) (ds : List UInt8) : Nat × Bool := ds.foldl stepN p

theorem foldN_lt : ∀ (ds : List UInt8) (p : Nat × Bool), (∀ x ∈ ds, isDig x = true) → p.1 < 100000000000000000 → (foldN p ds).1 < 100000000000000000
  | [], p, _, h => h
  | d :: ds, p, hd, h => by
    refine foldN_lt ds (stepN p d) (fun x hx => hd x (by simp [hx])) ?_
    have h1 := hd d (by simp)
    simp only [isDig, Bool.and_eq_true, decide_eq_true_eq] at h1
    unfold stepN
    split <;> simp only <;> omega

/-- What the digits' fold says. -/
theorem foldN_val : ∀ (ds : List UInt8) (p : Nat × Bool) (a : Nat), (∀ x ∈ ds, isDig x = true) → (p.2 = false → p.1 = a) → (p.2 = true → 1000000000000000 ≤ p.1 ∧ 10000000000000000 ≤ a) →
    ((foldN p ds).2 = false → (foldN p ds).1 = ds.foldl (fun a x => 10 * a + (x.toNat - 48)) a) ∧ ((foldN p ds).2 = true → 10000000000000000 ≤ ds.foldl (fun a x => 10 * a + (x.toNat - 48)) a)
  | [], p, a, _, h0, h1 => ⟨h0, fun h => (h1 h).2⟩
  | d :: ds, p, a, hd, h0, h1 => by
    have hdd := hd d (by simp)
    simp only [isDig, Bool.and_eq_true, decide_eq_true_eq] at hdd
    have := foldN_val ds (stepN p d) (10 * a + (d.toNat - 48)) (fun x hx => hd x (by simp [hx])) ?_ ?_
    · exact this
    · intro h
      unfold stepN at h ⊢
      split at h
      · rename_i hlt
        rw [if_pos hlt]
        have := h0 h
        simp only
        omega
      · cases h
    · intro h
      unfold stepN at h ⊢
      split at h
      · rename_i hlt
        have := h1 h
        omega
      · rename_i hlt
        rw [if_neg hlt]
        simp only
        cases hp : p.2 with
        | false => have := h0 hp; omega
        | true => have := h1 hp; omega

theorem refNumLoop {b : List UInt8} (hb : b.length ≤ 1000000000) : ∀ (l : List UInt8) (p : Nat × Bool) (env : Env) (s : St), l <:+ b → p.1 < 100000000000000000 → env 0 = .str b → env 6 = .int .i64 ((b.length - l.length : Nat) : Int) →
      env 7 = .int .i64 (p.1 : Int) → env 8 = .bool p.2 →
    Out (evC G (.loop false af22l0) env s) (fun ex env' s' => ex = .exit 0 ∧ s' = s ∧ env' 0 = .str b ∧ env' 1 = env 1 ∧ env' 4 = env 4 ∧ env' 5 = env 5 ∧ env' 6 = .int .i64 ((b.length - (l.dropWhile isDig).length : Nat) : Int) ∧
      env' 7 = .int .i64 ((foldN p (l.takeWhile isDig)).1 : Int) ∧ env' 8 = .bool (foldN p (l.takeWhile isDig)).2) := by
  intro l
  induction l with
  | nil =>
    intro p env s hl hp h0 h6 h7 h8
    refine Out_loop G false _ _ af22l0.eq_1 _ _ _ ?_
    have hd := refDigit_spec hb hl s
    simp at h6 hd
    simp [h0, h6, hd]
    refine Out_cond _ _ _ _ _ _ _ rfl (fun h => by simp [digB] at h) (fun _ => ?_)
    simp [h0, h6, h7, h8, foldN]
  | cons c l ih =>
    intro p env s hl hp h0 h6 h7 h8
    have hlen := suf_len hl
    have hd := refDigit_spec hb hl s
    simp only [List.length_cons] at hlen h6 hd
    have hgi := at_get hl
    have hw : IntKind.i64.wrap (((b.length - (l.length + 1) : Nat) : Int) + 1) = ((b.length - l.length : Nat) : Int) := by rw [wrap_in (by omega) (by omega)]; omega
    refine Out_loop G false _ _ af22l0.eq_1 _ _ _ ?_
    simp [h0, h6, hd]
    by_cases hc : isDig c = true
    · have hdg : digB (c :: l) = true := hc
      have hcc := hc
      simp only [isDig, Bool.and_eq_true, decide_eq_true_eq] at hcc
      refine Out_cond _ _ _ _ _ _ _ (by simp; rfl) (fun _ => ?_) (fun h => by rw [hdg] at h; cases h)
      simp
      by_cases hlt : p.1 < 1000000000000000
      · have hlt' : ((p.1 : Int)) < 1000000000000000 := by omega
        have hst : stepN p c = (p.1 * 10 + (c.toNat - 48), p.2) := by unfold stepN; rw [if_pos hlt]
        have w1 : IntKind.i64.wrap ((p.1 : Int) * 10) = (p.1 : Int) * 10 := wrap_in (by omega) (by omega)
        have w0 : IntKind.i64.wrap (c.toNat : Int) = (c.toNat : Int) := wrap_in (by omega) (by omega)
        have w2 : IntKind.i64.wrap ((p.1 : Int) * 10 + (c.toNat : Int)) = (p.1 : Int) * 10 + (c.toNat : Int) := wrap_in (by omega) (by omega)
        have w3 : IntKind.i64.wrap ((p.1 : Int) * 10 + (c.toNat : Int) - 48) = ((p.1 * 10 + (c.toNat - 48) : Nat) : Int) := by rw [wrap_in (by omega) (by omega)]; omega
        simp [h7, hlt, hlt']
        refine Out_cond _ _ _ _ _ _ _ rfl (fun _ => ?_) (fun h => by simp at h)
        simp [h0, h6, h7, ↓hgi, w0, w1, w2, w3, hw]
        refine Out.mono (ih (stepN p c) _ s (suf_tail hl) ?_ (by simp [h0]) (by simp) (by simp [hst]) (by simp [h8, hst])) ?_
        · rw [hst]; simp only; omega
        · rintro ex env' s' ⟨a1, a2, a3, a4, a5, a6, a7, a8, a9⟩
          refine ⟨a1, a2, a3, ?_, ?_, ?_, ?_, ?_, ?_⟩
          · rw [a4]; simp
          · rw [a5]; simp
          · rw [a6]; simp
          · rw [a7]; simp [hc]
          · rw [a8]; simp [hc, foldN]
          · rw [a9]; simp [hc, foldN]
      · have hlt' : ¬ ((p.1 : Int)) < 1000000000000000 := by omega
        have hst : stepN p c = (p.1, true) := by unfold stepN; rw [if_neg hlt]
        simp [h7, hlt, hlt']
        refine Out_cond _ _ _ _ _ _ _ rfl (fun h => by simp at h) (fun _ => ?_)
        simp [h0, h6, h7, hw]
        refine Out.mono (ih (stepN p c) _ s (suf_tail hl) ?_ (by simp [h0]) (by simp) (by simp [hst, h7]) (by simp [hst])) ?_
        · rw [hst]; exact hp
        · rintro ex env' s' ⟨a1, a2, a3, a4, a5, a6, a7, a8, a9⟩
          refine ⟨a1, a2, a3, ?_, ?_, ?_, ?_, ?_, ?_⟩
          · rw [a4]; simp
          · rw [a5]; simp
          · rw [a6]; simp
          · rw [a7]; simp [hc]
          · rw [a8]; simp [hc, foldN]
          · rw [a9]; simp [hc, foldN]
    · have hdg : digB (c :: l) = false := by simpa [digB] using hc
      refine Out_cond _ _ _ _ _ _ _ (by simp; rfl) (fun h => by rw [hdg] at h; cases h) (fun _ => ?_)
      simp [h0, h6, h7, h8, hc, foldN]

end Go.Proofs.YtjdppboomglenaaGreatDoor.Eng

/-
  The reference's numbers, whole. No condition.
-/
namespace Go.Proofs.YtjdppboomglenaaGreatDoor.Eng
open Go
set_option linter.unusedSimpArgs false
set_option linter.unusedVariables false

attribute [local simp] evC_reg evC_regD evR_cons evR_nil runR_some regK_some evC_ret evC_skip evC_exit Out_seq Out_blk Out_some seqQ_norm seqQ_ret seqQ_exit blkQ_norm blkQ_ret blkQ_exit loopQ_norm loopQ_ret loopQ_exit
attribute [local simp] stepR evOp put upd_apply X.ev initEnv cells_agg cells_int cells_str cells_bool cells_sl cells_ptr cells_pnil cells_fn cells_map vc_length vc_take vc_plain vc_und toVs_plain toPs_plain toVs_und toPs_und takeN evBin isSh intBin strBin callK resOf packR V.plain plainL V.und undL scK kill dstsO dstsL dstsR ite_some ite_pair ite_vbool evUn evLoad evLen V.real finLoop_false quietK_false kill_none

/-- What the reference's reader answers: a value, a place, a fault. -/
def RdV (b : List UInt8) (p : PR JV) (w : JV) (at_ e : Int) : Prop :=
  match p with
  | .ok v l => w = v ∧ at_ = ((b.length - l.length : Nat) : Int) ∧ e = 0
  | .err l e' => at_ = ((b.length - l.length : Nat) : Int) ∧ e = e'
abbrev rdAgg (w : JV) (at_ e : Int) : V := .agg (vc w ++ [.int .i64 at_, .int .i64 e])

/-- A number's end. -/
def NT (b l : List UInt8) (s : St) (v : V) (s' : St) : Prop := s' = s ∧ ∃ w at_ e, v = rdAgg w at_ e ∧ RdV b (pnum l) w at_ e

theorem refNum_spec {b l : List UInt8} (hb : b.length ≤ 1000000000) (hl : l <:+ b) (hne : l ≠ []) (s : St) :
    ∃ w at_ e, call G 22 [.str b, .int .i64 ((b.length - l.length : Nat) : Int)] s = some (rdAgg w at_ e, s) ∧ RdV b (pnum l) w at_ e := by
  have key : ∃ q, call G 22 [.str b, .int .i64 ((b.length - l.length : Nat) : Int)] s = some q ∧ NT b l s q.1 q.2 := by
    refine call_ex (G := G) (f := 22) (F := af22) (T := NT b l s) rfl rfl ?_
    have hlen := suf_len hl
    have hu := (numT_suf l).trans hl
    have hulen := suf_len hu
    have hrs := (rst_suf l).trans hl
    have hrlen := suf_len hrs
    have hdl := dgs_len l
    have hi : b[((b.length - l.length : Nat) : Int).toNat]? = some (hd0 l) := by
      obtain ⟨c, t, rfl⟩ := List.exists_cons_of_ne_nil hne
      exact at_get hl
    have hlt : b.length - l.length < b.length := by have := List.length_pos_iff.2 hne; omega
    have e45 : (((hd0 l).toNat : Int) = 45) ↔ hd0 l = 45 := u8eq _ 45 (by decide)
    have hnum : numT l = if hd0 l = 45 then l.drop 1 else l := by
      obtain ⟨c, t, rfl⟩ := List.exists_cons_of_ne_nil hne
      rfl
    have hpos : (numT l).length = if hd0 l = 45 then l.length - 1 else l.length := by rw [hnum]; split <;> simp
    have hl0 := List.length_pos_iff.2 hne
    simp [af22, af22b, hlt, ↓hi, e45]
    refine Out.mono (Q := fun ex env' s' => ex = .norm ∧ env' 0 = .str b ∧ env' 1 = .int .i64 ((b.length - l.length : Nat) : Int) ∧ env' 4 = .ptr s.obs.length 0 ∧ env' 5 = .int .i64 ((b.length - (numT l).length : Nat) : Int) ∧
      s' = ⟨s.obs ++ [.cells 40 (zV ++ [.int .i64 0, .int .i64 0])], s.bufs⟩) ?_ ?_
    · by_cases h45 : hd0 l = 45
      · have hw : IntKind.i64.wrap (((b.length - l.length : Nat) : Int) + 1) = ((b.length - (numT l).length : Nat) : Int) := by rw [hpos, if_pos h45, wrap_in (by omega) (by omega)]; omega
        refine Out_cond _ _ _ _ _ _ _ rfl (fun _ => ?_) (fun h => by simp [h45] at h)
        simp [hw]
      · refine Out_cond _ _ _ _ _ _ _ rfl (fun h => by simp [h45] at h) (fun _ => ?_)
        simp [hpos, h45]
    rintro ex env s1 ⟨rfl, q0, q1, q4, q5, rfl⟩
    simp [q5]
    refine Out.mono (refNumLoop hb (numT l) (0, false) _ _ hu (by decide) (by simp [q0]) (by simp) (by simp) (by simp)) ?_
    rintro ex env2 s2 ⟨rfl, rfl, a0, a1, a4, a5, a6, a7, a8⟩
    simp [q1, q4, q5] at a1 a4 a5
    have hra : (numT l).dropWhile isDig = rst l := rfl
    have hda : (numT l).takeWhile isDig = dgs l := rfl
    rw [hra] at a6
    rw [hda] at a7 a8
    have haz := fun s => refHas_spec hb hu 48 s
    have hz0 : hasB (numT l) 48 = decide (hd0 (numT l) = 48) := by
      unfold hasB hd0
      cases hnn : (numT l)[0]? with
      | none => simp
      | some x => simp
    have hng : isNeg l = decide (hd0 l = 45) := rfl
    have hE : ∀ (X : List AObj) (x : V) (w : JV) (at_ e : Int), x.plain = rdAgg w at_ e → RdV b (pnum l) w at_ e → ∃ v s', fin false s ⟨s.obs ++ X, s.bufs⟩ x = (v, s') ∧ NT b l s v s' := by
      intro X x w at_ e hx hr
      have hun : (rdAgg w at_ e).und s.obs.length 0 = true := by cases w; simp [vc]
      exact ⟨_, _, fin_s0 _ _ _ (by rw [hx]; exact hun), rfl, w, at_, e, hx, hr⟩
    have hp1 : pnum l = if dgs l = [] ∨ (dgs l = [48] ∧ isNeg l = true) then .err l 4
        else if hd0 (dgs l) = 48 ∧ 1 < (dgs l).length then .err ((numT l).drop 1) 4
        else if 9007199254740991 < valD (dgs l) then .err l 6
        else .ok (.mk 2 (if isNeg l = true then -(valD (dgs l) : Int) else (valD (dgs l) : Int)) [] [] []) (rst l) := rfl
    by_cases c1 : dgs l = [] ∨ (dgs l = [48] ∧ isNeg l = true)
    · rw [if_pos c1] at hp1
      have hr4 : RdV b (pnum l) jNull ((b.length - l.length : Nat) : Int) 4 := by rw [hp1]; exact ⟨rfl, rfl⟩
      rcases c1 with c1 | ⟨c1, c1'⟩
      · have e1 : (rst l).length = (numT l).length := by rw [hdl, c1]; simp
        simp [a5, a6, e1]
        refine Out_cond _ _ _ _ _ _ _ rfl (fun _ => ?_) (fun h => by simp at h)
        simp [a1, a4, fillL, putL, evStore, V.one]
        exact hE _ _ jNull _ _ (by simp [jNull, vc, toVs, toPs]) hr4
      · have hu1 : (numT l).length = (rst l).length + 1 := by rw [hdl, c1]; simp; omega
        have h45 : hd0 l = 45 := by rw [hng] at c1'; simpa using c1'
        have hz1 : hd0 (numT l) = 48 := by
          have := numT_eq l
          rw [c1] at this
          rw [this]; rfl
        have hne1 : ¬ b.length - (rst l).length = b.length - (numT l).length := by omega
        have hne2 : ¬ ((b.length - (rst l).length : Nat) : Int) = ((b.length - (numT l).length : Nat) : Int) := by omega
        have hw : IntKind.i64.wrap (((b.length - (numT l).length : Nat) : Int) + 1) = ((b.length - (rst l).length : Nat) : Int) := by rw [wrap_in (by omega) (by omega)]; omega
        rw [h45] at hpos
        simp at hpos
        have hgt : b.length - l.length < b.length - (numT l).length := by omega
        have hgt' : ((b.length - l.length : Nat) : Int) < ((b.length - (numT l).length : Nat) : Int) := by omega
        rw [hz0, hz1] at haz
        simp at haz
        simp [a0, a1, a5, a6, hne1, hne2, haz, hw, hgt, hgt']
        refine Out_cond _ _ _ _ _ _ _ rfl (fun _ => ?_) (fun h => by simp at h)
        simp [a1, a4, fillL, putL, evStore, V.one]
        exact hE _ _ jNull _ _ (by simp [jNull, vc, toVs, toPs]) hr4
    · rw [if_neg c1] at hp1
      have hD : dgs l ≠ [] := fun h => c1 (.inl h)
      have hDl := List.length_pos_iff.2 hD
      have hnq := numT_eq l
      have hhd : hd0 (numT l) = hd0 (dgs l) := by
        obtain ⟨x, t, hx⟩ := List.exists_cons_of_ne_nil hD
        rw [hnq, hx]; rfl
      have hne1 : ¬ b.length - (rst l).length = b.length - (numT l).length := by omega
      have hne2 : ¬ ((b.length - (rst l).length : Nat) : Int) = ((b.length - (numT l).length : Nat) : Int) := by omega
      have hw : IntKind.i64.wrap (((b.length - (numT l).length : Nat) : Int) + 1) = ((b.length - (numT l).length : Nat) : Int) + 1 := wrap_in (by omega) (by omega)
      simp only [blkQ_exit, if_true, seqQ_norm]
      rw [Out_seq]
      refine Out.mono (Q := fun ex env' s' => ex = .norm ∧ env' 0 = .str b ∧ env' 1 = env2 1 ∧ env' 4 = env2 4 ∧ env' 5 = env2 5 ∧ env' 6 = env2 6 ∧ env' 7 = env2 7 ∧ env' 8 = env2 8 ∧ s' = ⟨s.obs ++ [.cells 40 (zV ++ [.int .i64 0, .int .i64 0])], s.bufs⟩) ?_ ?_
      · rw [hz0] at haz
        by_cases hz : hd0 (numT l) = 48
        · by_cases h1 : (dgs l).length = 1
          · have h48 : dgs l = [48] := by
              match hd : dgs l, h1 with
              | [x], _ =>
                rw [hhd, hd] at hz
                simp [hd0] at hz
                rw [hz]
            have hn45 : ¬ hd0 l = 45 := fun h => c1 (.inr ⟨h48, by rw [hng]; simpa using h⟩)
            rw [if_neg hn45] at hpos
            have hng2 : ¬ b.length - l.length < b.length - (numT l).length := by omega
            have hng3 : ¬ ((b.length - l.length : Nat) : Int) < ((b.length - (numT l).length : Nat) : Int) := by omega
            have hne3 : ((b.length - (rst l).length : Nat) : Int) = ((b.length - (numT l).length : Nat) : Int) + 1 := by omega
            simp [hz] at haz
            have hpn : ¬ (((b.length - (numT l).length : Nat) : Int) + 1 = ((b.length - (numT l).length : Nat) : Int)) := by omega
            simp [a0, a1, a5, a6, hne1, hne2, haz, hw, hng2, hng3, hne3, hpn]
            refine Out_cond _ _ _ _ _ _ _ rfl (fun h => by simp at h) (fun _ => ?_)
            simp [a0, a1, a4, a5, a6, a7, a8, hne3]
          · have hne3 : ¬ ((b.length - (rst l).length : Nat) : Int) = ((b.length - (numT l).length : Nat) : Int) + 1 := by omega
            simp [hz] at haz
            simp [a0, a1, a5, a6, hne1, hne2, haz, hw, hne3]
            refine Out_cond _ _ _ _ _ _ _ rfl (fun h => by simp at h) (fun _ => ?_)
            simp [a0, a1, a4, a5, a6, a7, a8]
        · simp [hz] at haz
          simp [a0, a1, a5, a6, hne1, hne2, haz, hw]
          refine Out_cond _ _ _ _ _ _ _ rfl (fun h => by simp at h) (fun _ => ?_)
          simp [a0, a1, a4, a5, a6, a7, a8]
      rintro ex env3 s3 ⟨rfl, b0, b1, b4, b5, b6, b7, b8, rfl⟩
      rw [a1] at b1; rw [a4] at b4; rw [a5] at b5; rw [a6] at b6; rw [a7] at b7; rw [a8] at b8
      have hnn : numT l ≠ [] := by rw [hnq]; simp [hD]
      have hnl := List.length_pos_iff.2 hnn
      have hi2 : b[((b.length - (numT l).length : Nat) : Int).toNat]? = some (hd0 (numT l)) := by
        revert hnn hu
        cases numT l with
        | nil => intro _ h; exact absurd rfl h
        | cons x t => intro hu _; exact at_get hu
      have hlt2 : b.length - (numT l).length < b.length := by omega
      have e48 : (((hd0 (numT l)).toNat : Int) = 48) ↔ hd0 (numT l) = 48 := u8eq _ 48 (by decide)
      rw [seqQ_norm]
      by_cases c2 : hd0 (dgs l) = 48 ∧ 1 < (dgs l).length
      · rw [if_pos c2] at hp1
        have hz : hd0 (numT l) = 48 := by rw [hhd]; exact c2.1
        have hgt : ((b.length - (numT l).length : Nat) : Int) + 1 < ((b.length - (rst l).length : Nat) : Int) := by have := c2.2; omega
        have hr4 : RdV b (pnum l) jNull (((b.length - (numT l).length : Nat) : Int) + 1) 4 := by
          rw [hp1]
          refine ⟨?_, rfl⟩
          rw [List.length_drop]
          omega
        simp [b0, b5, b6, hlt2, ↓hi2, e48, hz, hw, hgt]
        refine Out_cond _ _ _ _ _ _ _ rfl (fun _ => ?_) (fun h => by simp at h)
        simp [b4, b5, hw, fillL, putL, evStore, V.one]
        exact hE _ _ jNull _ _ (by simp [jNull, vc, toVs, toPs]) hr4
      · rw [if_neg c2] at hp1
        rw [Out_seq]
        refine Out.mono (Q := fun ex env' s' => ex = .norm ∧ env' 0 = .str b ∧ env' 1 = env3 1 ∧ env' 4 = env3 4 ∧ env' 5 = env3 5 ∧ env' 6 = env3 6 ∧ env' 7 = env3 7 ∧ env' 8 = env3 8 ∧ s' = ⟨s.obs ++ [.cells 40 (zV ++ [.int .i64 0, .int .i64 0])], s.bufs⟩) ?_ ?_
        · by_cases hz : hd0 (numT l) = 48
          · have hD1 : (dgs l).length = 1 := by
              have : ¬ 1 < (dgs l).length := fun h => c2 ⟨by rw [← hhd]; exact hz, h⟩
              omega
            have hgt : ¬ ((b.length - (numT l).length : Nat) : Int) + 1 < ((b.length - (rst l).length : Nat) : Int) := by omega
            simp [b0, b5, b6, hlt2, ↓hi2, e48, hz, hw, hgt]
            refine Out_cond _ _ _ _ _ _ _ rfl (fun h => by simp at h) (fun _ => ?_)
            simp [b0, b1, b4, b5, b6, b7, b8]
          · simp [b0, b5, b6, hlt2, ↓hi2, e48, hz, hw]
            refine Out_cond _ _ _ _ _ _ _ rfl (fun h => by simp at h) (fun _ => ?_)
            simp [b0, b1, b4, b5, b6, b7, b8]
        rintro ex env4 s4 ⟨rfl, d0, d1, d4, d5, d6, d7, d8, rfl⟩
        rw [b1] at d1; rw [b4] at d4; rw [b5] at d5; rw [b6] at d6; rw [b7] at d7; rw [b8] at d8
        have hdig : ∀ x ∈ dgs l, isDig x = true := takeWhile_all _
        have hF := foldN_val (dgs l) (0, false) 0 hdig (fun _ => rfl) (fun h => by cases h)
        have hFl := foldN_lt (dgs l) (0, false) hdig (by decide)
        have hv0 : (dgs l).foldl (fun a x => 10 * a + (x.toNat - 48)) 0 = valD (dgs l) := rfl
        rw [hv0] at hF
        generalize foldN (0, false) (dgs l) = F at hF hFl d7 d8
        obtain ⟨F1, F2⟩ := F
        simp only at hF hFl d7 d8
        rw [seqQ_norm]
        by_cases c3 : 9007199254740991 < valD (dgs l)
        · rw [if_pos c3] at hp1
          have hr6 : RdV b (pnum l) jNull ((b.length - l.length : Nat) : Int) 6 := by rw [hp1]; exact ⟨rfl, rfl⟩
          have fin6 : ∀ env5 : Env, env5 1 = .int .i64 ((b.length - l.length : Nat) : Int) → env5 4 = .ptr s.obs.length 0 → True := fun _ _ _ => trivial
          cases F2 with
          | true =>
            simp [d8]
            refine Out_cond _ _ _ _ _ _ _ rfl (fun _ => ?_) (fun h => by simp at h)
            simp [d1, d4, fillL, putL, evStore, V.one]
            exact hE _ _ jNull _ _ (by simp [jNull, vc, toVs, toPs]) hr6
          | false =>
            have h1 := hF.1 rfl
            have hgt : (9007199254740991 : Int) < (F1 : Int) := by omega
            have hgt2 : 9007199254740991 < F1 := by omega
            simp [d7, d8, hgt, hgt2]
            refine Out_cond _ _ _ _ _ _ _ rfl (fun _ => ?_) (fun h => by simp at h)
            simp [d1, d4, fillL, putL, evStore, V.one]
            exact hE _ _ jNull _ _ (by simp [jNull, vc, toVs, toPs]) hr6
        · rw [if_neg c3] at hp1
          have hF2 : F2 = false := by
            cases F2 with
            | false => rfl
            | true => have := hF.2 rfl; omega
          subst hF2
          have h1 := hF.1 rfl
          have hgt : ¬ (9007199254740991 : Int) < (F1 : Int) := by omega
          have hgt2 : ¬ 9007199254740991 < F1 := by omega
          simp [d7, d8, hgt, hgt2]
          refine Out_cond _ _ _ _ _ _ _ rfl (fun h => by simp at h) (fun _ => ?_)
          have hwn : IntKind.i64.wrap (-(F1 : Int)) = -(F1 : Int) := wrap_in (by omega) (by omega)
          by_cases h45 : hd0 l = 45
          · rw [if_pos h45] at hpos
            have hlt5 : ((b.length - l.length : Nat) : Int) < ((b.length - (numT l).length : Nat) : Int) := by omega
            have hlt6 : b.length - l.length < b.length - (numT l).length := by omega
            have hng1 : isNeg l = true := by rw [hng]; simpa using h45
            rw [if_pos hng1] at hp1
            simp [d1, d5, hlt5, hlt6]
            refine Out_cond _ _ _ _ _ _ _ rfl (fun _ => ?_) (fun h => by simp at h)
            simp [d4, d6, d7, hwn, fillL, putL, evStore, V.one]
            exact hE _ _ (.mk 2 (-(F1 : Int)) [] [] []) ((b.length - (rst l).length : Nat) : Int) 0 (by simp [vc, toVs, toPs]) (by rw [hp1, ← h1]; exact ⟨rfl, rfl, rfl⟩)
          · rw [if_neg h45] at hpos
            have hlt5 : ¬ ((b.length - l.length : Nat) : Int) < ((b.length - (numT l).length : Nat) : Int) := by omega
            have hlt6 : ¬ b.length - l.length < b.length - (numT l).length := by omega
            have hng1 : ¬ isNeg l = true := by rw [hng]; simpa using h45
            rw [if_neg hng1] at hp1
            simp [d1, d5, hlt5, hlt6]
            refine Out_cond _ _ _ _ _ _ _ rfl (fun h => by simp at h) (fun _ => ?_)
            simp [d4, d6, d7, fillL, putL, evStore, V.one]
            exact hE _ _ (.mk 2 (F1 : Int) [] [] []) ((b.length - (rst l).length : Nat) : Int) 0 (by simp [vc, toVs, toPs]) (by rw [hp1, ← h1]; exact ⟨rfl, rfl, rfl⟩)
  obtain ⟨⟨v, s'⟩, hc, h1, w, at_, e, h2, h3⟩ := key
  simp only at h1 h2
  subst h1 h2
  exact ⟨w, at_, e, hc, h3⟩

end Go.Proofs.YtjdppboomglenaaGreatDoor.Eng

/-
  The reference's runes, told. No condition.
-/
namespace Go.Proofs.YtjdppboomglenaaGreatDoor.Eng
open Go
set_option linter.unusedSimpArgs false
set_option linter.unusedVariables false

attribute [local simp] evC_reg evC_regD evR_cons evR_nil runR_some regK_some evC_ret evC_skip evC_exit Out_seq Out_blk Out_some seqQ_norm seqQ_ret seqQ_exit blkQ_norm blkQ_ret blkQ_exit loopQ_norm loopQ_ret loopQ_exit
attribute [local simp] stepR evOp put upd_apply X.ev initEnv cells_agg cells_int cells_str cells_bool cells_sl cells_ptr cells_pnil cells_fn cells_map vc_length vc_take vc_plain vc_und toVs_plain toPs_plain toVs_und toPs_und takeN evBin isSh intBin strBin callK resOf packR V.plain plainL V.und undL scK kill dstsO dstsL dstsR ite_some ite_pair ite_vbool evUn evLoad evLen V.real finLoop_false quietK_false kill_none

theorem tdivN (a b : Nat) : ((a : Int)).tdiv (b : Int) = ((a / b : Nat) : Int) := by
  rw [Int.tdiv_eq_ediv_of_nonneg (by omega)]; rfl
theorem tmodN' (a b : Nat) : ((a : Int)).tmod (b : Int) = ((a % b : Nat) : Int) := by
  rw [Int.tmod_eq_emod_of_nonneg (by omega)]; rfl

theorem bytesOf_cons (n : Nat) (h : n < 256) (vs : List V) (r : List UInt8) (hr : bytesOf vs = some r) : bytesOf (.int .u8 (n : Int) :: vs) = some (UInt8.ofNat n :: r) := by
  unfold bytesOf
  rw [if_pos (by omega), hr]
  simp

theorem refRune_spec (c : Nat) (hc : runeOk c) (s : St) : call G 48 [.int .i32 (c : Int)] s = some (.str (encV c), s) := by
  unfold runeOk at hc
  refine call_out (F := af48) rfl rfl ?_
  have hw : IntKind.i64.wrap (c : Int) = c := wrap_in (by omega) (by omega)
  have n0 : ¬ (c : Int) < 0 := by omega
  have n1 : ¬ (1114111 : Int) < (c : Int) := by omega
  have n1' : ¬ 1114111 < c := by omega
  by_cases h1 : c < 128
  · have h1' : (c : Int) < 128 := by omega
    have n2 : ¬ (55296 : Int) ≤ (c : Int) := by omega
    have n2' : ¬ 55296 ≤ c := by omega
    have hu : IntKind.u8.wrap (c : Int) = c := by rw [wrapU8 (by omega)]; omega
    have hb := bytesOf_cons c (by omega) [] [] rfl
    simp [af48, af48b, hw, n0, n1, n1', n2, n2']
    refine Out_cond _ _ _ _ _ _ _ rfl (fun h => by simp at h) (fun _ => ?_)
    simp [h1, h1']
    refine Out_cond _ _ _ _ _ _ _ rfl (fun _ => ?_) (fun h => by simp at h)
    simp [hu, fillS, V.one, hb]
    rw [fin_id _ (v := .str _) rfl]
    simp [encV, h1]
  have h1' : ¬ (c : Int) < 128 := by omega
  have q64 : ((c : Int)).tdiv 64 = ((c / 64 : Nat) : Int) := tdivN c 64
  have q4096 : ((c : Int)).tdiv 4096 = ((c / 4096 : Nat) : Int) := tdivN c 4096
  have q26 : ((c : Int)).tdiv 262144 = ((c / 262144 : Nat) : Int) := tdivN c 262144
  have r64 : ((c : Int)).tmod 64 = ((c % 64 : Nat) : Int) := tmodN' c 64
  have r1 : ((c / 64 : Nat) : Int).tmod 64 = ((c / 64 % 64 : Nat) : Int) := tmodN' _ 64
  have r2 : ((c / 4096 : Nat) : Int).tmod 64 = ((c / 4096 % 64 : Nat) : Int) := tmodN' _ 64
  have wa : ∀ k n : Nat, k < 1000 → n ≤ 1114111 → IntKind.i64.wrap ((k : Int) + (n : Int)) = ((k + n : Nat) : Int) := fun k n _ _ => by rw [wrap_in (by omega) (by omega)]; omega
  have wq : ∀ n : Nat, n ≤ 1114111 → IntKind.i64.wrap (n : Int) = (n : Int) := fun n _ => wrap_in (by omega) (by omega)
  have wu : ∀ n : Nat, n < 256 → IntKind.u8.wrap (n : Int) = (n : Int) := fun n _ => by rw [wrapU8 (by omega)]; omega
  by_cases h2 : c < 2048
  · have h2' : (c : Int) < 2048 := by omega
    have n2 : ¬ (55296 : Int) ≤ (c : Int) := by omega
    have n2' : ¬ 55296 ≤ c := by omega
    have e1 := wa 192 (c / 64) (by omega) (by omega)
    have e2 := wa 128 (c % 64) (by omega) (by omega)
    have f1 := wu (192 + c / 64) (by omega)
    have f2 := wu (128 + c % 64) (by omega)
    have g1 := wq (c / 64) (by omega)
    have hb := bytesOf_cons (192 + c / 64) (by omega) _ _ (bytesOf_cons (128 + c % 64) (by omega) [] [] rfl)
    have henc : encV c = [UInt8.ofNat (192 + c / 64), UInt8.ofNat (128 + c % 64)] := by unfold encV; rw [if_neg h1, if_pos h2]
    rw [henc]
    generalize c / 64 = x at q64 e1 f1 g1 hb henc r1 ⊢
    generalize c % 64 = y at r64 e2 f2 hb henc ⊢
    generalize 192 + x = u at e1 f1 hb henc ⊢
    generalize 128 + y = v at e2 f2 hb henc ⊢
    simp at e1 e2
    simp [af48, af48b, hw, n0, n1, n1', n2, n2']
    refine Out_cond _ _ _ _ _ _ _ rfl (fun h => by simp at h) (fun _ => ?_)
    simp [h1, h1']
    refine Out_cond _ _ _ _ _ _ _ rfl (fun h => by simp at h) (fun _ => ?_)
    simp [h2, h2']
    refine Out_cond _ _ _ _ _ _ _ rfl (fun _ => ?_) (fun h => by simp at h)
    simp [q64, r64, g1, e1, e2, f1, f2, fillS, V.one, hb]
    rw [fin_id _ (v := .str _) rfl]
    simp
  · have pre : ∀ (G' : True), True := fun _ => trivial
    have n3 : ¬ c < 128 := h1
    have hs2 : ¬ (c : Int) < 2048 := by omega
    have e2 := wa 128 (c % 64) (by omega) (by omega)
    have f2 := wu (128 + c % 64) (by omega)
    simp [af48, af48b, hw, n0, n1, n1']
    refine Out.mono (Q := fun ex env' s' => ex = .norm ∧ env' 3 = .int .i64 (c : Int) ∧ s' = s) ?_ ?_
    · rcases hc.2 with hs | hs
      · have n2 : ¬ (55296 : Int) ≤ (c : Int) := by omega
        have n2' : ¬ 55296 ≤ c := by omega
        simp [n2, n2']
        refine Out_cond _ _ _ _ _ _ _ rfl (fun h => by simp at h) (fun _ => ?_)
        simp
      · have n2 : (55296 : Int) ≤ (c : Int) := by omega
        have n2' : 55296 ≤ c := by omega
        have m2 : ¬ (c : Int) < 57344 := by omega
        have m2' : ¬ c < 57344 := by omega
        simp [n2, n2', m2, m2']
        refine Out_cond _ _ _ _ _ _ _ rfl (fun h => by simp at h) (fun _ => ?_)
        simp
    rintro ex env s' ⟨rfl, q3, rfl⟩
    simp [q3, h1, h1']
    refine Out_cond _ _ _ _ _ _ _ rfl (fun h => by simp at h) (fun _ => ?_)
    simp [q3, h2, hs2]
    refine Out_cond _ _ _ _ _ _ _ rfl (fun h => by simp at h) (fun _ => ?_)
    by_cases h3 : c < 65536
    · have h3' : (c : Int) < 65536 := by omega
      have e1 := wa 224 (c / 4096) (by omega) (by omega)
      have e3 := wa 128 (c / 64 % 64) (by omega) (by omega)
      have f1 := wu (224 + c / 4096) (by omega)
      have f3 := wu (128 + c / 64 % 64) (by omega)
      have g1 := wq (c / 4096) (by omega)
      have g2 := wq (c / 64) (by omega)
      have hb := bytesOf_cons (224 + c / 4096) (by omega) _ _ (bytesOf_cons (128 + c / 64 % 64) (by omega) _ _ (bytesOf_cons (128 + c % 64) (by omega) [] [] rfl))
      have henc : encV c = [UInt8.ofNat (224 + c / 4096), UInt8.ofNat (128 + c / 64 % 64), UInt8.ofNat (128 + c % 64)] := by unfold encV; rw [if_neg h1, if_neg h2, if_pos h3]
      rw [henc]
      generalize 224 + c / 4096 = u at e1 f1 hb henc ⊢
      generalize 128 + c % 64 = v at e2 f2 hb henc ⊢
      generalize 128 + c / 64 % 64 = w at e3 f3 hb henc ⊢
      generalize c / 4096 = x at q4096 e1 g1 ⊢
      generalize c / 64 % 64 = z at r1 e3 ⊢
      generalize c / 64 = z0 at q64 g2 r1 ⊢
      generalize c % 64 = y at r64 e2 ⊢
      simp at e1 e2 e3
      simp [q3, h3, h3']
      refine Out_cond _ _ _ _ _ _ _ rfl (fun _ => ?_) (fun h => by simp at h)
      simp [q3, q64, q4096, r64, r1, g1, g2, e1, e2, e3, f1, f2, f3, fillS, V.one, hb]
      rw [fin_id _ (v := .str _) rfl]
      simp
    · have h3' : ¬ (c : Int) < 65536 := by omega
      have e1 := wa 240 (c / 262144) (by omega) (by omega)
      have e4 := wa 128 (c / 4096 % 64) (by omega) (by omega)
      have e3 := wa 128 (c / 64 % 64) (by omega) (by omega)
      have f1 := wu (240 + c / 262144) (by omega)
      have f4 := wu (128 + c / 4096 % 64) (by omega)
      have f3 := wu (128 + c / 64 % 64) (by omega)
      have g1 := wq (c / 4096) (by omega)
      have g2 := wq (c / 64) (by omega)
      have g3 := wq (c / 262144) (by omega)
      have hb := bytesOf_cons (240 + c / 262144) (by omega) _ _ (bytesOf_cons (128 + c / 4096 % 64) (by omega) _ _ (bytesOf_cons (128 + c / 64 % 64) (by omega) _ _ (bytesOf_cons (128 + c % 64) (by omega) [] [] rfl)))
      have henc : encV c = [UInt8.ofNat (240 + c / 262144), UInt8.ofNat (128 + c / 4096 % 64), UInt8.ofNat (128 + c / 64 % 64), UInt8.ofNat (128 + c % 64)] := by unfold encV; rw [if_neg h1, if_neg h2, if_neg h3]
      rw [henc]
      generalize 240 + c / 262144 = u at e1 f1 hb henc ⊢
      generalize 128 + c % 64 = v at e2 f2 hb henc ⊢
      generalize 128 + c / 64 % 64 = w at e3 f3 hb henc ⊢
      generalize 128 + c / 4096 % 64 = w4 at e4 f4 hb henc ⊢
      generalize c / 262144 = x at q26 e1 g3 ⊢
      generalize c / 4096 % 64 = z4 at r2 e4 ⊢
      generalize c / 4096 = z5 at q4096 g1 r2 ⊢
      generalize c / 64 % 64 = z at r1 e3 ⊢
      generalize c / 64 = z0 at q64 g2 r1 ⊢
      generalize c % 64 = y at r64 e2 ⊢
      simp at e1 e2 e3 e4
      simp [q3, h3, h3']
      refine Out_cond _ _ _ _ _ _ _ rfl (fun h => by simp at h) (fun _ => ?_)
      simp [q3, q64, q4096, q26, r64, r1, r2, g1, g2, g3, e1, e2, e3, e4, f1, f2, f3, f4, fillS, V.one, hb]
      rw [fin_id _ (v := .str _) rfl]
      simp

end Go.Proofs.YtjdppboomglenaaGreatDoor.Eng

/-
  The reference's four digits. No condition.
-/
namespace Go.Proofs.YtjdppboomglenaaGreatDoor.Eng
open Go
set_option linter.unusedSimpArgs false
set_option linter.unusedVariables false

attribute [local simp] evC_reg evC_regD evR_cons evR_nil runR_some regK_some evC_ret evC_skip evC_exit Out_seq Out_blk Out_some seqQ_norm seqQ_ret seqQ_exit blkQ_norm blkQ_ret blkQ_exit loopQ_norm loopQ_ret loopQ_exit
attribute [local simp] stepR evOp put upd_apply X.ev initEnv cells_agg cells_int cells_str cells_bool cells_sl cells_ptr cells_pnil cells_fn cells_map vc_length vc_take vc_plain vc_und toVs_plain toPs_plain toVs_und toPs_und takeN evBin isSh intBin strBin callK resOf packR V.plain plainL V.und undL scK kill dstsO dstsL dstsR ite_some ite_pair ite_vbool evUn evLoad evLen V.real finLoop_false quietK_false kill_none

theorem hexF_neg : ∀ (ds : List UInt8) (n : Int), 0 ≤ n → (∃ d ∈ ds, hexD d < 0) → hexF n ds = -1
  | [], n, _, h => by obtain ⟨d, hd, _⟩ := h; cases hd
  | c :: ds, n, hn, h => by
    rw [hexF]
    split
    · rfl
    · rename_i hc
      refine hexF_neg ds _ (by omega) ?_
      obtain ⟨d, hd, hl⟩ := h
      rcases List.mem_cons.1 hd with rfl | hd
      · exact absurd hl hc
      · exact ⟨d, hd, hl⟩

def dd1 (c : UInt8) : Int := if 48 ≤ c.toNat ∧ c.toNat ≤ 57 then (c.toNat : Int) - 48 else -1
def dd2 (c : UInt8) : Int := if 97 ≤ c.toNat ∧ c.toNat ≤ 102 then (c.toNat : Int) - 87 else dd1 c
def dd3 (c : UInt8) : Int := if 65 ≤ c.toNat ∧ c.toNat ≤ 70 then (c.toNat : Int) - 55 else dd2 c
theorem dd3_hex (c : UInt8) : dd3 c = hexD c := by
  unfold dd3 dd2 dd1 hexD
  repeat' split
  all_goals omega

theorem refFourLoop {b : List UInt8} (hb : b.length ≤ 1000000000) : ∀ (k : Nat) (v : List UInt8) (n : Int) (p : Int) (env : Env) (s : St), v <:+ b → k ≤ v.length → k ≤ 4 → 0 ≤ n → (n + 1) * 16 ^ k ≤ 65536 → env 0 = .str b → env 1 = .int .i64 p → -10 ≤ p → p ≤ 2000000000 →
      p + 4 = ((b.length - v.length : Nat) : Int) + k → env 5 = .int .i64 n → env 6 = .int .i64 ((b.length - v.length : Nat) : Int) →
    Out (evC G (.loop false af67l0) env s) (fun ex env' s' => s' = s ∧ ((hexF n (v.take k) < 0 ∧ ex = .ret ∧ env' 4 = .int .i64 (-1)) ∨ (0 ≤ hexF n (v.take k) ∧ ex = .exit 0 ∧ env' 5 = .int .i64 (hexF n (v.take k))))) := by
  intro k
  induction k with
  | zero =>
    intro v n p env s hv hk hk4 hn hn2 h0 h1 hp0 hp1 hp h5 h6
    have hw : IntKind.i64.wrap (p + 4) = p + 4 := wrap_in (by omega) (by omega)
    have hlt : ¬ ((b.length - v.length : Nat) : Int) < p + 4 := by omega
    refine Out_loop G false _ _ af67l0.eq_1 _ _ _ ?_
    simp [h1, h6, hw, hlt]
    refine Out_cond _ _ _ _ _ _ _ rfl (fun h => by simp at h) (fun _ => ?_)
    simp [h5, hexF, hn]
  | succ k ih =>
    intro v n p env s hv hk hk4 hn hn2 h0 h1 hp0 hp1 hp h5 h6
    have hw : IntKind.i64.wrap (p + 4) = p + 4 := wrap_in (by omega) (by omega)
    have hlt : ((b.length - v.length : Nat) : Int) < p + 4 := by omega
    cases v with
    | nil => simp at hk
    | cons c t =>
      have hlen := suf_len hv
      simp only [List.length_cons] at hlen hk h6 hlt hp
      have hgi := at_get hv
      have hw6 : IntKind.i64.wrap (((b.length - (t.length + 1) : Nat) : Int) + 1) = ((b.length - t.length : Nat) : Int) := by rw [wrap_in (by omega) (by omega)]; omega
      have hcl := byte_lt c
      have wc : IntKind.i64.wrap (c.toNat : Int) = (c.toNat : Int) := wrap_in (by omega) (by omega)
      refine Out_loop G false _ _ af67l0.eq_1 _ _ _ ?_
      simp [h1, h6, hw, hlt]
      refine Out_cond _ _ _ _ _ _ _ rfl (fun _ => ?_) (fun h => by simp at h)
      simp [h0, h6, ↓hgi, wc]
      refine Out.mono (Q := fun ex env' s' => ex = .norm ∧ s' = s ∧ env' 0 = .str b ∧ env' 1 = .int .i64 p ∧ env' 5 = .int .i64 n ∧ env' 6 = .int .i64 ((b.length - (t.length + 1) : Nat) : Int) ∧ env' 7 = .int .i64 (c.toNat : Int) ∧ env' 8 = .int .i64 (dd1 c)) ?_ ?_
      · by_cases a1 : 48 ≤ c.toNat ∧ c.toNat ≤ 57
        · have a2 : (48 : Int) ≤ (c.toNat : Int) := by omega
          have a3 : (c.toNat : Int) ≤ 57 := by omega
          have w1 : IntKind.i64.wrap ((c.toNat : Int) - 48) = (c.toNat : Int) - 48 := wrap_in (by omega) (by omega)
          have e : (dd1 c) = (c.toNat : Int) - 48 := by unfold dd1; rw [if_pos a1]
          rw [e]
          refine Out_cond _ _ _ _ _ _ _ rfl (fun _ => ?_) (fun h => by simp [a2, a3] at h)
          simp [h0, h1, h5, h6, w1]
        · have e : (dd1 c) = (-1) := by unfold dd1; rw [if_neg a1]
          rw [e]
          refine Out_cond _ _ _ _ _ _ _ rfl (fun h => ?_) (fun _ => ?_)
          · exfalso; simp at h; omega
          · simp [h0, h1, h5, h6]
      rintro ex env1 s1 ⟨rfl, hs1, m0, m1, m5, m6, m7, m8⟩
      rw [hs1]
      simp [m7]
      refine Out.mono (Q := fun ex env' s' => ex = .norm ∧ s' = s ∧ env' 0 = .str b ∧ env' 1 = .int .i64 p ∧ env' 5 = .int .i64 n ∧ env' 6 = .int .i64 ((b.length - (t.length + 1) : Nat) : Int) ∧ env' 7 = .int .i64 (c.toNat : Int) ∧ env' 8 = .int .i64 (dd2 c)) ?_ ?_
      · by_cases a1 : 97 ≤ c.toNat ∧ c.toNat ≤ 102
        · have a2 : (97 : Int) ≤ (c.toNat : Int) := by omega
          have a3 : (c.toNat : Int) ≤ 102 := by omega
          have w1 : IntKind.i64.wrap ((c.toNat : Int) - 87) = (c.toNat : Int) - 87 := wrap_in (by omega) (by omega)
          have e : (dd2 c) = (c.toNat : Int) - 87 := by unfold dd2; rw [if_pos a1]
          rw [e]
          refine Out_cond _ _ _ _ _ _ _ rfl (fun _ => ?_) (fun h => by simp [a2, a3] at h)
          simp [m0, m1, m5, m6, m7, w1]
        · have e : (dd2 c) = (dd1 c) := by unfold dd2; rw [if_neg a1]
          rw [e]
          refine Out_cond _ _ _ _ _ _ _ rfl (fun h => ?_) (fun _ => ?_)
          · exfalso; simp at h; omega
          · simp [m0, m1, m5, m6, m7, m8]
      clear m0 m1 m5 m6 m7 m8
      rintro ex env2 s2 ⟨rfl, hs2, m0, m1, m5, m6, m7, m8⟩
      rw [hs2]
      simp [m7]
      refine Out.mono (Q := fun ex env' s' => ex = .norm ∧ s' = s ∧ env' 0 = .str b ∧ env' 1 = .int .i64 p ∧ env' 5 = .int .i64 n ∧ env' 6 = .int .i64 ((b.length - (t.length + 1) : Nat) : Int) ∧ env' 7 = .int .i64 (c.toNat : Int) ∧ env' 8 = .int .i64 (dd3 c)) ?_ ?_
      · by_cases a1 : 65 ≤ c.toNat ∧ c.toNat ≤ 70
        · have a2 : (65 : Int) ≤ (c.toNat : Int) := by omega
          have a3 : (c.toNat : Int) ≤ 70 := by omega
          have w1 : IntKind.i64.wrap ((c.toNat : Int) - 55) = (c.toNat : Int) - 55 := wrap_in (by omega) (by omega)
          have e : (dd3 c) = (c.toNat : Int) - 55 := by unfold dd3; rw [if_pos a1]
          rw [e]
          refine Out_cond _ _ _ _ _ _ _ rfl (fun _ => ?_) (fun h => by simp [a2, a3] at h)
          simp [m0, m1, m5, m6, m7, w1]
        · have e : (dd3 c) = (dd2 c) := by unfold dd3; rw [if_neg a1]
          rw [e]
          refine Out_cond _ _ _ _ _ _ _ rfl (fun h => ?_) (fun _ => ?_)
          · exfalso; simp at h; omega
          · simp [m0, m1, m5, m6, m7, m8]
      clear m0 m1 m5 m6 m7 m8
      rintro ex env3 s3 ⟨rfl, hs3, m0, m1, m5, m6, m7, m8⟩
      rw [hs3]
      have hd3 : dd3 c = hexD c := dd3_hex c
      rw [hd3] at m8
      have hxr := hexD_le c
      simp [m8]
      by_cases hneg : hexD c < 0
      · refine Out_cond _ _ _ _ _ _ _ rfl (fun _ => ?_) (fun h => by simp at h; omega)
        simp [hexF, hneg]
      · have hn3 : n ≤ 65536 := by
          have h16 : (1 : Int) ≤ 16 ^ (k + 1) := Int.pow_pos (by decide)
          have := Int.mul_le_mul_of_nonneg_left h16 (show (0 : Int) ≤ n + 1 by omega)
          omega
        have w2 : IntKind.i64.wrap (n * 16) = n * 16 := wrap_in (by omega) (by omega)
        have w3 : IntKind.i64.wrap (n * 16 + hexD c) = n * 16 + hexD c := wrap_in (by omega) (by omega)
        have hk16 : (n * 16 + hexD c + 1) * 16 ^ k ≤ 65536 := by
          have hp16 : (0 : Int) ≤ 16 ^ k := Int.le_of_lt (Int.pow_pos (by decide))
          have h1 := Int.mul_le_mul_of_nonneg_right (show n * 16 + hexD c + 1 ≤ (n + 1) * 16 by omega) hp16
          have h2 : (n + 1) * 16 * 16 ^ k = (n + 1) * 16 ^ (k + 1) := by rw [Int.pow_succ, Int.mul_assoc, Int.mul_comm 16]
          omega
        refine Out_cond _ _ _ _ _ _ _ rfl (fun h => by simp at h; omega) (fun _ => ?_)
        simp [m5, m6, m8, w2, w3, hw6]
        refine Out.mono (ih t (n * 16 + hexD c) p _ s (suf_tail hv) (by omega) (by omega) (by omega) hk16 (by simp [m0]) (by simp [m1]) hp0 hp1 (by omega) (by simp) (by simp)) ?_
        rintro ex env' s' ⟨a, h⟩
        refine ⟨a, ?_⟩
        simpa [hexF, hneg] using h

/-- Four digits; -1: they aren't there. -/
def fourR (u : List UInt8) : Int := if u.length < 4 then -1 else hexF 0 (u.take 4)

theorem refFour_spec {b u : List UInt8} (hb : b.length ≤ 1000000000) (hu : u <:+ b) (s : St) : call G 67 [.str b, .int .i64 ((b.length - u.length : Nat) : Int)] s = some (.int .i64 (fourR u), s) := by
  have hlen := suf_len hu
  refine call_out (F := af67) rfl rfl ?_
  have w3 : IntKind.i64.wrap ((b.length : Int) - 3) = (b.length : Int) - 3 := wrap_in (by omega) (by omega)
  by_cases h4 : u.length < 4
  · have hc : (b.length : Int) - 3 ≤ ((b.length - u.length : Nat) : Int) := by omega
    simp [af67, af67b, w3, hc]
    refine Out_cond _ _ _ _ _ _ _ rfl (fun _ => ?_) (fun h => by simp at h)
    simp [fourR, h4]
    rw [fin_id _ (v := .int .i64 _) rfl]
    rfl
  · have hc : ¬ (b.length : Int) - 3 ≤ ((b.length - u.length : Nat) : Int) := by omega
    simp [af67, af67b, w3, hc]
    refine Out_cond _ _ _ _ _ _ _ rfl (fun h => by simp at h) (fun _ => ?_)
    simp
    refine Out.mono (refFourLoop hb 4 u 0 ((b.length - u.length : Nat) : Int) _ s hu (by omega) (by omega) (by omega) (by decide) (by simp) (by simp) (by omega) (by omega) (by omega) (by simp) (by simp)) ?_
    rintro ex env' s' ⟨rfl, ⟨h1, rfl, h2⟩ | ⟨h1, rfl, h2⟩⟩
    · have hm : hexF 0 (u.take 4) = -1 := by
        have := hexF_ge (u.take 4) 0 (by omega)
        omega
      simp [h2, fourR, h4, hm]
      rw [fin_id _ (v := .int .i64 _) rfl]
      rfl
    · simp [h2, fourR, h4]
      rw [fin_id _ (v := .int .i64 _) rfl]
      rfl

end Go.Proofs.YtjdppboomglenaaGreatDoor.Eng

/-
  The reference's escapes. No condition.
-/
namespace Go.Proofs.YtjdppboomglenaaGreatDoor.Eng
open Go
set_option linter.unusedSimpArgs false
set_option linter.unusedVariables false

attribute [local simp] evC_reg evC_regD evR_cons evR_nil runR_some regK_some evC_ret evC_skip evC_exit Out_seq Out_blk Out_some seqQ_norm seqQ_ret seqQ_exit blkQ_norm blkQ_ret blkQ_exit loopQ_norm loopQ_ret loopQ_exit
attribute [local simp] stepR evOp put upd_apply X.ev initEnv cells_agg cells_int cells_str cells_bool cells_sl cells_ptr cells_pnil cells_fn cells_map vc_length vc_take vc_plain vc_und toVs_plain toPs_plain toVs_und toPs_und takeN evBin isSh intBin strBin callK resOf packR V.plain plainL V.und undL scK kill dstsO dstsL dstsR ite_some ite_pair ite_vbool evUn evLoad evLen V.real finLoop_false quietK_false kill_none

def sgn : List UInt8 := [34, 92, 47, 98, 102, 110, 114, 116]
def std : List UInt8 := [34, 92, 47, 8, 12, 10, 13, 9]
def findS : List (UInt8 × UInt8) → UInt8 → Option UInt8
  | [], _ => none
  | p :: ps, c => if p.1 = c then some p.2 else findS ps c
def tabS : List (UInt8 × UInt8) := sgn.zip std

theorem refSignLoop (c : UInt8) : ∀ (m i : Nat) (env : Env) (s : St), 8 - i = m → i ≤ 8 → env 9 = .int .i64 i → env 7 = .str sgn → env 8 = .str std → env 6 = .int .u8 c.toNat →
    Out (evC G (.loop false af47l0) env s) (fun ex env' s' => s' = s ∧ match findS (tabS.drop i) c with
      | some x => ex = .ret ∧ env' 4 = .int .i32 x.toNat ∧ env' 5 = .int .i64 2
      | none => ex = .exit 0 ∧ env' 0 = env 0 ∧ env' 1 = env 1 ∧ env' 6 = env 6) := by
  intro m
  induction m with
  | zero =>
    intro i env s hm hi h9 h7 h8 h6
    have : i = 8 := by omega
    subst this
    refine Out_loop G false _ _ af47l0.eq_1 _ _ _ ?_
    simp [h9, h7, sgn]
    refine Out_cond _ _ _ _ _ _ _ rfl (fun h => by simp at h) (fun _ => ?_)
    simp [tabS, sgn, std, findS]
  | succ m ih =>
    intro i env s hm hi h9 h7 h8 h6
    have hlt : i < 8 := by omega
    have hlt' : (i : Int) < 8 := by omega
    have hs : sgn.length = 8 := rfl
    have hd : std.length = 8 := rfl
    have hsi : i < sgn.length := by omega
    have hdi : i < std.length := by omega
    have hg : sgn[((i : Nat) : Int).toNat]? = some sgn[i] := by rw [Int.toNat_natCast]; exact List.getElem?_eq_getElem hsi
    have hg2 : std[((i : Nat) : Int).toNat]? = some std[i] := by rw [Int.toNat_natCast]; exact List.getElem?_eq_getElem hdi
    have hdrop : tabS.drop i = (sgn[i], std[i]) :: tabS.drop (i + 1) := by
      unfold tabS
      rw [List.drop_eq_getElem_cons (by simp [hs, hd]; exact hlt)]
      simp
      rfl
    have hw : IntKind.i64.wrap ((i : Int) + 1) = ((i + 1 : Nat) : Int) := by rw [wrap_in (by omega) (by omega)]; omega
    have hx : ((sgn[i].toNat : Int) = (c.toNat : Int)) ↔ sgn[i] = c := by rw [← UInt8.toNat_inj]; omega
    have hw32 : IntKind.i32.wrap (std[i].toNat : Int) = (std[i].toNat : Int) := by
      have := byte_lt std[i]
      have e : (2 : Int) ^ IntKind.i32.bits = 4294967296 := by decide
      have e' : (2 : Int) ^ (IntKind.i32.bits - 1) = 2147483648 := by decide
      have e'' : IntKind.i32.signed = true := by decide
      unfold IntKind.wrap
      simp only [e, e', e'', Bool.true_and, decide_eq_true_eq, ge_iff_le]
      split <;> omega
    refine Out_loop G false _ _ af47l0.eq_1 _ _ _ ?_
    generalize sgn[i] = a at hg hdrop hx
    generalize std[i] = d at hg2 hdrop hw32
    simp [h9, h7, hs, hlt, hlt']
    refine Out_cond _ _ _ _ _ _ _ rfl (fun _ => ?_) (fun h => by simp at h)
    simp [h9, h7, h6, ↓hg, hx]
    rw [hdrop]
    by_cases ha : a = c
    · refine Out_cond _ _ _ _ _ _ _ rfl (fun _ => ?_) (fun h => by simp [ha] at h)
      simp [h8, h9, ↓hg2, hw32, findS, ha]
    · refine Out_cond _ _ _ _ _ _ _ rfl (fun h => by simp [ha] at h) (fun _ => ?_)
      simp [h9, hw]
      refine Out.mono (ih (i + 1) _ s (by omega) (by omega) (by simp) (by simp [h7]) (by simp [h8]) (by simp [h6])) ?_
      rintro ex env' s' ⟨rfl, h⟩
      refine ⟨rfl, ?_⟩
      simp only [findS]
      rw [if_neg ha]
      revert h
      cases findS (tabS.drop (i + 1)) c with
      | none => intro h; simpa [h6] using h
      | some x => intro h; simpa using h

theorem findS_short (c : UInt8) : shortR c = match findS tabS c with | some x => ((x.toNat : Int), true) | none => (0, false) := by
  have key : ∀ k : Fin 256, shortR (UInt8.ofNat k.val) = match findS tabS (UInt8.ofNat k.val) with | some x => ((x.toNat : Int), true) | none => (0, false) := by decide +kernel
  have := key ⟨c.toNat, c.toNat_lt⟩
  simpa using this

end Go.Proofs.YtjdppboomglenaaGreatDoor.Eng

/-
  The reference's sign 5c: what it stands for. No condition.
-/
namespace Go.Proofs.YtjdppboomglenaaGreatDoor.Eng
open Go
set_option linter.unusedSimpArgs false
set_option linter.unusedVariables false

attribute [local simp] evC_reg evC_regD evR_cons evR_nil runR_some regK_some evC_ret evC_skip evC_exit Out_seq Out_blk Out_some seqQ_norm seqQ_ret seqQ_exit blkQ_norm blkQ_ret blkQ_exit loopQ_norm loopQ_ret loopQ_exit
attribute [local simp] stepR evOp put upd_apply X.ev initEnv cells_agg cells_int cells_str cells_bool cells_sl cells_ptr cells_pnil cells_fn cells_map vc_length vc_take vc_plain vc_und toVs_plain toPs_plain toVs_und toPs_und takeN evBin isSh intBin strBin callK resOf packR V.plain plainL V.und undL scK kill dstsO dstsL dstsR ite_some ite_pair ite_vbool evUn evLoad evLen V.real finLoop_false quietK_false kill_none


theorem unitR_four (l : List UInt8) : unitR l = if l[0]? = some 92 ∧ l[1]? = some 117 then fourR (l.drop 2) else -1 := by
  rcases l with _ | ⟨a, _ | ⟨u, _ | ⟨d1, _ | ⟨d2, _ | ⟨d3, _ | ⟨d4, r⟩⟩⟩⟩⟩⟩ <;> simp [unitR, fourR]
  rw [if_neg (show ¬ r.length + 1 + 1 + 1 + 1 < 4 by omega)]

theorem Out_shed {G : Gp} {c : ACode} {s : St} {Q : AExit → Env → St → Prop} (P : Env → Prop) {env : Env} (h : P env) (k : ∀ env', P env' → Out (evC G c env' s) Q) : Out (evC G c env s) Q := k env h

theorem hexF_lt4 (u : List UInt8) : -1 ≤ fourR u ∧ fourR u < 65536 ∧ (0 ≤ fourR u → 4 ≤ u.length) := by
  unfold fourR
  split
  · exact ⟨by omega, by omega, fun h => by omega⟩
  · refine ⟨hexF_ge _ _ (by omega), hexF_lt _ _ (by omega) ?_, fun _ => by omega⟩
    have : (u.take 4).length = 4 := by simp; omega
    rw [this]; decide

set_option maxHeartbeats 400000 in
theorem refSign_spec {b l : List UInt8} (hb : b.length ≤ 1000000000) (hl : l <:+ b) (h92 : l[0]? = some 92) (s : St) :
    call G 47 [.str b, .int .i64 ((b.length - l.length : Nat) : Int)] s = some (.tup [.int .i32 (escR l).1, .int .i64 (escR l).2], s) := by
  have hlen := suf_len hl
  have hU := unitR_four l
  have hV := unitR_four (l.drop 6)
  have hfu : l.drop 2 <:+ b := (List.drop_suffix 2 l).trans hl
  have hfv : l.drop 8 <:+ b := (List.drop_suffix 8 l).trans hl
  refine call_out (F := af47) rfl rfl ?_
  have w1 : IntKind.i64.wrap ((b.length : Int) - 1) = (b.length : Int) - 1 := wrap_in (by omega) (by omega)
  have hl0 : 0 < l.length := by
    cases l with
    | nil => simp at h92
    | cons x t => simp
  have wa : ∀ k : Nat, k ≤ 10 → IntKind.i64.wrap (((b.length - l.length : Nat) : Int) + (k : Int)) = ((b.length - l.length + k : Nat) : Int) := fun k hk => by rw [wrap_in (by omega) (by omega)]; omega
  have w01 := wa 1 (by omega)
  have w02 := wa 2 (by omega)
  have w06 := wa 6 (by omega)
  have w07 := wa 7 (by omega)
  have w08 := wa 8 (by omega)
  clear wa
  by_cases h1 : l.length ≤ 1
  · have hc : (b.length : Int) - 1 ≤ ((b.length - l.length : Nat) : Int) := by omega
    have hu1 : unitR l = -1 := unitR_short (by omega)
    have hn1 : ¬ 1 < l.length := by omega
    simp [af47, af47b, w1, hc]
    refine Out_cond _ _ _ _ _ _ _ rfl (fun _ => ?_) (fun h => by simp at h)
    simp [escR, hn1, hu1]
    rw [fin_id _ (v := .tup _) rfl]
    rfl
  have hn1 : 1 < l.length := by omega
  have hc : ¬ (b.length : Int) - 1 ≤ ((b.length - l.length : Nat) : Int) := by omega
  obtain ⟨c, hc1⟩ : ∃ c, l[1]? = some c := ⟨_, List.getElem?_eq_getElem hn1⟩
  have gx : ∀ k, k < l.length → b[b.length - l.length + k]? = l[k]? := fun k hk => by
    have h := suf_drop hl
    rw [← List.getElem?_drop, h]
  have g1 : b[((b.length - l.length + 1 : Nat) : Int).toNat]? = some c := by rw [Int.toNat_natCast, gx 1 hn1]; exact hc1
  have lt1 : b.length - l.length + 1 < b.length := by omega
  rw [show ((b.length - l.length + 1 : Nat) : Int) = ((b.length - l.length : Nat) : Int) + 1 by omega] at g1 w01
  have lt1' : ((b.length - l.length : Nat) : Int) + 1 < (b.length : Int) := by omega
  have ge1' : (0 : Int) ≤ ((b.length - l.length : Nat) : Int) + 1 := by omega
  simp at w01
  simp [af47, af47b, w1, hc, w01, ↓g1]
  refine Out_cond _ _ _ _ _ _ _ rfl (fun h => by simp at h) (fun _ => ?_)
  simp [w01, ↓g1, lt1', ge1']
  have hfs := findS_short c
  have hge : (l[1]?).getD 0 = c := by rw [hc1]; rfl
  refine Out.mono (refSignLoop c 8 0 _ s rfl (by omega) rfl rfl rfl rfl) ?_
  rintro ex env' s' ⟨hss, h⟩
  rw [hss]
  rw [List.drop_zero] at h
  cases hf : findS tabS c with
  | some x =>
    rw [hf] at h hfs
    obtain ⟨rfl, h4, h5⟩ := h
    have he : escR l = ((x.toNat : Int), 2) := by
      unfold escR
      rw [hge, hfs, if_pos ⟨hn1, rfl⟩]
    rw [he]
    simp [h4, h5]
    rw [fin_id _ (v := .tup _) rfl]
    rfl
  | none =>
    rw [hf] at h hfs
    obtain ⟨rfl, h0, h1, h6⟩ := h
    simp at h0 h1 h6
    have hE : escR l = if unitR l < 0 ∨ (56320 ≤ unitR l ∧ unitR l ≤ 57343) then (0, 0)
        else if unitR l < 55296 ∨ 57343 < unitR l then (unitR l, 6)
        else if unitR (l.drop 6) < 56320 ∨ 57343 < unitR (l.drop 6) then (0, 0)
        else (65536 + (unitR l - 55296) * 1024 + unitR (l.drop 6) - 56320, 12) := by
      rw [escR, hge, hfs, if_neg (by simp)]
    rw [hE]
    have e117 : ((c.toNat : Int) = 117) ↔ c = 117 := u8eq c 117 (by decide)
    by_cases hu : c = 117
    · subst hu
      have hun : unitR l = fourR (l.drop 2) := by rw [hU, if_pos ⟨h92, hc1⟩]
      clear hU hE
      have hle2 : (l.drop 2).length = l.length - 2 := List.length_drop ..
      have q2 : b.length - (l.drop 2).length = b.length - l.length + 2 := by omega
      have hf4 := refFour_spec hb hfu s
      rw [q2, Int.natCast_add] at hf4
      simp only [Int.cast_ofNat_Int] at hf4
      have hr := hexF_lt4 (l.drop 2)
      rw [hun]
      generalize fourR (l.drop 2) = n at hf4 hr ⊢
      have w02' : IntKind.i64.wrap (((b.length - l.length : Nat) : Int) + 2) = ((b.length - l.length : Nat) : Int) + 2 := w02
      simp only [blkQ_exit, if_true, seqQ_norm]
      simp [h6, h0, h1]
      refine Out_cond _ _ _ _ _ _ _ rfl (fun h => by simp at h) (fun _ => ?_)
      refine Out_shed (P := fun e => e 0 = .str b ∧ e 1 = .int .i64 ((b.length - l.length : Nat) : Int)) (by simp [h0, h1]) ?_
      clear h0 h1 h6
      rintro env' ⟨h0, h1⟩
      simp [h0, h1, w02', hf4]
      by_cases c1 : n < 0
      · refine Out_cond _ _ _ _ _ _ _ rfl (fun _ => ?_) (fun h => by simp [c1] at h)
        simp [c1]
        rw [fin_id _ (v := .tup _) rfl]
        rfl
      refine Out_cond _ _ _ _ _ _ _ rfl (fun h => by simp [c1] at h) (fun _ => ?_)
      refine Out_shed (P := fun e => e 0 = .str b ∧ e 1 = .int .i64 ((b.length - l.length : Nat) : Int) ∧ e 10 = .int .i64 n) (by simp [h0, h1]) ?_
      clear h0 h1
      rintro env' ⟨h0, h1, h10⟩
      have w32 : IntKind.i32.wrap n = n := wrap32 (by omega) (by omega)
      by_cases c2 : n < 55296
      · have c3 : ¬ 56320 ≤ n := by omega
        simp [h10, c1, c2, c3, w32]
        refine Out_cond _ _ _ _ _ _ _ rfl (fun _ => ?_) (fun h => by simp at h)
        simp [h10, w32]
        rw [fin_id _ (v := .tup _) rfl]
        rfl
      by_cases c4 : 57343 < n
      · have c3 : ¬ n ≤ 57343 := by omega
        simp [h10, c1, c2, c3, c4, w32]
        refine Out_cond _ _ _ _ _ _ _ rfl (fun _ => ?_) (fun h => by simp at h)
        simp [h10, w32]
        rw [fin_id _ (v := .tup _) rfl]
        rfl
      have c4' : n ≤ 57343 := by omega
      simp [h10, c1, c2, c4, c4']
      refine Out_cond _ _ _ _ _ _ _ rfl (fun h => by simp at h) (fun _ => ?_)
      refine Out_shed (P := fun e => e 0 = .str b ∧ e 1 = .int .i64 ((b.length - l.length : Nat) : Int) ∧ e 10 = .int .i64 n) (by simp [h0, h1, h10]) ?_
      clear h0 h1 h10
      rintro env' ⟨h0, h1, h10⟩
      by_cases c5 : 56319 < n
      · have c5' : 56320 ≤ n := by omega
        simp [h10, c5, c5']
        refine Out_cond _ _ _ _ _ _ _ rfl (fun _ => ?_) (fun h => by simp at h)
        simp
        rw [fin_id _ (v := .tup _) rfl]
        rfl
      have c5' : ¬ 56320 ≤ n := by omega
      have w7 : IntKind.i64.wrap ((b.length : Int) - 7) = (b.length : Int) - 7 := wrap_in (by omega) (by omega)
      have hfin : ∀ env : Env, env 4 = .int .i32 0 → True := fun _ _ => trivial
      have hdd : (l.drop 6)[0]? = l[6]? := by simp
      have hdd1 : (l.drop 6)[1]? = l[7]? := by simp
      rw [hdd, hdd1, List.drop_drop] at hV
      by_cases c6 : l.length ≤ 7
      · have hc6 : (b.length : Int) - 7 ≤ ((b.length - l.length : Nat) : Int) := by omega
        have hv1 : unitR (l.drop 6) = -1 := unitR_short (by rw [List.length_drop]; omega)
        have hc6' : ¬ ((b.length - l.length : Nat) : Int) < (b.length : Int) - 7 := by omega
        simp [h10, c5, c5', h0, h1, w7, hc6, hc6', hv1]
        refine Out_cond _ _ _ _ _ _ _ rfl (fun _ => ?_) (fun h => by simp at h)
        simp
        rw [fin_id _ (v := .tup _) rfl]
        rfl
      have hc6 : ¬ (b.length : Int) - 7 ≤ ((b.length - l.length : Nat) : Int) := by omega
      obtain ⟨x, hx⟩ : ∃ x, l[6]? = some x := ⟨_, List.getElem?_eq_getElem (by omega)⟩
      obtain ⟨y, hy⟩ : ∃ y, l[7]? = some y := ⟨_, List.getElem?_eq_getElem (by omega)⟩
      have g6 : b[b.length - l.length + 6]? = some x := by rw [gx 6 (by omega), hx]
      have g7 : b[b.length - l.length + 7]? = some y := by rw [gx 7 (by omega), hy]
      have ex92 : ((x.toNat : Int) = 92) ↔ x = 92 := u8eq x 92 (by decide)
      have ey117 : ((y.toNat : Int) = 117) ↔ y = 117 := u8eq y 117 (by decide)
      have w06' : IntKind.i64.wrap (((b.length - l.length : Nat) : Int) + 6) = ((b.length - l.length : Nat) : Int) + 6 := w06
      have w07' : IntKind.i64.wrap (((b.length - l.length : Nat) : Int) + 7) = ((b.length - l.length : Nat) : Int) + 7 := w07
      have w08' : IntKind.i64.wrap (((b.length - l.length : Nat) : Int) + 8) = ((b.length - l.length : Nat) : Int) + 8 := w08
      have t6 : (((b.length - l.length : Nat) : Int) + 6).toNat = b.length - l.length + 6 := by omega
      have t7 : (((b.length - l.length : Nat) : Int) + 7).toNat = b.length - l.length + 7 := by omega
      rw [← t6] at g6
      rw [← t7] at g7
      rw [hx, hy] at hV
      clear hfs hge h92 hc1 g1 lt1 lt1' ge1' w01 w02 w06 w07 w08
      have z6 : (0 : Int) ≤ ((b.length - l.length : Nat) : Int) + 6 := by omega
      have z7 : (0 : Int) ≤ ((b.length - l.length : Nat) : Int) + 7 := by omega
      have y6 : ((b.length - l.length : Nat) : Int) + 6 < (b.length : Int) := by omega
      have y7 : ((b.length - l.length : Nat) : Int) + 7 < (b.length : Int) := by omega
      have hc6' : ((b.length - l.length : Nat) : Int) < (b.length : Int) - 7 := by omega
      simp [h10, c5, c5', h0, h1, w7, hc6, hc6', w06', w07', ↓g6, ↓g7, z6, z7, y6, y7, ex92, ey117]
      by_cases c7 : x = 92 ∧ y = 117
      · obtain ⟨rfl, rfl⟩ := c7
        have hvn : unitR (l.drop 6) = fourR (l.drop 8) := by rw [hV, if_pos ⟨rfl, rfl⟩]
        clear hV
        have q8 : b.length - (l.drop 8).length = b.length - l.length + 8 := by rw [List.length_drop]; omega
        have hf8 := refFour_spec hb hfv s
        rw [q8, Int.natCast_add] at hf8
        simp only [Int.cast_ofNat_Int] at hf8
        have hr8 := hexF_lt4 (l.drop 8)
        rw [hvn]
        generalize fourR (l.drop 8) = m at hf8 hr8 ⊢
        simp
        refine Out_cond _ _ _ _ _ _ _ rfl (fun h => by simp at h) (fun _ => ?_)
        refine Out_shed (P := fun e => e 0 = .str b ∧ e 1 = .int .i64 ((b.length - l.length : Nat) : Int) ∧ e 10 = .int .i64 n) (by simp [h0, h1, h10]) ?_
        clear h0 h1 h10
        rintro env' ⟨h0, h1, h10⟩
        simp [h0, h1, w08', hf8]
        by_cases d1 : m < 56320
        · have d1' : ¬ 56320 ≤ m := by omega
          simp [d1, d1']
          refine Out_cond _ _ _ _ _ _ _ rfl (fun _ => ?_) (fun h => by simp at h)
          simp
          rw [fin_id _ (v := .tup _) rfl]
          rfl
        have d1' : 56320 ≤ m := by omega
        by_cases d2 : 57343 < m
        · have d2' : ¬ m ≤ 57343 := by omega
          simp [d1, d1', d2, d2']
          refine Out_cond _ _ _ _ _ _ _ rfl (fun _ => ?_) (fun h => by simp at h)
          simp
          rw [fin_id _ (v := .tup _) rfl]
          rfl
        have v1 : IntKind.i64.wrap (n - 55296) = n - 55296 := wrap_in (by omega) (by omega)
        have v2 : IntKind.i64.wrap ((n - 55296) * 1024) = (n - 55296) * 1024 := wrap_in (by omega) (by omega)
        have v3 : IntKind.i64.wrap (65536 + (n - 55296) * 1024) = 65536 + (n - 55296) * 1024 := wrap_in (by omega) (by omega)
        have v4 : IntKind.i64.wrap (65536 + (n - 55296) * 1024 + m) = 65536 + (n - 55296) * 1024 + m := wrap_in (by omega) (by omega)
        have v5 : IntKind.i64.wrap (65536 + (n - 55296) * 1024 + m - 56320) = 65536 + (n - 55296) * 1024 + m - 56320 := wrap_in (by omega) (by omega)
        have v6 : IntKind.i32.wrap (65536 + (n - 55296) * 1024 + m - 56320) = 65536 + (n - 55296) * 1024 + m - 56320 := wrap32 (by omega) (by omega)
        have d2' : m ≤ 57343 := by omega
        simp [d1, d1', d2, d2']
        refine Out_cond _ _ _ _ _ _ _ rfl (fun h => by simp at h) (fun _ => ?_)
        simp [h10, v1, v2, v3, v4, v5, v6]
        rw [fin_id _ (v := .tup _) rfl]
        rfl
      · have hv1 : unitR (l.drop 6) = -1 := by rw [hV, if_neg (by simpa using c7)]
        have c8 : x = 92 → ¬ y = 117 := fun h h2 => c7 ⟨h, h2⟩
        by_cases c9 : x = 92
        · simp [hv1, c9, c8 c9]
          refine Out_cond _ _ _ _ _ _ _ rfl (fun _ => ?_) (fun h => by simp at h)
          simp
          rw [fin_id _ (v := .tup _) rfl]
          rfl
        · simp [hv1, c9]
          refine Out_cond _ _ _ _ _ _ _ rfl (fun _ => ?_) (fun h => by simp at h)
          simp
          rw [fin_id _ (v := .tup _) rfl]
          rfl
    · simp [h6, h0, h1, e117, hu]
      refine Out_cond _ _ _ _ _ _ _ rfl (fun _ => ?_) (fun h => by simp at h)
      have hu1 : unitR l = -1 := by rw [hU, if_neg (by rw [hc1]; simp [hu])]
      simp [hu1]
      rw [fin_id _ (v := .tup _) rfl]
      rfl

end Go.Proofs.YtjdppboomglenaaGreatDoor.Eng

/-
  The reference's quoted texts, read. No condition.
-/
namespace Go.Proofs.YtjdppboomglenaaGreatDoor.Eng
open Go
set_option linter.unusedSimpArgs false
set_option linter.unusedVariables false

attribute [local simp] evC_reg evC_regD evR_cons evR_nil runR_some regK_some evC_ret evC_skip evC_exit Out_seq Out_blk Out_some seqQ_norm seqQ_ret seqQ_exit blkQ_norm blkQ_ret blkQ_exit loopQ_norm loopQ_ret loopQ_exit
attribute [local simp] stepR evOp put upd_apply X.ev initEnv cells_agg cells_int cells_str cells_bool cells_sl cells_ptr cells_pnil cells_fn cells_map vc_length vc_take vc_plain vc_und toVs_plain toPs_plain toVs_und toPs_und takeN evBin isSh intBin strBin callK resOf packR V.plain plainL V.und undL scK kill dstsO dstsL dstsR ite_some ite_pair ite_vbool evUn evLoad evLen V.real finLoop_false quietK_false kill_none


theorem decV_lo {c : UInt8} {t : List UInt8} (h : c.toNat < 128) : decV (c :: t) 0 = (c.toNat, 1) := by
  have he : encV c.toNat = [c] := by rw [encV, if_pos h]; exact congrArg (· :: []) (ofNat_eq rfl)
  have := decV_enc c.toNat t ⟨by omega, by omega⟩
  rw [he] at this
  exact this
theorem decV_hi {c : UInt8} {t : List UInt8} (h : 128 ≤ c.toNat) : 128 ≤ (decV (c :: t) 0).1 := by
  have h1 := sizeV_dec (c :: t) 0 (by simp)
  have h2 := decV_le (c :: t) 0 (by simp)
  by_cases hd : decV (c :: t) 0 = (65533, 1)
  · rw [hd]; decide
  · rw [if_neg hd] at h1
    have h3 := size_bytes (c :: t) 0 (by simp) (by rw [h1]; simp only; omega)
    rw [h1] at h3
    rcases h3.2 with ⟨_, _, h4⟩ | ⟨h4, _⟩
    · simp at h4; omega
    · exact h4
theorem decV_take {l : List UInt8} (hne : l ≠ []) (hd : decV l 0 ≠ (65533, 1)) : encV (decV l 0).1 = l.take (decV l 0).2 := by
  have hp := List.length_pos_iff.2 hne
  have h1 := sizeV_dec l 0 hp
  have h2 := decV_le l 0 hp
  rw [if_neg hd] at h1
  have h3 := size_bytes l 0 hp (by rw [h1]; simp only; omega)
  rw [h1] at h3
  exact h3.1
theorem decV_suf {b l : List UInt8} (hl : l <:+ b) (hne : l ≠ []) : decV b (b.length - l.length) = decV l 0 := by
  have hp := List.length_pos_iff.2 hne
  have hlen := suf_len hl
  have h1 := decGo_drop b (b.length - l.length) (by omega)
  have h2 := decGo_drop l 0 hp
  rw [suf_drop hl] at h1
  rw [List.drop_zero] at h2
  rw [← h1, h2]
theorem sizeV_suf {b l : List UInt8} (hl : l <:+ b) (hne : l ≠ []) : sizeV b (b.length - l.length) = if decV l 0 = (65533, 1) then (0, 0) else ((decV l 0).2, (decV l 0).1) := by
  have hp := List.length_pos_iff.2 hne
  have hlen := suf_len hl
  rw [sizeV_dec b _ (by omega), decV_suf hl hne]

theorem refUnqLoop {q : List UInt8} (hq : q.length ≤ 1000000000) : ∀ (f : Nat) (l acc : List UInt8) (env : Env) (s : St), l <:+ q → l.length < f → acc.length + 4 * l.length ≤ 4000000000 → env 0 = .str q → env 5 = .str acc →
    env 6 = .int .i64 ((q.length - l.length : Nat) : Int) →
    Out (evC G (.loop false af20l0) env s) (fun e env' s' => s' = s ∧
      ((e = .exit 0 ∧ env' 0 = .str q ∧ ubody f l acc = .err [] 4) ∨
       (e = .ret ∧ env' 2 = .str (prT (ubody f l acc)) ∧ env' 3 = .int .i64 ((q.length - (ubody f l acc).rest.length : Nat) : Int) ∧ env' 4 = .int .i64 (ubody f l acc).e))) := by
  intro f
  induction f with
  | zero => intro l acc env s hl hf; omega
  | succ f ih =>
    intro l acc env s hl hf hacc h0 h5 h6
    have hlen := suf_len hl
    refine Out_loop G false _ _ af20l0.eq_1 _ _ _ ?_
    cases l with
    | nil =>
      simp [h0, h6]
      refine Out_cond _ _ _ _ _ _ _ rfl (fun h => by cases h) (fun _ => ?_)
      simp [h0, ubody]
    | cons c t =>
      simp only [List.length_cons] at hlen hf hacc h6
      have hlt' : q.length - (t.length + 1) < q.length := by omega
      have hgi := at_get hl
      have e34 : ((c.toNat : Int) = 34) ↔ c = 34 := u8eq c 34 (by decide)
      have e92 : ((c.toNat : Int) = 92) ↔ c = 92 := u8eq c 92 (by decide)
      have e32 : ((c.toNat : Int) < 32) ↔ c.toNat < 32 := by omega
      simp [h0, h6, hlt']
      refine Out_cond _ _ _ _ _ _ _ rfl (fun _ => ?_) (fun h => by cases h)
      refine Out_shed (P := fun e => e 0 = .str q ∧ e 5 = .str acc ∧ e 6 = .int .i64 ((q.length - (t.length + 1) : Nat) : Int)) (by simp [h0, h5, h6]) ?_
      clear h0 h5 h6
      rintro env ⟨h0, h5, h6⟩
      simp [h0, h6, ↓hgi, e34]
      by_cases c1 : c = 34
      · subst c1
        have hw : IntKind.i64.wrap (((q.length - (t.length + 1) : Nat) : Int) + 1) = ((q.length - t.length : Nat) : Int) := by rw [wrap_in (by omega) (by omega)]; omega
        have hd : decV (34 :: t) 0 = (34, 1) := decV_lo (by decide)
        refine Out_cond _ _ _ _ _ _ _ rfl (fun _ => ?_) (fun h => by simp at h)
        simp [h5, h6, hw, ubody, hd, prT, PR.rest, PR.e]
      refine Out_cond _ _ _ _ _ _ _ rfl (fun h => by simp [c1] at h) (fun _ => ?_)
      refine Out_shed (P := fun e => e 0 = .str q ∧ e 5 = .str acc ∧ e 6 = .int .i64 ((q.length - (t.length + 1) : Nat) : Int)) (by simp [h0, h5, h6]) ?_
      clear h0 h5 h6
      rintro env ⟨h0, h5, h6⟩
      simp [h0, h6, ↓hgi, e32]
      have hc0 : ¬ (decV (c :: t) 0).1 = 34 := by
        by_cases hlo : c.toNat < 128
        · rw [decV_lo hlo]
          intro hh
          exact c1 (UInt8.toNat_inj.1 hh)
        · have := decV_hi (t := t) (show 128 ≤ c.toNat by omega)
          omega
      have hne : c :: t ≠ [] := by simp
      by_cases c2 : c.toNat < 32
      · have hd : decV (c :: t) 0 = (c.toNat, 1) := decV_lo (by omega)
        refine Out_cond _ _ _ _ _ _ _ rfl (fun _ => ?_) (fun h => by simp [c2] at h)
        rw [hd] at hc0
        simp at hc0
        simp [h5, h6, ubody, hd, hc0, c2, prT, PR.rest, PR.e]
      have hc32 : ¬ (decV (c :: t) 0).1 < 32 := by
        by_cases hlo : c.toNat < 128
        · rw [decV_lo hlo]; exact c2
        · have := decV_hi (t := t) (show 128 ≤ c.toNat by omega)
          omega
      refine Out_cond _ _ _ _ _ _ _ rfl (fun h => by simp [c2] at h) (fun _ => ?_)
      refine Out_shed (P := fun e => e 0 = .str q ∧ e 5 = .str acc ∧ e 6 = .int .i64 ((q.length - (t.length + 1) : Nat) : Int)) (by simp [h0, h5, h6]) ?_
      clear h0 h5 h6
      rintro env ⟨h0, h5, h6⟩
      simp [h0, h6, ↓hgi, e92]
      by_cases c3 : c = 92
      · have hsg := refSign_spec hq hl (by rw [c3]; rfl) s
        have hlo : c.toNat < 128 := by rw [c3]; decide
        have hd := decV_lo (t := t) hlo
        have hu : ubody (f + 1) (c :: t) acc = if (escR (c :: t)).2 = 0 then .err (c :: t) 4 else ubody f ((c :: t).drop (escR (c :: t)).2) (acc ++ encV (escR (c :: t)).1.toNat) := by
          rw [ubody, if_neg hne, if_neg hc0, if_neg hc32, hd, if_neg (by rw [c3]; decide), if_pos (by rw [c3]; decide)]
        rw [hu]
        have hok := escR_ok (c :: t)
        simp only [List.length_cons] at hsg hok
        refine Out_cond _ _ _ _ _ _ _ rfl (fun _ => ?_) (fun h => by simp [c3] at h)
        refine Out_shed (P := fun e => e 0 = .str q ∧ e 5 = .str acc ∧ e 6 = .int .i64 ((q.length - (t.length + 1) : Nat) : Int)) (by simp [h0, h5, h6]) ?_
        clear h0 h5 h6
        rintro env ⟨h0, h5, h6⟩
        generalize escR (c :: t) = R at hsg hok ⊢
        obtain ⟨R1, R2⟩ := R
        simp only at hsg hok ⊢
        simp [h0, h6, hsg]
        by_cases r0 : R2 = 0
        · subst r0
          refine Out_cond _ _ _ _ _ _ _ rfl (fun _ => ?_) (fun h => by simp at h)
          simp [h6, prT, PR.rest, PR.e]
        · obtain ⟨x, rfl, hx, hR2, hR3⟩ := hok r0
          clear hok
          have hrn := refRune_spec x hx s
          have hel := encV_len x
          have hw : IntKind.i64.wrap (((q.length - (t.length + 1) : Nat) : Int) + (R2 : Int)) = ((q.length - ((c :: t).drop R2).length : Nat) : Int) := by
            rw [List.length_drop, List.length_cons, wrap_in (by omega) (by omega)]; omega
          have hal : ((acc.length + (encV x).length : Nat) : Int) ≤ i64max := by have : i64max = 9223372036854775807 := rfl; omega
          refine Out_cond _ _ _ _ _ _ _ rfl (fun h => by simp [r0] at h) (fun _ => ?_)
          simp at hal
          simp [h5, h6, hrn, hal, hw, r0]
          refine Out.mono (ih ((c :: t).drop R2) (acc ++ encV x) _ s ((List.drop_suffix _ _).trans hl) ?_ ?_ ?_ ?_ ?_) ?_
          · rw [List.length_drop, List.length_cons]; omega
          · rw [List.length_drop, List.length_cons, List.length_append]; omega
          · simp [h0]
          · simp
          · simp
          · rintro e env' s' ⟨hs, h⟩
            exact ⟨hs, h⟩
      · have hc92 : ¬ (decV (c :: t) 0).1 = 92 := by
          by_cases hlo : c.toNat < 128
          · rw [decV_lo hlo]
            intro hh
            exact c3 (UInt8.toNat_inj.1 hh)
          · have := decV_hi (t := t) (show 128 ≤ c.toNat by omega)
            omega
        have hu : ubody (f + 1) (c :: t) acc = if (decV (c :: t) 0).1 = 65533 ∧ (decV (c :: t) 0).2 = 1 then .err (c :: t) 2 else ubody f ((c :: t).drop (decV (c :: t) 0).2) (acc ++ encV (decV (c :: t) 0).1) := by
          rw [ubody, if_neg hne, if_neg hc0, if_neg hc32]
          split
          · rfl
          · first | rfl | rw [if_neg hc92]
        rw [hu]
        have hz := size_spec q (q.length - (c :: t).length) (by omega) (by rw [List.length_cons]; omega) s
        rw [sizeV_suf hl hne] at hz
        simp only [List.length_cons] at hz
        have hdl := decV_le (c :: t) 0 (by simp)
        have htk := decV_take (l := c :: t) hne
        have hel := encV_len (decV (c :: t) 0).1
        simp only [List.length_cons, Nat.zero_add] at hdl
        clear hc0 hc32 hc92 hu
        refine Out_cond _ _ _ _ _ _ _ rfl (fun h => by simp [c3] at h) (fun _ => ?_)
        refine Out_shed (P := fun e => e 0 = .str q ∧ e 5 = .str acc ∧ e 6 = .int .i64 ((q.length - (t.length + 1) : Nat) : Int)) (by simp [h0, h5, h6]) ?_
        clear h0 h5 h6
        rintro env ⟨h0, h5, h6⟩
        generalize decV (c :: t) 0 = D at hz hdl htk hel ⊢
        obtain ⟨D1, D2⟩ := D
        simp only at hz hdl htk hel ⊢
        by_cases r0 : (D1, D2) = (65533, 1)
        · have r1 : D1 = 65533 ∧ D2 = 1 := by simpa using r0
          rw [if_pos r0] at hz
          simp at hz
          simp [h0, h6, hz]
          refine Out_cond _ _ _ _ _ _ _ rfl (fun _ => ?_) (fun h => by simp at h)
          simp [h6, r1, prT, PR.rest, PR.e]
        · have r1 : ¬ (D1 = 65533 ∧ D2 = 1) := by simpa using r0
          have hD2 : ¬ D2 = 0 := by omega
          have htk' := htk r0
          have hw : IntKind.i64.wrap (((q.length - (t.length + 1) : Nat) : Int) + (D2 : Int)) = ((q.length - (t.length + 1) : Nat) : Int) + (D2 : Int) := wrap_in (by omega) (by omega)
          have hp : ((q.length - (t.length + 1) : Nat) : Int) + (D2 : Int) = ((q.length - ((c :: t).drop D2).length : Nat) : Int) := by
            rw [List.length_drop, List.length_cons]; omega
          have hsl : evSlcS (.str q) (some (.int .i64 ((q.length - (t.length + 1) : Nat) : Int))) (some (.int .i64 (((q.length - (t.length + 1) : Nat) : Int) + (D2 : Int)))) = some (.str ((c :: t).take D2)) := by
            have e : (q.take (q.length - (t.length + 1) + D2)).drop (q.length - (t.length + 1)) = (c :: t).take D2 := by
              have h := suf_drop hl
              simp only [List.length_cons] at h
              rw [List.drop_take, h]
              congr 1
              omega
            have e2 : ((q.length - (t.length + 1) : Nat) : Int) + (D2 : Int) = ((q.length - (t.length + 1) + D2 : Nat) : Int) := by omega
            rw [e2]
            simp only [evSlcS, bnd, Int.toNat_natCast]
            rw [if_pos (by omega), if_pos (by omega)]
            simp only
            rw [if_pos (by omega)]
            rw [e]
          have hal : ((acc.length + ((c :: t).take D2).length : Nat) : Int) ≤ i64max := by
            have : i64max = 9223372036854775807 := rfl
            rw [← htk']
            omega
          rw [if_neg r0] at hz
          rw [if_neg r1]
          generalize hE : (c :: t).take D2 = E at *
          simp only at hz
          simp at hal
          simp [h0, h6, hz]
          refine Out_cond _ _ _ _ _ _ _ rfl (fun h => by simp [hD2] at h) (fun _ => ?_)
          simp [h0, h5, h6, hw, hsl, hal]
          refine Out.mono (ih ((c :: t).drop D2) (acc ++ encV D1) _ s ((List.drop_suffix _ _).trans hl) ?_ ?_ ?_ ?_ ?_) ?_
          · rw [List.length_drop, List.length_cons]; omega
          · rw [List.length_drop, List.length_cons, List.length_append]; omega
          · simp [h0]
          · simp [htk']
          · rw [← hp]; simp
          · rintro e env' s' ⟨hs, h⟩
            exact ⟨hs, h⟩

theorem refUnq_spec {q : List UInt8} (hq : q.length ≤ 1000000000) (s : St) :
    call G 20 [.str q] s = some (.tup [.str (prT (punq q)), .int .i64 ((q.length - (punq q).rest.length : Nat) : Int), .int .i64 (punq q).e], s) := by
  refine call_out (F := af20) rfl rfl ?_
  unfold punq
  cases q with
  | nil =>
    simp [af20, af20b]
    refine Out_cond _ _ _ _ _ _ _ rfl (fun _ => ?_) (fun h => by cases h)
    simp [begs, prT, PR.rest, PR.e]
    rw [fin_id _ (v := .tup _) rfl]
    rfl
  | cons c t =>
    have e34 : ((c.toNat : Int) = 34) ↔ c = 34 := u8eq c 34 (by decide)
    have hbg : begs (c :: t) [34] = decide (c = 34) := by simp [begs]
    rw [hbg]
    have hnl : ¬ ((t.length : Int) + 1 = 0) := by omega
    simp [af20, af20b, e34, hnl]
    by_cases c1 : c = 34
    · subst c1
      refine Out_cond _ _ _ _ _ _ _ rfl (fun h => by simp at h) (fun _ => ?_)
      simp
      refine Out.mono (refUnqLoop hq (t.length + 1) t [] _ s (List.suffix_cons _ _) (by omega) (by simp at hq ⊢; omega) (by simp) (by simp) (by simp)) ?_
      rintro e env' s' ⟨hs, ⟨rfl, h0, hU⟩ | ⟨rfl, h2, h3, h4⟩⟩
      · rw [hs, hU]
        simp [h0, prT, PR.rest, PR.e]
        rw [fin_id _ (v := .tup _) rfl]
        rfl
      · rw [hs]
        simp [h2, h3, h4]
        rw [fin_id _ (v := .tup _) rfl]
        rfl
    · refine Out_cond _ _ _ _ _ _ _ rfl (fun _ => ?_) (fun h => by simp [c1] at h)
      simp [c1, prT, PR.rest, PR.e]
      rw [fin_id _ (v := .tup _) rfl]
      rfl

end Go.Proofs.YtjdppboomglenaaGreatDoor.Eng

/-
  The reference's keys. No condition.
-/
namespace Go.Proofs.YtjdppboomglenaaGreatDoor.Eng
open Go
set_option linter.unusedSimpArgs false
set_option linter.unusedVariables false

attribute [local simp] evC_reg evC_regD evR_cons evR_nil runR_some regK_some evC_ret evC_skip evC_exit Out_seq Out_blk Out_some seqQ_norm seqQ_ret seqQ_exit blkQ_norm blkQ_ret blkQ_exit loopQ_norm loopQ_ret loopQ_exit
attribute [local simp] stepR evOp put upd_apply X.ev initEnv cells_agg cells_int cells_str cells_bool cells_sl cells_ptr cells_pnil cells_fn cells_map vc_length vc_take vc_plain vc_und toVs_plain toPs_plain toVs_und toPs_und takeN evBin isSh intBin strBin callK resOf packR V.plain plainL V.und undL scK kill dstsO dstsL dstsR ite_some ite_pair ite_vbool evUn evLoad evLen V.real finLoop_false quietK_false kill_none


/-- A key, and its colon. -/
def pkey (l : List UInt8) (acc : List (List UInt8 × JV)) : PR (List UInt8) :=
  if hd0 (skp l) ≠ 34 then .err (skp l) 4 else
  match punq (skp l) with
  | .err l' e => .err l' e
  | .ok k l' =>
    if (acc.any fun p => decide (p.1 = k)) = true then .err (skp l) 7 else
    match psign 58 l' with
    | .err l2 e => .err l2 e
    | .ok _ l2 => .ok k l2
theorem ppair_key (pv : List UInt8 → PR JV) (l : List UInt8) (acc : List (List UInt8 × JV)) : ppair pv l acc = match pkey l acc with
    | .err l' e => .err l' e
    | .ok k l2 => (pv l2).map fun v => (k, v) := by
  unfold ppair pkey
  split
  · rfl
  · cases punq (skp l) with
    | err l' e => rfl
    | ok k l' =>
      simp only
      split
      · rfl
      · cases psign 58 l' <;> rfl
theorem pkey_fine (l : List UInt8) (acc : List (List UInt8 × JV)) : Fine (pkey l acc) l := by
  unfold pkey
  split
  · exact .of_err (by decide) (skp_suf l)
  · have h := (punq_fine (skp l)).suf (skp_suf l)
    cases hp : punq (skp l) with
    | err l' e => rw [hp] at h; exact .of_err (h.1 _ _ rfl) h.2
    | ok k l' =>
      rw [hp] at h
      simp only
      split
      · exact .of_err (by decide) (skp_suf l)
      · have h2 := (psign_fine 58 l').suf h.2
        cases hq : psign 58 l' with
        | err l2 e => rw [hq] at h2; exact .of_err (h2.1 _ _ rfl) h2.2
        | ok u l2 => rw [hq] at h2; exact .of_ok h2.2

theorem refDupLoop (k n : Int) (b : List UInt8) (l : List JV) (L : List (List UInt8 × JV)) (id idr : Nat) (hL : L.length ≤ 9223372036854775807) (t : List UInt8) (at_ : Int) (s : St)
    (h1 : s.obs[id]? = some (.cells 26 [.int .i64 k, .int .i64 n, .str b, .sl .no (toVs l), .sl .no (toPs L)])) (h2 : s.obs[idr]? = some (.cells 40 (zV ++ [.int .i64 0, .int .i64 0]))) :
    ∀ (m i : Nat) (env : Env), L.length - i = m → i ≤ L.length → env 5 = .ptr id 0 → env 6 = .ptr idr 0 → env 7 = .int .i64 at_ → env 8 = .str t → env 11 = .int .i64 i →
      Out (evC G (.loop false af51l0) env s) (fun e env' s' => (((L.drop i).any fun p => decide (p.1 = t)) = true ∧ e = .ret ∧ env' 6 = .ptr idr 0 ∧ s' = upR s idr (.cells 40 (zV ++ [.int .i64 at_, .int .i64 7]))) ∨
        (((L.drop i).any fun p => decide (p.1 = t)) = false ∧ e = .exit 0 ∧ s' = s ∧ env' 0 = env 0 ∧ env' 6 = .ptr idr 0 ∧ env' 7 = .int .i64 at_ ∧ env' 8 = .str t ∧ env' 9 = env 9)) := by
  intro m
  induction m with
  | zero =>
    intro i env hm hi g5 g6 g7 g8 g11
    have : i = L.length := by omega
    subst this
    refine Out_loop G false _ _ af51l0.eq_1 _ _ _ ?_
    simp [g5, g11, h1, toPs_length]
    refine Out_cond _ _ _ _ _ _ _ rfl (fun h => by simp at h) (fun _ => ?_)
    simp [g6, g7, g8]
  | succ m ihm =>
    intro i env hm hi g5 g6 g7 g8 g11
    have hlt : i < L.length := by omega
    have hdr := List.drop_eq_getElem_cons hlt
    have hwi : IntKind.i64.wrap ((i : Int) + 1) = ((i + 1 : Nat) : Int) := by rw [wrap_in (by omega) (by omega)]; omega
    rw [hdr]
    generalize hp : L[i] = p at *
    obtain ⟨ka, x⟩ := p
    simp only [List.any_cons]
    refine Out_loop G false _ _ af51l0.eq_1 _ _ _ ?_
    simp [g5, g11, h1, toPs_length]
    refine Out_cond _ _ _ _ _ _ _ rfl (fun _ => ?_) (fun h => by simp at h; omega)
    by_cases hk : ka = t
    · simp [g5, g8, g11, h1, toPs_get, List.getElem?_eq_getElem hlt, hp, hk]
      refine Out_cond _ _ _ _ _ _ _ rfl (fun hr => ?_) (fun hr => by simp at hr)
      simp [g6, g7, h2, fillL, putL, evStore, V.one]
    · simp [g5, g8, g11, h1, toPs_get, List.getElem?_eq_getElem hlt, hp, hk]
      refine Out_cond _ _ _ _ _ _ _ rfl (fun hr => by simp at hr) (fun hr => ?_)
      simp [g11, hwi]
      refine Out.mono (ihm (i + 1) _ (by omega) (by omega) (by simp [g5]) (by simp [g6]) (by simp [g7]) (by simp [g8]) (by simp)) ?_
      simp

theorem refKey_spec {b l : List UInt8} (hb : b.length ≤ 1000000000) (hl : l <:+ b) (k n : Int) (ss : List UInt8) (vs : List JV) (acc : List (List UInt8 × JV)) (hacc : acc.length ≤ 9223372036854775807) (s : St) :
    ∃ w at_ e, call G 51 [.str b, .int .i64 ((b.length - l.length : Nat) : Int), toV (.mk k n ss vs acc)] s = some (rdAgg w at_ e, s) ∧ RdV b ((pkey l acc).map fun t => .mk 3 0 t [] []) w at_ e := by
  have key : ∃ q, call G 51 [.str b, .int .i64 ((b.length - l.length : Nat) : Int), toV (.mk k n ss vs acc)] s = some q ∧ (fun v s' => s' = s ∧ ∃ w at_ e, v = rdAgg w at_ e ∧ RdV b ((pkey l acc).map fun t => .mk 3 0 t [] []) w at_ e) q.1 q.2 := by
    refine call_ex (G := G) (f := 51) (F := af51) (T := fun v s' => s' = s ∧ ∃ w at_ e, v = rdAgg w at_ e ∧ RdV b ((pkey l acc).map fun t => .mk 3 0 t [] []) w at_ e) rfl rfl ?_
    have hsk := (skp_suf l).trans hl
    have hlen := suf_len hsk
    have hbl := refBlank_spec hb hl
    have hhas := refHas_spec hb hsk 34
    have hE : ∀ (X : List AObj) (x : V) (w : JV) (at_ e : Int), x.plain = rdAgg w at_ e → RdV b ((pkey l acc).map fun t => .mk 3 0 t [] []) w at_ e → ∃ v s', fin false s ⟨s.obs ++ X, s.bufs⟩ x = (v, s') ∧ s' = s ∧ ∃ w at_ e, v = rdAgg w at_ e ∧ RdV b ((pkey l acc).map fun t => .mk 3 0 t [] []) w at_ e := by
      intro X x w at_ e hx hr
      have hun : (rdAgg w at_ e).und s.obs.length 0 = true := by cases w; simp [vc]
      exact ⟨_, _, fin_s0 _ _ _ (by rw [hx]; exact hun), rfl, w, at_, e, hx, hr⟩
    have h34 : hasB (skp l) 34 = decide (hd0 (skp l) = 34) := by
      unfold hasB hd0
      cases hnn : (skp l)[0]? with
      | none => simp
      | some x => simp
    rw [h34] at hhas
    unfold pkey at hE ⊢
    by_cases c1 : hd0 (skp l) = 34
    · rw [if_neg (by simp [c1])] at hE ⊢
      simp [c1] at hhas
      have hsl : evSlcS (.str b) (some (.int .i64 ((b.length - (skp l).length : Nat) : Int))) none = some (.str (skp l)) := by
        simp [evSlcS, bnd, suf_drop hsk]
      have hunq := refUnq_spec (q := skp l) (by omega)
      have hfine := punq_fine (skp l)
      simp [af51, af51b, hbl, hhas, vc]
      refine Out_cond _ _ _ _ _ _ _ rfl (fun h => by simp at h) (fun _ => ?_)
      cases hP : punq (skp l) with
      | err l' e =>
        rw [hP] at hunq hfine hE
        have he := hfine.1 _ _ rfl
        have hsuf := suf_len hfine.2
        simp only [PR.rest, prT, PR.e] at hunq hsuf
        have hw : IntKind.i64.wrap (((b.length - (skp l).length : Nat) : Int) + (((skp l).length - l'.length : Nat) : Int)) = ((b.length - l'.length : Nat) : Int) := by rw [wrap_in (by omega) (by omega)]; omega
        simp [hsl, hunq, he, hw]
        refine Out_cond _ _ _ _ _ _ _ rfl (fun _ => ?_) (fun h => by simp [he] at h)
        simp [hw, fillL, putL, evStore, V.one]
        exact hE _ _ jNull _ _ (by simp [jNull, vc, toVs, toPs]) ⟨rfl, rfl⟩
      | ok t l' =>
        rw [hP] at hunq hfine hE
        have hsuf := suf_len hfine.2
        simp only [PR.rest, prT, PR.e] at hunq hsuf
        have hl' : l' <:+ b := hfine.2.trans hsk
        have hw : IntKind.i64.wrap (((b.length - (skp l).length : Nat) : Int) + (((skp l).length - l'.length : Nat) : Int)) = ((b.length - l'.length : Nat) : Int) := by rw [wrap_in (by omega) (by omega)]; omega
        simp [hsl, hunq]
        refine Out_cond _ _ _ _ _ _ _ rfl (fun h => by simp at h) (fun _ => ?_)
        have hob1 : (s.obs ++ [AObj.cells 26 [.int .i64 k, .int .i64 n, .str ss, .sl .no (toVs vs), .sl .no (toPs acc)], .cells 40 (zV ++ [.int .i64 0, .int .i64 0])])[s.obs.length]? = some (.cells 26 [.int .i64 k, .int .i64 n, .str ss, .sl .no (toVs vs), .sl .no (toPs acc)]) := by simp
        have hob2 : (s.obs ++ [AObj.cells 26 [.int .i64 k, .int .i64 n, .str ss, .sl .no (toVs vs), .sl .no (toPs acc)], .cells 40 (zV ++ [.int .i64 0, .int .i64 0])])[s.obs.length + 1]? = some (.cells 40 (zV ++ [.int .i64 0, .int .i64 0])) := by simp
        simp
        refine Out.mono (refDupLoop k n ss vs acc s.obs.length (s.obs.length + 1) hacc t ((b.length - (skp l).length : Nat) : Int) _ hob1 hob2 acc.length 0 _ (by omega) (by omega) (by simp) (by simp) (by simp) (by simp) (by simp)) ?_
        rintro ex env1 s1 (⟨hd, rfl, g6, rfl⟩ | ⟨hd, rfl, rfl, g0, g6, g7, g8, g9⟩)
        · rw [List.drop_zero] at hd
          simp only [hd, if_true] at hE ⊢
          simp [g6, upR]
          exact hE _ _ jNull _ _ (by simp [jNull, vc, toVs, toPs]) ⟨rfl, rfl⟩
        · rw [List.drop_zero] at hd
          simp only [hd, Bool.false_eq_true, if_false] at hE ⊢
          simp at g0 g9
          have hbl2 := refBlank_spec hb hl'
          have hsk2 := (skp_suf l').trans hl'
          have hlen2 := suf_len hsk2
          have hhas2 := refHas_spec hb hsk2 58
          have h58 : hasB (skp l') 58 = decide (hd0 (skp l') = 58) := by
            unfold hasB hd0
            cases hnn : (skp l')[0]? with
            | none => simp
            | some x => simp
          rw [h58] at hhas2
          by_cases c2 : hd0 (skp l') = 58
          · rw [decide_eq_true c2] at hhas2
            simp at hhas2
            obtain ⟨t2, ht2⟩ : ∃ t2, skp l' = 58 :: t2 := by
              cases hs2 : skp l' with
              | nil => rw [hs2] at c2; cases c2
              | cons x t2 => rw [hs2] at c2; exact ⟨t2, by rw [show x = 58 from c2]⟩
            have hps : psign 58 l' = .ok () t2 := by unfold psign; rw [ht2]; simp
            rw [hps] at hE ⊢
            rw [ht2] at hhas2 hbl2 hlen2
            simp only [List.length_cons] at hhas2 hbl2 hlen2
            have hw2 : IntKind.i64.wrap (((b.length - (t2.length + 1) : Nat) : Int) + 1) = ((b.length - t2.length : Nat) : Int) := by rw [wrap_in (by omega) (by omega)]; omega
            simp [g0, g7, g9, hw, hbl2, hhas2]
            refine Out_cond _ _ _ _ _ _ _ rfl (fun h => by simp at h) (fun _ => ?_)
            simp [g6, g8, hw2, fillL, putL, evStore, V.one]
            exact hE _ _ (.mk 3 0 t [] []) _ _ (by simp [vc, toVs, toPs]) ⟨rfl, rfl, rfl⟩
          · have hps : psign 58 l' = .err (skp l') 4 := by
              unfold psign
              cases hs2 : skp l' with
              | nil => rfl
              | cons x t2 =>
                rw [hs2] at c2
                simp only
                exact if_neg c2
            rw [hps] at hE ⊢
            simp [c2] at hhas2
            simp [g0, g7, g9, hw, hbl2, hhas2]
            refine Out_cond _ _ _ _ _ _ _ rfl (fun _ => ?_) (fun h => by simp at h)
            simp [g6, fillL, putL, evStore, V.one]
            exact hE _ _ jNull _ _ (by simp [jNull, vc, toVs, toPs]) ⟨rfl, rfl⟩
    · rw [if_pos c1] at hE ⊢
      simp [c1] at hhas
      simp [af51, af51b, hbl, hhas, vc]
      refine Out_cond _ _ _ _ _ _ _ rfl (fun _ => ?_) (fun h => by simp at h)
      simp [fillL, putL, evStore, V.one]
      exact hE _ _ jNull _ _ (by simp [jNull, vc, toVs, toPs]) ⟨rfl, rfl⟩
  obtain ⟨⟨v, s'⟩, hc, h1, w, at_, e, h2, h3⟩ := key
  simp only at h1 h2
  subst h1 h2
  exact ⟨w, at_, e, hc, h3⟩

end Go.Proofs.YtjdppboomglenaaGreatDoor.Eng

/-
  The reference's lists and objects. No condition.
-/
namespace Go.Proofs.YtjdppboomglenaaGreatDoor.Eng
open Go
set_option linter.unusedSimpArgs false
set_option linter.unusedVariables false

attribute [local simp] evC_reg evC_regD evR_cons evR_nil runR_some regK_some evC_ret evC_skip evC_exit Out_seq Out_blk Out_some seqQ_norm seqQ_ret seqQ_exit blkQ_norm blkQ_ret blkQ_exit loopQ_norm loopQ_ret loopQ_exit
attribute [local simp] stepR evOp put upd_apply X.ev initEnv cells_agg cells_int cells_str cells_bool cells_sl cells_ptr cells_pnil cells_fn cells_map vc_length vc_take vc_plain vc_und toVs_plain toPs_plain toVs_und toPs_und takeN evBin isSh intBin strBin callK resOf packR V.plain plainL V.und undL scK kill dstsO dstsL dstsR ite_some ite_pair ite_vbool evUn evLoad evLen V.real finLoop_false quietK_false kill_none


theorem Out_shed2 {G : Gp} {c : ACode} {Q : AExit → Env → St → Prop} (P : Env → St → Prop) {env : Env} {s : St} (h : P env s) (k : ∀ env' s', P env' s' → Out (evC G c env' s') Q) : Out (evC G c env s) Q := k env s h
theorem fin_tk {s s' : St} {v : V} (h1 : s'.obs.take s.obs.length = s.obs) (h2 : s'.bufs.take s.bufs.length = s.bufs) (hv : v.plain.und s.obs.length 0 = true) : fin false s s' v = (v.plain, s) := by
  unfold fin
  simp [h1, h2, hv]
theorem take_app {α : Type} {l m : List α} {n : Nat} (h : n ≤ l.length) : (l ++ m).take n = l.take n := List.take_append_of_le_length h
theorem take_setge {α : Type} {l : List α} {i n : Nat} (x : α) (h : n ≤ i) : (l.set i x).take n = l.take n := by
  rw [List.take_set_of_le h]

/-- What is read so far: of a list the keys are empty. -/
def mkO (o : Bool) (B : List (Nat × Nat × TypeId)) (acc : List (List UInt8 × JV)) : List V :=
  if o = true then mkP (.sl (ownOf B acc) (toPs acc)) else mkL (.sl (ownOf B acc) (toVs (acc.map Prod.snd)))
def exO (o : Bool) (acc : List (List UInt8 × JV)) : List (Nat × Nat × TypeId) := if o = true then exOf (96, 49) acc else exOf (80, 26) acc
def jO (o : Bool) (acc : List (List UInt8 × JV)) : JV := if o = true then .mk 5 0 [] [] acc else .mk 4 0 [] (acc.map Prod.snd) []
def p1O (o : Bool) (d : Nat) (l : List UInt8) (acc : List (List UInt8 × JV)) : PR (List UInt8 × JV) := if o = true then ppair (pval d) l acc else (pval d l).map fun v => ([], v)
def enO (o : Bool) : UInt8 := if o = true then 125 else 93
abbrev z7 : List V := zV ++ [.int .i64 0, .int .i64 0]

/-- What is said of the reference's values at a depth. -/
def RSpec (b : List UInt8) (d : Nat) : Prop := ∀ (l : List UInt8) (s : St), l <:+ b → ∃ w at_ e, call G 12 [.str b, .int .i64 ((b.length - l.length : Nat) : Int), .int .i64 (d : Int)] s = some (rdAgg w at_ e, s) ∧ RdV b (pval d l) w at_ e

structure LInv (s : St) (b : List UInt8) (o : Bool) (d : Nat) (acc : List (List UInt8 × JV)) (env : Env) (s1 : St) : Prop where
  e0 : env 0 = .str b
  e2 : env 2 = .int .i64 ((d + 1 : Nat) : Int)
  e6 : env 6 = .ptr s.obs.length 0
  e7 : env 7 = .int .u8 (enO o).toNat
  e8 : env 8 = .ptr (s.obs.length + 1) 0
  tk : s1.obs.take s.obs.length = s.obs
  ln : s.obs.length + 1 < s1.obs.length
  o6 : s1.obs[s.obs.length]? = some (.cells 40 z7)
  o8 : s1.obs[s.obs.length + 1]? = some (.cells 26 (mkO o s.bufs acc))
  bf : s1.bufs = s.bufs ++ exO o acc

structure LEnd (s : St) (b : List UInt8) (p : PR JV) (env : Env) (s1 : St) : Prop where
  e6 : env 6 = .ptr s.obs.length 0
  tk : s1.obs.take s.obs.length = s.obs
  bf : s1.bufs.take s.bufs.length = s.bufs
  res : ∃ cs w at_ e, s1.obs[s.obs.length]? = some (.cells 40 cs) ∧ cs.length = 7 ∧ plainL cs = vc w ++ [.int .i64 at_, .int .i64 e] ∧ RdV b p w at_ e

theorem app_own {α : Type} (enc : List α → List V) (h0 : enc [] = []) (hlen : ∀ a, (enc a).length = a.length) (sz by_ : Nat) (t : TypeId) (o : Own) (z : V) (hf : ∀ a, fits sz (enc a) = true) (hz : z.cells.length = sz)
    (acc : List α) (hr : (acc.length + 1) * by_ ≤ room) (obs : List AObj) (B : List (Nat × Nat × TypeId)) :
    evApp false sz (by_, t) (.sl (ownOf B acc) (enc acc)) (.sl o [z]) ⟨obs, B ++ exOf (by_, t) acc⟩ = some (.sl (.buf B.length) (enc acc ++ [z]), ⟨obs, B ++ [(acc.length + 1, by_, t)]⟩) := by
  have hfz : fits sz [z] = true := by rw [fits1, hz]; simp
  by_cases ha : acc = []
  · subst ha
    have : by_ ≤ room := by simpa using hr
    simp [evApp, appSrc, ownOf, exOf, h0, fits0, hfz, this]
  · have h1 := hlen acc
    simp [evApp, appSrc, ownOf, exOf, ha, hf, hfz, h1, hr]

theorem app_L (acc : List JV) (v : JV) (o : Own) (hr : acc.length ≤ 1000000000) (obs : List AObj) (B : List (Nat × Nat × TypeId)) :
    evApp false 5 (80, 26) (.sl (ownOf B acc) (toVs acc)) (.sl o [toV v]) ⟨obs, B ++ exOf (80, 26) acc⟩ = some (.sl (.buf B.length) (toVs (acc ++ [v])), ⟨obs, B ++ [(acc.length + 1, 80, 26)]⟩) := by
  have hroom : room = 140737488355328 := by decide
  rw [app_own toVs rfl toVs_length 5 80 26 o (toV v) fits_toVs (by rw [cells_agg, vc_length]) acc (by rw [hroom]; omega) obs B, toVs_app]
theorem app_P (acc : List (List UInt8 × JV)) (v : List UInt8 × JV) (o : Own) (hr : acc.length ≤ 1000000000) (obs : List AObj) (B : List (Nat × Nat × TypeId)) :
    evApp false 6 (96, 49) (.sl (ownOf B acc) (toPs acc)) (.sl o [pv v]) ⟨obs, B ++ exOf (96, 49) acc⟩ = some (.sl (.buf B.length) (toPs (acc ++ [v])), ⟨obs, B ++ [(acc.length + 1, 96, 49)]⟩) := by
  have hroom : room = 140737488355328 := by decide
  rw [app_own toPs rfl toPs_length 6 96 49 o (pv v) fits_toPs (by simp [pv, vc_length]) acc (by rw [hroom]; omega) obs B, toPs_app]

theorem mkO_app (o : Bool) (B : List (Nat × Nat × TypeId)) (acc : List (List UInt8 × JV)) (v : List UInt8 × JV) :
    mkO o B (acc ++ [v]) = if o = true then mkP (.sl (.buf B.length) (toPs (acc ++ [v]))) else mkL (.sl (.buf B.length) (toVs (acc.map Prod.snd ++ [v.2]))) := by
  simp [mkO, ownOf]
theorem exO_app (o : Bool) (acc : List (List UInt8 × JV)) (v : List UInt8 × JV) : exO o (acc ++ [v]) = if o = true then [(acc.length + 1, 96, 49)] else [(acc.length + 1, 80, 26)] := by
  simp [exO, exOf]

theorem mkO_plain (o : Bool) (B : List (Nat × Nat × TypeId)) (acc : List (List UInt8 × JV)) : plainL (mkO o B acc) = vc (jO o acc) := by
  cases o <;> simp [mkO, jO, mkP, mkL, vc, toVs, toPs]

end Go.Proofs.YtjdppboomglenaaGreatDoor.Eng

/-
  The reference's lists and objects: the loop. No condition.
-/
namespace Go.Proofs.YtjdppboomglenaaGreatDoor.Eng
open Go
set_option linter.unusedSimpArgs false
set_option linter.unusedVariables false

attribute [local simp] evC_reg evC_regD evR_cons evR_nil runR_some regK_some evC_ret evC_skip evC_exit Out_seq Out_blk Out_some seqQ_norm seqQ_ret seqQ_exit blkQ_norm blkQ_ret blkQ_exit loopQ_norm loopQ_ret loopQ_exit
attribute [local simp] stepR evOp put upd_apply X.ev initEnv cells_agg cells_int cells_str cells_bool cells_sl cells_ptr cells_pnil cells_fn cells_map vc_length vc_take vc_plain vc_und toVs_plain toPs_plain toVs_und toPs_und takeN evBin isSh intBin strBin callK resOf packR V.plain plainL V.und undL scK kill dstsO dstsL dstsR ite_some ite_pair ite_vbool evUn evLoad evLen V.real finLoop_false quietK_false kill_none


theorem hasB_hd (l : List UInt8) (c : UInt8) (hc : c ≠ 0) : hasB l c = decide (hd0 l = c) := by
  unfold hasB hd0
  cases hnn : l[0]? with
  | none => simp; exact Ne.symm hc
  | some x => simp

theorem get_appl {α : Type} {l : List α} {i : Nat} {x : α} (h : l[i]? = some x) (m : List α) : (l ++ m)[i]? = some x := by
  rw [List.getElem?_append_left (List.getElem?_eq_some_iff.1 h).1]; exact h
theorem get_app_end {α : Type} (l : List α) (x : α) : (l ++ [x])[l.length]? = some x := by simp
theorem get_setne {α : Type} {l : List α} {i j : Nat} {x : α} (h : l[i]? = some x) (y : α) (hij : j ≠ i) : (l.set j y)[i]? = some x := by
  rw [List.getElem?_set_ne hij]; exact h
theorem get_set {α : Type} {l : List α} {i : Nat} {x : α} (h : l[i]? = some x) (y : α) : (l.set i y)[i]? = some y :=
  List.getElem?_set_self (List.getElem?_eq_some_iff.1 h).1

/-- A call's answer is laid into an object of its own. -/
theorem LInv.junk {s : St} {b : List UInt8} {o : Bool} {d : Nat} {acc : List (List UInt8 × JV)} {env env' : Env} {s1 : St} (h : LInv s b o d acc env s1) (x : AObj)
    (g0 : env' 0 = env 0) (g2 : env' 2 = env 2) (g6 : env' 6 = env 6) (g7 : env' 7 = env 7) (g8 : env' 8 = env 8) : LInv s b o d acc env' ⟨s1.obs ++ [x], s1.bufs⟩ :=
  ⟨by rw [g0]; exact h.e0, by rw [g2]; exact h.e2, by rw [g6]; exact h.e6, by rw [g7]; exact h.e7, by rw [g8]; exact h.e8,
    (take_app (by have := h.ln; omega)).trans h.tk, by have := h.ln; simp; omega, get_appl h.o6 _, get_appl h.o8 _, h.bf⟩
theorem LInv.env {s : St} {b : List UInt8} {o : Bool} {d : Nat} {acc : List (List UInt8 × JV)} {env env' : Env} {s1 : St} (h : LInv s b o d acc env s1)
    (g0 : env' 0 = env 0) (g2 : env' 2 = env 2) (g6 : env' 6 = env 6) (g7 : env' 7 = env 7) (g8 : env' 8 = env 8) : LInv s b o d acc env' s1 :=
  ⟨by rw [g0]; exact h.e0, by rw [g2]; exact h.e2, by rw [g6]; exact h.e6, by rw [g7]; exact h.e7, by rw [g8]; exact h.e8, h.tk, h.ln, h.o6, h.o8, h.bf⟩
/-- The answer stands. -/
theorem LInv.fin {s : St} {b : List UInt8} {o : Bool} {d : Nat} {acc : List (List UInt8 × JV)} {env env' : Env} {s1 : St} {p : PR JV} (h : LInv s b o d acc env s1) (cs : List V) (w : JV) (at_ e : Int)
    (g6 : env' 6 = env 6) (hl : cs.length = 7) (hp : plainL cs = vc w ++ [.int .i64 at_, .int .i64 e]) (hr : RdV b p w at_ e) (X : List AObj) :
    LEnd s b p env' ⟨(s1.obs ++ X).set s.obs.length (.cells 40 cs), s1.bufs⟩ :=
  ⟨by rw [g6]; exact h.e6, by simp only; rw [take_setge _ (Nat.le_refl _), take_app (by have := h.ln; omega)]; exact h.tk,
    by simp only [h.bf]; exact List.take_left, cs, w, at_, e, get_set (get_appl h.o6 _) _, hl, hp, hr⟩
theorem LInv.fin0 {s : St} {b : List UInt8} {o : Bool} {d : Nat} {acc : List (List UInt8 × JV)} {env env' : Env} {s1 : St} {p : PR JV} (h : LInv s b o d acc env s1) (cs : List V) (w : JV) (at_ e : Int)
    (g6 : env' 6 = env 6) (hl : cs.length = 7) (hp : plainL cs = vc w ++ [.int .i64 at_, .int .i64 e]) (hr : RdV b p w at_ e) :
    LEnd s b p env' ⟨s1.obs.set s.obs.length (.cells 40 cs), s1.bufs⟩ := by
  have := h.fin (env' := env') cs w at_ e g6 hl hp hr []
  simpa using this

theorem LInv.appd {s : St} {b : List UInt8} {o : Bool} {d : Nat} {acc : List (List UInt8 × JV)} {env env' : Env} {s1 : St} (h : LInv s b o d acc env s1) (v : List UInt8 × JV)
    (g0 : env' 0 = env 0) (g2 : env' 2 = env 2) (g6 : env' 6 = env 6) (g7 : env' 7 = env 7) (g8 : env' 8 = env 8) {cs : List V} (hc : cs = mkO o s.bufs (acc ++ [v])) {bufs' : List (Nat × Nat × TypeId)} (hb : bufs' = s.bufs ++ exO o (acc ++ [v])) :
    LInv s b o d (acc ++ [v]) env' ⟨s1.obs.set (s.obs.length + 1) (.cells 26 cs), bufs'⟩ :=
  ⟨by rw [g0]; exact h.e0, by rw [g2]; exact h.e2, by rw [g6]; exact h.e6, by rw [g7]; exact h.e7, by rw [g8]; exact h.e8,
    by simp only; rw [take_setge _ (Nat.le_succ _)]; exact h.tk, by have := h.ln; simpa using this, get_setne h.o6 _ (by omega), by rw [← hc]; exact get_set h.o8 _, hb⟩

theorem refListLoop {b : List UInt8} {d : Nat} (hv : RSpec b d) (hb : b.length ≤ 1000000000) (hd : d ≤ 1000) (o : Bool) (s : St) : ∀ (k : Nat) (l : List UInt8) (acc : List (List UInt8 × JV)) (env : Env) (s1 : St), l.length < k → l <:+ b → acc.length + l.length ≤ b.length →
    env 1 = .int .i64 ((b.length - l.length : Nat) : Int) → LInv s b o d acc env s1 →
    Out (evC G (.loop false af23l0) env s1) (fun ex env' s' => ex = .ret ∧ LEnd s b ((plist (p1O o d) (enO o) k l acc).map (jO o)) env' s') := by
  intro k
  induction k with
  | zero => intro l acc env s1 hk; omega
  | succ k ih =>
    intro l acc env s1 hk hl hlen h1 hI
    have hll := suf_len hl
    have hle : ((b.length - l.length : Nat) : Int) ≤ (b.length : Int) := by omega
    have hle' : b.length - l.length ≤ b.length := by omega
    refine Out_loop G false _ _ af23l0.eq_1 _ _ _ ?_
    simp [hI.e0, h1, hle, hle']
    refine Out_cond _ _ _ _ _ _ _ rfl (fun _ => ?_) (fun h => by simp at h)
    refine Out_shed2 (P := fun e s' => e 1 = .int .i64 ((b.length - l.length : Nat) : Int) ∧ LInv s b o d acc e s') ⟨by simp [h1], hI.env rfl rfl rfl rfl rfl⟩ ?_
    clear h1 hI
    rintro env s2 ⟨h1, hI⟩
    have hkd : ∃ k5 r5, mkO o s.bufs acc = .int .i64 k5 :: r5 ∧ (k5 = 5 ↔ o = true) := by cases o <;> simp [mkO, mkP, mkL]
    obtain ⟨k5, r5, hk5, hk6⟩ := hkd
    have ho8 := hI.o8
    rw [hk5] at ho8
    simp [hI.e8, ho8, hk6]
    refine Out.mono (Q := fun ex env' s' => (ex = .ret ∧ LEnd s b ((plist (p1O o d) (enO o) (k + 1) l acc).map (jO o)) env' s') ∨ (ex = .norm ∧ ∃ key l1, l1 <:+ l ∧ env' 1 = .int .i64 ((b.length - l1.length : Nat) : Int) ∧ env' 9 = .str key ∧ LInv s b o d acc env' s' ∧ p1O o d l acc = (pval d l1).map fun v => (key, v))) ?_ ?_
    · cases o with
      | false =>
        refine Out_cond _ _ _ _ _ _ _ rfl (fun h => by simp at h) (fun _ => ?_)
        simp
        exact ⟨[], l, List.suffix_refl _, by simp [h1], rfl, hI.env rfl rfl rfl rfl rfl, rfl⟩
      | true =>
        refine Out_cond _ _ _ _ _ _ _ rfl (fun _ => ?_) (fun h => by simp at h)
        have hkey := refKey_spec hb hl 5 0 [] [] acc (by omega) s2
        have hfin := fun env' => hI.fin (env' := env') (p := (plist (p1O true d) (enO true) (k + 1) l acc).map (jO true))
        have hfine := pkey_fine l acc
        obtain ⟨w, at_, e, hc, hr⟩ := hkey
        have hmk : mkO true s.bufs acc = [.int .i64 5, .int .i64 0, .str [], .sl .nil [], .sl (ownOf s.bufs acc) (toPs acc)] := rfl
        have ho8 := hI.o8
        rw [hmk] at ho8
        have hpl : plist (p1O true d) (enO true) (k + 1) l acc = match p1O true d l acc with
            | .err l' e => .err l' e
            | .ok v l' => if hd0 (skp l') = 44 then plist (p1O true d) (enO true) k ((skp l').drop 1) (acc ++ [v]) else (psign (enO true) l').map fun _ => acc ++ [v] := by rw [plist]; cases p1O true d l acc <;> rfl
        have hp1 : p1O true d l acc = ppair (pval d) l acc := rfl
        rw [hp1, ppair_key] at hpl
        cases hK : pkey l acc with
        | err l' e' =>
          rw [hK] at hr hpl hfine
          obtain ⟨rfl, rfl⟩ := hr
          have he := hfine.1 _ _ rfl
          simp only at hpl
          rw [hpl] at hfin
          obtain ⟨k1, n1, ss1, L1, F1⟩ := w
          simp only [toV, rdAgg, vc, toVs, List.cons_append, List.nil_append] at hc
          simp [hI.e0, h1, hI.e8, ho8, hc, evStore, V.one, putL]
          refine Out_cond _ _ _ _ _ _ _ rfl (fun _ => ?_) (fun h => by simp [he] at h)
          simp [hI.e6, get_appl hI.o6, evStore, V.one, putL, hpl]
          exact hfin _ _ (.mk k1 n1 ss1 L1 F1) _ _ (by simp) rfl (by simp [vc]) ⟨rfl, rfl⟩ _
        | ok key l1 =>
          rw [hK] at hr hfine
          obtain ⟨rfl, rfl, rfl⟩ := hr
          simp only [toV, rdAgg, vc, toVs, List.cons_append, List.nil_append] at hc
          simp [hI.e0, h1, hI.e8, ho8, hc, evStore, V.one, putL]
          refine Out_cond _ _ _ _ _ _ _ rfl (fun h => by simp at h) (fun _ => ?_)
          simp
          exact ⟨key, l1, hfine.2, rfl, rfl, hI.junk _ rfl rfl rfl rfl rfl, by rw [hp1, ppair_key, hK]⟩
    rintro ex env3 s3 (⟨rfl, hE⟩ | ⟨rfl, key, l1, hl1, g1, g9, hJ, hp1⟩)
    · simp
      exact hE
    clear hI h1 ho8 hk5 hk6
    have hl1b := hl1.trans hl
    have hl1l := suf_len hl1
    have hw2 : IntKind.i64.wrap (((d + 1 : Nat) : Int) - 1) = (d : Int) := by rw [wrap_in (by omega) (by omega)]; omega
    obtain ⟨w, at_, e, hc, hr⟩ := hv l1 s3 hl1b
    have hfine := pval_fine d l1
    have hfin := fun env' => hJ.fin (env' := env') (p := (plist (p1O o d) (enO o) (k + 1) l acc).map (jO o))
    have hpl : plist (p1O o d) (enO o) (k + 1) l acc = match p1O o d l acc with
        | .err l' e => .err l' e
        | .ok v l' => if hd0 (skp l') = 44 then plist (p1O o d) (enO o) k ((skp l').drop 1) (acc ++ [v]) else (psign (enO o) l').map fun _ => acc ++ [v] := by rw [plist]; cases p1O o d l acc <;> rfl
    rw [hp1] at hpl
    have hge2 := hJ.e2
    simp only [Int.natCast_add, Int.cast_ofNat_Int] at hge2 hw2
    have hw2' : IntKind.i64.wrap (d : Int) = (d : Int) := wrap_in (by omega) (by omega)
    cases hP : pval d l1 with
    | err l' e' =>
      rw [hP] at hr hpl hfine
      obtain ⟨rfl, rfl⟩ := hr
      have he := hfine.1 _ _ rfl
      simp only [PR.map] at hpl
      rw [hpl] at hfin ⊢
      obtain ⟨k1, n1, ss1, L1, F1⟩ := w
      simp only [toV, rdAgg, vc, toVs, List.cons_append, List.nil_append] at hc
      simp [hJ.e0, g1, hge2, hw2', hc, evStore, V.one, putL]
      refine Out_cond _ _ _ _ _ _ _ rfl (fun _ => ?_) (fun h => by simp [he] at h)
      simp [hJ.e6, get_appl hJ.o6, evStore, V.one, putL]
      exact hfin _ _ (.mk k1 n1 ss1 L1 F1) _ _ (by simp) rfl (by simp [vc]) ⟨rfl, rfl⟩ _
    | ok v l2 =>
      rw [hP] at hr hpl hfine
      obtain ⟨rfl, rfl, rfl⟩ := hr
      have hl2 : l2 <:+ l1 := hfine.2
      have hl2b := hl2.trans hl1b
      have hl2l := suf_len hl2
      simp only [PR.map] at hpl
      obtain ⟨k1, n1, ss1, L1, F1⟩ := w
      simp only [toV, rdAgg, vc, toVs, List.cons_append, List.nil_append] at hc
      simp [hJ.e0, g1, hge2, hw2', hc, evStore, V.one, putL]
      refine Out_cond _ _ _ _ _ _ _ rfl (fun h => by simp at h) (fun _ => ?_)
      refine Out_shed2 (P := fun e s' => e 9 = .str key ∧ LInv s b o d acc e s' ∧ ∃ m, e 11 = .ptr m 0 ∧ s.obs.length + 1 < m ∧ s'.obs[m]? = some (.cells 40 (vc (.mk k1 n1 ss1 L1 F1) ++ [.int .i64 ((b.length - l2.length : Nat) : Int), .int .i64 0])))
        ⟨by simp [g9], hJ.junk _ rfl rfl rfl rfl rfl, s3.obs.length, by simp, hJ.ln, by simp [vc]⟩ ?_
      clear hJ g1 g9 hge2 hfin hc
      rintro env s4 ⟨g9, hJ, m, g11, hm, hm2⟩
      have hacl : acc.length ≤ 1000000000 := by omega
      have hkd : ∃ k5 r5, mkO o s.bufs acc = .int .i64 k5 :: r5 ∧ (k5 = 5 ↔ o = true) := by cases o <;> simp [mkO, mkP, mkL]
      obtain ⟨k5, r5, hk5, hk6⟩ := hkd
      have ho8 := hJ.o8
      rw [hk5] at ho8
      simp only [vc, List.cons_append, List.nil_append] at hm2
      simp [hJ.e8, ho8, hk6]
      refine Out.mono (Q := fun ex env' s' => ex = .norm ∧ LInv s b o d (acc ++ [(key, .mk k1 n1 ss1 L1 F1)]) env' s' ∧ env' 11 = .ptr m 0 ∧ s'.obs[m]? = some (.cells 40 (vc (.mk k1 n1 ss1 L1 F1) ++ [.int .i64 ((b.length - l2.length : Nat) : Int), .int .i64 0]))) ?_ ?_
      · clear ho8 hk5 hk6
        obtain ⟨obs4, bufs4⟩ := s4
        have hbf := hJ.bf
        simp only at hbf hm2
        subst hbf
        have ho8 := hJ.o8
        simp only at ho8
        cases o with
        | false =>
          have hap := app_L (acc.map Prod.snd) (.mk k1 n1 ss1 L1 F1) .no (by simpa using hacl) obs4 s.bufs
          refine Out_cond _ _ _ _ _ _ _ rfl (fun h => by simp at h) (fun _ => ?_)
          have hmk : mkO false s.bufs acc = [.int .i64 4, .int .i64 0, .str [], .sl (ownOf s.bufs (acc.map Prod.snd)) (toVs (acc.map Prod.snd)), .sl .nil []] := by simp [mkO, mkL, ownOf]
          rw [hmk] at ho8
          have hex : exO false acc = exOf (80, 26) (acc.map Prod.snd) := by simp [exO, exOf]
          rw [← hex] at hap
          simp only [toV, vc] at hap
          simp [hJ.e8, g11, ho8, hm2, fillS, V.one, hap, evStore, putL]
          refine ⟨LInv.appd (s1 := ⟨obs4, _⟩) hJ (key, .mk k1 n1 ss1 L1 F1) ?_ ?_ ?_ ?_ ?_ ?_ ?_, get_setne hm2 _ (by omega)⟩
          · rfl
          · rfl
          · rfl
          · rfl
          · rfl
          · simp [mkO, mkL, ownOf]
          · simp [exO, exOf]
        | true =>
          have hap := app_P acc (key, .mk k1 n1 ss1 L1 F1) .no hacl obs4 s.bufs
          refine Out_cond _ _ _ _ _ _ _ rfl (fun _ => ?_) (fun h => by simp at h)
          have hmk : mkO true s.bufs acc = [.int .i64 5, .int .i64 0, .str [], .sl .nil [], .sl (ownOf s.bufs acc) (toPs acc)] := rfl
          rw [hmk] at ho8
          have hex : exO true acc = exOf (96, 49) acc := rfl
          rw [← hex] at hap
          simp only [pv, vc] at hap
          simp [hJ.e8, g9, g11, ho8, hm2, fillL, fillS, V.one, hap, evStore, putL]
          refine ⟨LInv.appd (s1 := ⟨obs4, _⟩) hJ (key, .mk k1 n1 ss1 L1 F1) ?_ ?_ ?_ ?_ ?_ ?_ ?_, get_setne hm2 _ (by omega)⟩
          · rfl
          · rfl
          · rfl
          · rfl
          · rfl
          · simp [mkO, mkP, ownOf]
          · simp [exO, exOf]
      rintro ex env5 s5 ⟨rfl, hJ5, g5, hm5⟩
      clear hJ ho8 hk5 hk6 g9 g11 hm2
      have hsk := (skp_suf l2).trans hl2b
      have hskl := suf_len hsk
      have hsks := suf_len (skp_suf l2)
      have hbl := refBlank_spec hb hl2b
      have hz : enO o ≠ 0 := by cases o <;> decide
      have h44 : ¬ enO o = 44 := by cases o <;> decide
      have hh1 := refHas_spec hb hsk (enO o)
      have hh2 := refHas_spec hb hsk 44
      rw [hasB_hd _ _ hz] at hh1
      rw [hasB_hd _ _ (by decide)] at hh2
      simp at hh2
      simp only [vc, List.cons_append, List.nil_append] at hm5
      simp [hJ5.e0, hJ5.e7, g5, hm5, hbl, hh1]
      by_cases c1 : hd0 (skp l2) = enO o
      · obtain ⟨t2, ht2⟩ : ∃ t2, skp l2 = enO o :: t2 := by
          cases hs2 : skp l2 with
          | nil => rw [hs2] at c1; exact absurd c1.symm hz
          | cons x t2 => rw [hs2] at c1; exact ⟨t2, by rw [show x = enO o from c1]⟩
        have hps : psign (enO o) l2 = .ok () t2 := by unfold psign; rw [ht2]; simp
        rw [c1, if_neg h44, hps] at hpl
        have hw1 : IntKind.i64.wrap (((b.length - (skp l2).length : Nat) : Int) + 1) = ((b.length - t2.length : Nat) : Int) := by
          rw [ht2] at hskl ⊢
          simp only [List.length_cons] at hskl ⊢
          rw [wrap_in (by omega) (by omega)]; omega
        rw [hpl]
        refine Out_cond _ _ _ _ _ _ _ rfl (fun _ => ?_) (fun h => by simp [c1] at h)
        have hpln := mkO_plain o s.bufs (acc ++ [(key, .mk k1 n1 ss1 L1 F1)])
        have ho6 := hJ5.o6
        have ho8 := hJ5.o8
        have hend := fun env' cs w at_ e => hJ5.fin0 (env' := env') (p := ((PR.ok () t2).map fun _ => acc ++ [(key, .mk k1 n1 ss1 L1 F1)]).map (jO o)) cs w at_ e
        generalize acc ++ [(key, .mk k1 n1 ss1 L1 F1)] = acc' at *
        cases o with
        | true =>
          simp only [mkO, mkP, if_true] at ho8 hpln
          simp [hJ5.e8, hJ5.e6, ho8, ho6, hw1, fillL, evStore, V.one, putL]
          refine hend _ _ (jO true acc') _ _ ?_ rfl ?_ ⟨rfl, rfl, rfl⟩
          · rfl
          · simp only [plainL, V.plain] at hpln ⊢
            rw [← hpln]; rfl
        | false =>
          simp only [mkO, mkL, Bool.false_eq_true, if_false] at ho8 hpln
          simp [hJ5.e8, hJ5.e6, ho8, ho6, hw1, fillL, evStore, V.one, putL]
          refine hend _ _ (jO false acc') _ _ ?_ rfl ?_ ⟨rfl, rfl, rfl⟩
          · rfl
          · simp only [plainL, V.plain] at hpln ⊢
            rw [← hpln]; rfl
      · refine Out_cond _ _ _ _ _ _ _ rfl (fun h => by simp [c1] at h) (fun _ => ?_)
        refine Out_shed2 (P := fun e s' => s' = s5 ∧ e 1 = .int .i64 ((b.length - (skp l2).length : Nat) : Int) ∧ LInv s b o d (acc ++ [(key, .mk k1 n1 ss1 L1 F1)]) e s') ⟨rfl, by simp, by refine hJ5.env ?_ ?_ ?_ ?_ ?_ <;> rfl⟩ ?_
        rintro env6 s6 ⟨rfl, g1, hJ6⟩
        simp [hJ6.e0, g1, hh2]
        by_cases c2 : hd0 (skp l2) = 44
        · rw [if_pos c2] at hpl
          rw [hpl]
          obtain ⟨t2, ht2⟩ : ∃ t2, skp l2 = 44 :: t2 := by
            cases hs2 : skp l2 with
            | nil => rw [hs2] at c2; cases c2
            | cons x t2 => rw [hs2] at c2; exact ⟨t2, by rw [show x = 44 from c2]⟩
          rw [ht2] at hskl hsks hsk
          simp only [List.length_cons] at hskl hsks
          have hw1 : IntKind.i64.wrap (((b.length - (skp l2).length : Nat) : Int) + 1) = ((b.length - t2.length : Nat) : Int) := by
            rw [ht2]
            simp only [List.length_cons]
            rw [wrap_in (by omega) (by omega)]; omega
          refine Out_cond _ _ _ _ _ _ _ rfl (fun h => by simp [c2] at h) (fun _ => ?_)
          simp [g1, hw1]
          rw [ht2]
          refine Out.mono (ih t2 (acc ++ [(key, .mk k1 n1 ss1 L1 F1)]) _ s6 (by omega) (suf_tail hsk) (by simp; omega) (by simp) (by refine hJ6.env ?_ ?_ ?_ ?_ ?_ <;> rfl)) ?_
          rintro ex env' s' ⟨a, b⟩
          exact ⟨a, b⟩
        · have hps : psign (enO o) l2 = .err (skp l2) 4 := by
            unfold psign
            cases hs2 : skp l2 with
            | nil => rfl
            | cons x t2 =>
              rw [hs2] at c1
              exact if_neg c1
          rw [if_neg c2, hps] at hpl
          rw [hpl]
          refine Out_cond _ _ _ _ _ _ _ rfl (fun _ => ?_) (fun h => by simp [c2] at h)
          simp [g1, hJ6.e6, hJ6.o6, fillL, evStore, V.one, putL]
          exact hJ6.fin0 _ jNull _ _ (by simp) rfl (by simp [jNull, vc, toVs, toPs]) ⟨rfl, rfl⟩

end Go.Proofs.YtjdppboomglenaaGreatDoor.Eng

/-
  The reference's lists and objects, whole. No condition.
-/
namespace Go.Proofs.YtjdppboomglenaaGreatDoor.Eng
open Go
set_option linter.unusedSimpArgs false
set_option linter.unusedVariables false

attribute [local simp] evC_reg evC_regD evR_cons evR_nil runR_some regK_some evC_ret evC_skip evC_exit Out_seq Out_blk Out_some seqQ_norm seqQ_ret seqQ_exit blkQ_norm blkQ_ret blkQ_exit loopQ_norm loopQ_ret loopQ_exit
attribute [local simp] stepR evOp put upd_apply X.ev initEnv cells_agg cells_int cells_str cells_bool cells_sl cells_ptr cells_pnil cells_fn cells_map vc_length vc_take vc_plain vc_und toVs_plain toPs_plain toVs_und toPs_und takeN evBin isSh intBin strBin callK resOf packR V.plain plainL V.und undL scK kill dstsO dstsL dstsR ite_some ite_pair ite_vbool evUn evLoad evLen V.real finLoop_false quietK_false kill_none


theorem plist_map {α β : Type} (g : α → β) (p1 : List UInt8 → List α → PR α) (q1 : List UInt8 → List β → PR β) (h : ∀ l acc, (p1 l acc).map g = q1 l (acc.map g)) (en : UInt8) :
    ∀ (f : Nat) (l : List UInt8) (acc : List α), (plist p1 en f l acc).map (List.map g) = plist q1 en f l (acc.map g)
  | 0, l, acc => rfl
  | f + 1, l, acc => by
    unfold plist
    rw [← h l acc]
    cases p1 l acc with
    | err l' e => rfl
    | ok v l' =>
      have hm : (PR.ok v l' : PR α).map g = .ok (g v) l' := rfl
      rw [hm]
      simp only
      by_cases hh : hd0 (skp l') = 44
      · rw [if_pos hh, if_pos hh]
        have := plist_map g p1 q1 h en f ((skp l').drop 1) (acc ++ [v])
        rw [List.map_append] at this
        exact this
      · rw [if_neg hh, if_neg hh]
        cases psign en l' <;> simp [PR.map]
theorem plist0_map {α β : Type} (g : α → β) (p1 : List UInt8 → List α → PR α) (q1 : List UInt8 → List β → PR β) (h : ∀ l acc, (p1 l acc).map g = q1 l (acc.map g)) (en : UInt8) (l : List UInt8) :
    (plist0 p1 en l).map (List.map g) = plist0 q1 en l := by
  unfold plist0
  split
  · rfl
  · exact plist_map g p1 q1 h en _ _ []
theorem map_map' {α β γ : Type} (p : PR α) (f : α → β) (g : β → γ) : (p.map f).map g = p.map (fun x => g (f x)) := by cases p <;> rfl

theorem plist0_O (d : Nat) (t : List UInt8) : (plist0 (p1O false d) 93 t).map (jO false) = (plist0 (fun l _ => pval d l) 93 t).map fun vs => .mk 4 0 [] vs [] := by
  rw [← plist0_map Prod.snd (p1O false d) (fun l _ => pval d l) (fun l acc => by simp only [p1O, Bool.false_eq_true, if_false]; rw [map_map']; cases pval d l <;> rfl) 93 t, map_map']
  rfl

def opO (o : Bool) : UInt8 := if o = true then 123 else 91

theorem refList_spec {b : List UInt8} {d : Nat} (hv : RSpec b d) (hb : b.length ≤ 1000000000) (hd : d ≤ 1000) (o : Bool) {t : List UInt8} (hl : (opO o :: t) <:+ b) (s : St) :
    ∃ w at_ e, call G 23 [.str b, .int .i64 ((b.length - (t.length + 1) : Nat) : Int), .int .i64 ((d + 1 : Nat) : Int)] s = some (rdAgg w at_ e, s) ∧ RdV b ((plist0 (p1O o d) (enO o) t).map (jO o)) w at_ e := by
  have key : ∃ q, call G 23 [.str b, .int .i64 ((b.length - (t.length + 1) : Nat) : Int), .int .i64 ((d + 1 : Nat) : Int)] s = some q ∧ (fun v s' => s' = s ∧ ∃ w at_ e, v = rdAgg w at_ e ∧ RdV b ((plist0 (p1O o d) (enO o) t).map (jO o)) w at_ e) q.1 q.2 := by
    refine call_ex (G := G) (f := 23) (F := af23) (T := fun v s' => s' = s ∧ ∃ w at_ e, v = rdAgg w at_ e ∧ RdV b ((plist0 (p1O o d) (enO o) t).map (jO o)) w at_ e) rfl rfl ?_
    have hlen := suf_len hl
    simp only [List.length_cons] at hlen
    have hlt : b.length - (t.length + 1) < b.length := by omega
    have hgi := at_get hl
    have ht := suf_tail hl
    have hbl := refBlank_spec hb ht
    have hsk := (skp_suf t).trans ht
    have hskl := suf_len hsk
    have hsks := suf_len (skp_suf t)
    have hz : enO o ≠ 0 := by cases o <;> decide
    have hw : IntKind.i64.wrap (((b.length - (t.length + 1) : Nat) : Int) + 1) = ((b.length - t.length : Nat) : Int) := by rw [wrap_in (by omega) (by omega)]; omega
    have e123 : (((opO o).toNat : Int) = 123) ↔ o = true := by cases o <;> decide
    simp [af23, af23b, hlt, ↓hgi, e123, fillL, evStore, V.one, putL]
    refine Out.mono (Q := fun ex env' s' => ex = .norm ∧ env' 1 = .int .i64 ((b.length - (t.length + 1) : Nat) : Int) ∧ LInv s b o d [] env' s') ?_ ?_
    · cases o with
      | true =>
        refine Out_cond _ _ _ _ _ _ _ rfl (fun _ => ?_) (fun h => by simp at h)
        simp [evStore, V.one, putL]
        exact ⟨rfl, by simp, rfl, rfl, rfl, by simp, by simp, by simp, by simp [mkO, mkP, ownOf, toPs], by simp [exO, exOf]⟩
      | false =>
        refine Out_cond _ _ _ _ _ _ _ rfl (fun h => by simp at h) (fun _ => ?_)
        simp
        exact ⟨rfl, by simp, rfl, rfl, rfl, by simp, by simp, by simp, by simp [mkO, mkL, ownOf, toVs], by simp [exO, exOf]⟩
    rintro ex env s1 ⟨rfl, g1, hI⟩
    have hh1 := refHas_spec hb hsk (enO o)
    rw [hasB_hd _ _ hz] at hh1
    simp [hI.e0, hI.e7, g1, hw, hbl, hh1]
    have hfin : ∀ (env' : Env) (s' : St) (p : PR JV), LEnd s b p env' s' → p = ((plist0 (p1O o d) (enO o) t).map (jO o)) → ∃ q, callK af23 s (some (.ret, env', s')) = some q ∧ q.2 = s ∧ ∃ w at_ e, q.1 = rdAgg w at_ e ∧ RdV b ((plist0 (p1O o d) (enO o) t).map (jO o)) w at_ e := by
      intro env' s' p hE hp
      subst hp
      obtain ⟨cs, w, at_, e, h1, h2, h3, h4⟩ := hE.res
      refine ⟨(.agg (plainL cs), s), ?_, rfl, w, at_, e, by rw [h3], h4⟩
      have hun : (rdAgg w at_ e).und s.obs.length 0 = true := by cases w; simp [vc]
      have htk : cs.take 7 = cs := List.take_of_length_le (by omega)
      simp [af23, hE.e6, h1, h2, htk]
      rw [fin_tk hE.tk hE.bf (by simp only [V.plain]; rw [h3]; exact hun)]
      simp
    have hpl : plist0 (p1O o d) (enO o) t = if hd0 (skp t) = enO o then .ok [] ((skp t).drop 1) else plist (p1O o d) (enO o) (t.length + 1) (skp t) [] := rfl
    have hcut : ∀ (env' : Env) (s' : St) (p : PR JV), LEnd s b p env' s' → p = ((plist0 (p1O o d) (enO o) t).map (jO o)) → ∃ a b_1, callK af23 s (some (.ret, env', s')) = some (a, b_1) ∧ b_1 = s ∧ ∃ w at_ e, a = rdAgg w at_ e ∧ RdV b ((plist0 (p1O o d) (enO o) t).map (jO o)) w at_ e := by
      intro env' s' p hE hp
      obtain ⟨q, h1, h2, h3⟩ := hfin env' s' p hE hp
      exact ⟨q.1, q.2, h1, h2, h3⟩
    simp [af23] at hcut
    by_cases c1 : hd0 (skp t) = enO o
    · obtain ⟨t2, ht2⟩ : ∃ t2, skp t = enO o :: t2 := by
        cases hs2 : skp t with
        | nil => rw [hs2] at c1; exact absurd c1.symm hz
        | cons x t2 => rw [hs2] at c1; exact ⟨t2, by rw [show x = enO o from c1]⟩
      have hw1 : IntKind.i64.wrap (((b.length - (skp t).length : Nat) : Int) + 1) = ((b.length - t2.length : Nat) : Int) := by
        rw [ht2] at hskl ⊢
        simp only [List.length_cons] at hskl ⊢
        rw [wrap_in (by omega) (by omega)]; omega
      have hpl2 : plist0 (p1O o d) (enO o) t = .ok [] t2 := by rw [hpl, if_pos c1, ht2]; rfl
      refine Out_cond _ _ _ _ _ _ _ rfl (fun _ => ?_) (fun h => by simp [c1] at h)
      have ho6 := hI.o6
      have ho8 := hI.o8
      have hpln := mkO_plain o s.bufs []
      cases o with
      | true =>
        simp only [mkO, mkP, if_true] at ho8 hpln
        simp [hI.e8, hI.e6, ho8, ho6, hw1, fillL, evStore, V.one, putL, get_set hI.o6]
        refine ⟨_, _, fin_tk (by simp only; rw [take_setge _ (Nat.le_refl _)]; exact hI.tk) (by simp only [hI.bf]; exact List.take_left) ?_, rfl, jO _ [], _, 0, ?_, by rw [hpl2]; exact ⟨rfl, rfl, rfl⟩⟩
        · simp [ownOf, toVs, toPs]
        · simp [jO, vc, toVs, toPs]
      | false =>
        simp only [mkO, mkL, Bool.false_eq_true, if_false] at ho8 hpln
        simp [hI.e8, hI.e6, ho8, ho6, hw1, fillL, evStore, V.one, putL, get_set hI.o6]
        refine ⟨_, _, fin_tk (by simp only; rw [take_setge _ (Nat.le_refl _)]; exact hI.tk) (by simp only [hI.bf]; exact List.take_left) ?_, rfl, jO _ [], _, 0, ?_, by rw [hpl2]; exact ⟨rfl, rfl, rfl⟩⟩
        · simp [ownOf, toVs, toPs]
        · simp [jO, vc, toVs, toPs]
    · refine Out_cond _ _ _ _ _ _ _ rfl (fun h => by simp [c1] at h) (fun _ => ?_)
      simp
      refine Out.mono (refListLoop hv hb hd o s (t.length + 1) (skp t) [] _ s1 (by omega) hsk (by simp; omega) (by simp) (by refine hI.env ?_ ?_ ?_ ?_ ?_ <;> rfl)) ?_
      rintro ex env' s' ⟨rfl, hE⟩
      simp
      exact hcut _ _ _ hE (by rw [hpl, if_neg c1])
  obtain ⟨⟨v, s'⟩, hc, h1, w, at_, e, h2, h3⟩ := key
  simp only at h1 h2
  subst h1 h2
  exact ⟨w, at_, e, hc, h3⟩

end Go.Proofs.YtjdppboomglenaaGreatDoor.Eng

/-
  The reference's values. No condition.
-/
namespace Go.Proofs.YtjdppboomglenaaGreatDoor.Eng
open Go
set_option linter.unusedSimpArgs false
set_option linter.unusedVariables false

attribute [local simp] evC_reg evC_regD evR_cons evR_nil runR_some regK_some evC_ret evC_skip evC_exit Out_seq Out_blk Out_some seqQ_norm seqQ_ret seqQ_exit blkQ_norm blkQ_ret blkQ_exit loopQ_norm loopQ_ret loopQ_exit
attribute [local simp] stepR evOp put upd_apply X.ev initEnv cells_agg cells_int cells_str cells_bool cells_sl cells_ptr cells_pnil cells_fn cells_map vc_length vc_take vc_plain vc_und toVs_plain toPs_plain toVs_und toPs_und takeN evBin isSh intBin strBin callK resOf packR V.plain plainL V.und undL scK kill dstsO dstsL dstsR ite_some ite_pair ite_vbool evUn evLoad evLen V.real finLoop_false quietK_false kill_none


def wdR : List (List UInt8 × JV) := [(wNull, jNull), (wFalse, jBool false), (wTrue, jBool true)]
theorem begs_hd {x c : UInt8} {t w : List UInt8} (h : begs (x :: t) (c :: w) = true) : x = c := by
  simp only [begs, Bool.and_eq_true, decide_eq_true_eq, List.length_cons] at h
  have h4 := h.2
  simp only [List.take_succ_cons] at h4
  simp at h4
  exact h4.1
theorem wdR_wds (l : List UInt8) : findW wdR l = findW wds l := by
  unfold wdR wds
  simp only [findW]
  by_cases h1 : begs l wNull = true
  · simp [h1]
  · by_cases h2 : begs l wFalse = true
    · have h3 : begs l wTrue = false := by
        cases l with
        | nil => rfl
        | cons x t =>
          have hx := begs_hd h2
          cases hb : begs (x :: t) wTrue with
          | false => rfl
          | true => exact absurd (hx.symm.trans (begs_hd hb)) (by decide)
      simp [h1, h2, h3]
    · simp [h1, h2]

theorem get_mid {α : Type} (l : List α) (x : α) (m : List α) : (l ++ x :: m)[l.length]? = some x := by simp
structure WInv (s : St) (b : List UInt8) (l : List UInt8) (env : Env) (s1 : St) : Prop where
  e0 : env 0 = .str b
  e6 : env 6 = .ptr s.obs.length 0
  e7 : env 7 = .int .i64 ((b.length - l.length : Nat) : Int)
  e12 : env 12 = .sl .no [.str wNull, .str wFalse, .str wTrue]
  st : s1 = ⟨s.obs ++ [.cells 40 z7], s.bufs⟩

theorem refWordLoop {b l : List UInt8} (hb : b.length ≤ 1000000000) (hl : l <:+ b) (s : St) : ∀ (m i : Nat) (env : Env) (s1 : St), 3 - i = m → i ≤ 3 → env 13 = .int .i64 i → WInv s b l env s1 →
    Out (evC G (.loop false af12l0) env s1) (fun ex env' s' => match findW (wdR.drop i) l with
      | some (v, n) => ex = .ret ∧ LEnd s b (.ok v (l.drop n)) env' s'
      | none => ex = .exit 0 ∧ WInv s b l env' s') := by
  intro m
  induction m with
  | zero =>
    intro i env s1 hm hi h13 hI
    have : i = 3 := by omega
    subst this
    refine Out_loop G false _ _ af12l0.eq_1 _ _ _ ?_
    simp [h13]
    refine Out_cond _ _ _ _ _ _ _ rfl (fun h => by simp at h) (fun _ => ?_)
    simp [wdR, findW]
    exact ⟨hI.e0, hI.e6, hI.e7, hI.e12, hI.st⟩
  | succ m ih =>
    intro i env s1 hm hi h13 hI
    have hI' : i = 0 ∨ i = 1 ∨ i = 2 := by omega
    have hbn := fun w (hw : w.length ≤ 1000) => refBegins_spec (w := w) hb hw hl s1
    have hlen := suf_len hl
    rcases hI' with rfl | rfl | rfl
    · have hw1 : IntKind.i64.wrap 1 = 1 := by decide
      have hww := hbn wNull (by decide)
      have hfw : findW (wdR.drop 0) l = if begs l wNull = true then some (jNull, wNull.length) else findW (wdR.drop 1) l := rfl
      have hwl : wNull.length = 4 := rfl
      rw [hfw]
      refine Out_loop G false _ _ af12l0.eq_1 _ _ _ ?_
      simp [h13]
      refine Out_cond _ _ _ _ _ _ _ rfl (fun _ => ?_) (fun h => by simp at h)
      have g0 := hI.e0
      have g6 := hI.e6
      have g7 := hI.e7
      have g12 := hI.e12
      by_cases hb : begs l wNull = true
      · have hwl2 := begs_len hb
        have hpd := pos_drop hl hwl2
        have hw2 : IntKind.i64.wrap (((b.length - l.length : Nat) : Int) + ((wNull.length : Nat) : Int)) = ((b.length - (l.drop wNull.length).length : Nat) : Int) := by rw [hpd, hwl, wrap_in (by omega) (by omega)]; omega
        rw [if_pos hb]
        simp [g0, g7, g12, h13, hww, hb]
        refine Out_cond _ _ _ _ _ _ _ rfl (fun _ => ?_) (fun h => by simp at h)
        have hst := hI.st
        subst hst
        simp [g0, g6, g7, g12, h13, evStore, V.one, putL, fillL]
        refine Out_cond _ _ _ _ _ _ _ rfl (fun h => ?_) (fun h => ?_)
        · simp at h
        · simp [g0, g6, g7, g12, h13, hw2, evStore, V.one, putL, fillL]
          exact ⟨by simp [g6], by simp, by simp, _, jNull, _, 0, get_mid _ _ _, rfl, by simp [jNull, jBool, vc, toVs, toPs], rfl, rfl, rfl⟩
      · rw [if_neg hb]
        have hb' : begs l wNull = false := by simpa using hb
        simp [g0, g7, g12, h13, hww, hb']
        refine Out_cond _ _ _ _ _ _ _ rfl (fun h => by simp at h) (fun _ => ?_)
        simp [h13, hw1]
        refine Out.mono (ih 1 _ s1 (by omega) (by omega) (by simp) (by refine ⟨?_, ?_, ?_, ?_, hI.st⟩ <;> simp [g0, g6, g7, g12])) ?_
        intro ex env' s' h
        exact h
    · have hw1 : IntKind.i64.wrap 2 = 2 := by decide
      have hw0 : IntKind.i64.wrap 0 = 0 := by decide
      have hww := hbn wFalse (by decide)
      have hfw : findW (wdR.drop 1) l = if begs l wFalse = true then some ((jBool false), wFalse.length) else findW (wdR.drop 2) l := rfl
      have hwl : wFalse.length = 5 := rfl
      rw [hfw]
      refine Out_loop G false _ _ af12l0.eq_1 _ _ _ ?_
      simp [h13]
      refine Out_cond _ _ _ _ _ _ _ rfl (fun _ => ?_) (fun h => by simp at h)
      have g0 := hI.e0
      have g6 := hI.e6
      have g7 := hI.e7
      have g12 := hI.e12
      by_cases hb : begs l wFalse = true
      · have hwl2 := begs_len hb
        have hpd := pos_drop hl hwl2
        have hw2 : IntKind.i64.wrap (((b.length - l.length : Nat) : Int) + ((wFalse.length : Nat) : Int)) = ((b.length - (l.drop wFalse.length).length : Nat) : Int) := by rw [hpd, hwl, wrap_in (by omega) (by omega)]; omega
        rw [if_pos hb]
        simp [g0, g7, g12, h13, hww, hb]
        refine Out_cond _ _ _ _ _ _ _ rfl (fun _ => ?_) (fun h => by simp at h)
        have hst := hI.st
        subst hst
        simp [g0, g6, g7, g12, h13, evStore, V.one, putL, fillL]
        refine Out_cond _ _ _ _ _ _ _ rfl (fun h => ?_) (fun h => ?_)
        · simp [g0, g6, g7, g12, h13, hw0, hw2, evStore, V.one, putL, fillL]
          exact ⟨by simp [g6], by simp, by simp, _, (jBool false), _, 0, get_mid _ _ _, rfl, by simp [jNull, jBool, vc, toVs, toPs], rfl, rfl, rfl⟩
        · simp at h
      · rw [if_neg hb]
        have hb' : begs l wFalse = false := by simpa using hb
        simp [g0, g7, g12, h13, hww, hb']
        refine Out_cond _ _ _ _ _ _ _ rfl (fun h => by simp at h) (fun _ => ?_)
        simp [h13, hw1]
        refine Out.mono (ih 2 _ s1 (by omega) (by omega) (by simp) (by refine ⟨?_, ?_, ?_, ?_, hI.st⟩ <;> simp [g0, g6, g7, g12])) ?_
        intro ex env' s' h
        exact h
    · have hw1 : IntKind.i64.wrap 3 = 3 := by decide
      have hw0 : IntKind.i64.wrap 1 = 1 := by decide
      have hww := hbn wTrue (by decide)
      have hfw : findW (wdR.drop 2) l = if begs l wTrue = true then some ((jBool true), wTrue.length) else findW (wdR.drop 3) l := rfl
      have hwl : wTrue.length = 4 := rfl
      rw [hfw]
      refine Out_loop G false _ _ af12l0.eq_1 _ _ _ ?_
      simp [h13]
      refine Out_cond _ _ _ _ _ _ _ rfl (fun _ => ?_) (fun h => by simp at h)
      have g0 := hI.e0
      have g6 := hI.e6
      have g7 := hI.e7
      have g12 := hI.e12
      by_cases hb : begs l wTrue = true
      · have hwl2 := begs_len hb
        have hpd := pos_drop hl hwl2
        have hw2 : IntKind.i64.wrap (((b.length - l.length : Nat) : Int) + ((wTrue.length : Nat) : Int)) = ((b.length - (l.drop wTrue.length).length : Nat) : Int) := by rw [hpd, hwl, wrap_in (by omega) (by omega)]; omega
        rw [if_pos hb]
        simp [g0, g7, g12, h13, hww, hb]
        refine Out_cond _ _ _ _ _ _ _ rfl (fun _ => ?_) (fun h => by simp at h)
        have hst := hI.st
        subst hst
        simp [g0, g6, g7, g12, h13, evStore, V.one, putL, fillL]
        refine Out_cond _ _ _ _ _ _ _ rfl (fun h => ?_) (fun h => ?_)
        · simp [g0, g6, g7, g12, h13, hw0, hw2, evStore, V.one, putL, fillL]
          exact ⟨by simp [g6], by simp, by simp, _, (jBool true), _, 0, get_mid _ _ _, rfl, by simp [jNull, jBool, vc, toVs, toPs], rfl, rfl, rfl⟩
        · simp at h
      · rw [if_neg hb]
        have hb' : begs l wTrue = false := by simpa using hb
        simp [g0, g7, g12, h13, hww, hb']
        refine Out_cond _ _ _ _ _ _ _ rfl (fun h => by simp at h) (fun _ => ?_)
        simp [h13, hw1]
        refine Out.mono (ih 3 _ s1 (by omega) (by omega) (by simp) (by refine ⟨?_, ?_, ?_, ?_, hI.st⟩ <;> simp [g0, g6, g7, g12])) ?_
        intro ex env' s' h
        exact h

end Go.Proofs.YtjdppboomglenaaGreatDoor.Eng

/-
  The reference's values, whole; its parser. No condition.
-/
namespace Go.Proofs.YtjdppboomglenaaGreatDoor.Eng
open Go
set_option linter.unusedSimpArgs false
set_option linter.unusedVariables false

attribute [local simp] evC_reg evC_regD evR_cons evR_nil runR_some regK_some evC_ret evC_skip evC_exit Out_seq Out_blk Out_some seqQ_norm seqQ_ret seqQ_exit blkQ_norm blkQ_ret blkQ_exit loopQ_norm loopQ_ret loopQ_exit
attribute [local simp] stepR evOp put upd_apply X.ev initEnv cells_agg cells_int cells_str cells_bool cells_sl cells_ptr cells_pnil cells_fn cells_map vc_length vc_take vc_plain vc_und toVs_plain toPs_plain toVs_und toPs_und takeN evBin isSh intBin strBin callK resOf packR V.plain plainL V.und undL scK kill dstsO dstsL dstsR ite_some ite_pair ite_vbool evUn evLoad evLen V.real finLoop_false quietK_false kill_none


theorem refVal {b : List UInt8} (hb : b.length ≤ 1000000000) : ∀ d : Nat, d ≤ 1000 → RSpec b d := by
  intro d
  induction d with
  | zero =>
    intro _ l s hl
    have hbl := refBlank_spec hb hl
    have hsk := (skp_suf l).trans hl
    have hskl := suf_len hsk
    by_cases c1 : skp l = []
    · refine ⟨jNull, _, _, call_out (F := af12) rfl rfl ?_, by simp only [pval, c1, if_true]; exact ⟨rfl, rfl⟩⟩
      rw [c1] at hbl
      simp [af12, af12b, hbl]
      refine Out_cond _ _ _ _ _ _ _ rfl (fun _ => ?_) (fun h => by simp at h)
      simp [fillL, putL, evStore, V.one]
      rw [fin_s0 _ _ _ (by simp)]
      simp [jNull, vc, toVs, toPs]
    · have hp := List.length_pos_iff.2 c1
      have hlt : ¬ (b.length : Int) ≤ ((b.length - (skp l).length : Nat) : Int) := by omega
      have hlt' : ¬ b.length ≤ b.length - (skp l).length := by omega
      refine ⟨jNull, _, _, call_out (F := af12) rfl rfl ?_, by simp only [pval]; rw [if_neg c1]; exact ⟨rfl, rfl⟩⟩
      simp [af12, af12b, hbl, hlt, hlt']
      refine Out_cond _ _ _ _ _ _ _ rfl (fun h => by simp at h) (fun _ => ?_)
      simp
      refine Out_cond _ _ _ _ _ _ _ rfl (fun _ => ?_) (fun h => by simp at h)
      simp [fillL, putL, evStore, V.one]
      rw [fin_s0 _ _ _ (by simp)]
      simp [jNull, vc, toVs, toPs]
  | succ d ih =>
    intro hd l s hl
    have hv := ih (by omega)
    have hbl := refBlank_spec hb hl
    have hsk := (skp_suf l).trans hl
    have hskl := suf_len hsk
    cases hS : skp l with
    | nil =>
      refine ⟨jNull, _, _, call_out (F := af12) rfl rfl ?_, by simp only [pval, hS, if_true]; exact ⟨rfl, rfl⟩⟩
      rw [hS] at hbl
      simp [af12, af12b, hbl]
      refine Out_cond _ _ _ _ _ _ _ rfl (fun _ => ?_) (fun h => by simp at h)
      simp [fillL, putL, evStore, V.one]
      rw [fin_s0 _ _ _ (by simp)]
      simp [jNull, vc, toVs, toPs]
    | cons c t =>
      have hne : skp l ≠ [] := by rw [hS]; simp
      have key : ∃ q, call G 12 [.str b, .int .i64 ((b.length - l.length : Nat) : Int), .int .i64 ((d + 1 : Nat) : Int)] s = some q ∧ (fun v s' => s' = s ∧ ∃ w at_ e, v = rdAgg w at_ e ∧ RdV b (pval (d + 1) l) w at_ e) q.1 q.2 := by
        refine call_ex (G := G) (f := 12) (F := af12) (T := fun v s' => s' = s ∧ ∃ w at_ e, v = rdAgg w at_ e ∧ RdV b (pval (d + 1) l) w at_ e) rfl rfl ?_
        have hpv : pval (d + 1) l = if hd0 (skp l) = 34 then (punq (skp l)).map fun s => .mk 3 0 s [] []
            else if isNumS (hd0 (skp l)) = true then pnum (skp l)
            else if hd0 (skp l) = 91 then (plist0 (fun l _ => pval d l) 93 ((skp l).drop 1)).map fun vs => .mk 4 0 [] vs []
            else if hd0 (skp l) = 123 then (plist0 (ppair (pval d)) 125 ((skp l).drop 1)).map fun fs => .mk 5 0 [] [] fs
            else pword (skp l) := by rw [pval, if_neg hne]
        rw [hpv]
        rw [hS] at hsk hbl hskl hpv ⊢
        simp only [List.length_cons] at hbl hskl
        have hh : hd0 (c :: t) = c := rfl
        rw [hh]
        have hgi := at_get hsk
        have hlt : ¬ (b.length : Int) ≤ ((b.length - (t.length + 1) : Nat) : Int) := by omega
        have hlt' : ¬ b.length ≤ b.length - (t.length + 1) := by omega
        have hlt3 : b.length - (t.length + 1) < b.length := by omega
        have hd1 : ¬ (d : Int) + 1 < 1 := by omega
        have e34 : ((c.toNat : Int) = 34) ↔ c = 34 := u8eq c 34 (by decide)
        have e45 : ((c.toNat : Int) = 45) ↔ c = 45 := u8eq c 45 (by decide)
        have e91 : ((c.toNat : Int) = 91) ↔ c = 91 := u8eq c 91 (by decide)
        have e123 : ((c.toNat : Int) = 123) ↔ c = 123 := u8eq c 123 (by decide)
        have hdg := refDigit_spec hb hsk
        have hnum := fun s => refNum_spec hb hsk (by simp) s
        simp only [List.length_cons] at hdg hnum
        simp [af12, af12b, hbl, hlt, hlt']
        refine Out_cond _ _ _ _ _ _ _ rfl (fun h => by simp at h) (fun _ => ?_)
        simp
        refine Out_cond _ _ _ _ _ _ _ rfl (fun h => by simp at h; omega) (fun _ => ?_)
        refine Out_shed2 (P := fun e s' => s' = ⟨s.obs ++ [.cells 40 [.int .i64 0, .int .i64 0, .str [], .sl .nil [], .sl .nil [], .int .i64 0, .int .i64 0]], s.bufs⟩ ∧ e 0 = .str b ∧ e 2 = .int .i64 ((d : Int) + 1) ∧ e 6 = .ptr s.obs.length 0 ∧ e 7 = .int .i64 ((b.length - (t.length + 1) : Nat) : Int)) (by simp) ?_
        rintro env s1 ⟨rfl, g0, g2, g6, g7⟩
        simp [g0, g7, hlt3, ↓hgi, e34]
        by_cases c1 : c = 34
        · have hsl : evSlcS (.str b) (some (.int .i64 ((b.length - (t.length + 1) : Nat) : Int))) none = some (.str (c :: t)) := by
            have h := suf_drop hsk
            simp only [List.length_cons] at h
            simp [evSlcS, bnd, h]
          have hunq := refUnq_spec (q := c :: t) (by rw [List.length_cons]; omega)
          have hfine := punq_fine (c :: t)
          have hr : RdV b ((punq (c :: t)).map fun s => .mk 3 0 s [] []) (.mk 3 0 (prT (punq (c :: t))) [] []) ((b.length - (punq (c :: t)).rest.length : Nat) : Int) (punq (c :: t)).e := by
            cases punq (c :: t) with
            | ok v l' => exact ⟨rfl, rfl, rfl⟩
            | err l' e => exact ⟨rfl, rfl⟩
          have hsuf := suf_len hfine.2
          simp only [List.length_cons] at hsuf hunq
          have hw : IntKind.i64.wrap (((b.length - (t.length + 1) : Nat) : Int) + ((t.length + 1 - (punq (c :: t)).rest.length : Nat) : Int)) = ((b.length - (punq (c :: t)).rest.length : Nat) : Int) := by rw [wrap_in (by omega) (by omega)]; omega
          rw [if_pos c1]
          generalize punq (c :: t) = P at *
          refine Out_cond _ _ _ _ _ _ _ rfl (fun _ => ?_) (fun h => by simp [c1] at h)
          simp [g0, g6, g7, hsl, hunq, hw, fillL, putL, evStore, V.one]
          rw [fin_s0 _ _ _ (by simp)]
          exact ⟨_, _, rfl, rfl, .mk 3 0 (prT P) [] [], _, _, by simp [vc, toVs, toPs], hr⟩
        rw [if_neg c1]
        refine Out_cond _ _ _ _ _ _ _ rfl (fun h => by simp [c1] at h) (fun _ => ?_)
        simp [g0, g7, e45, hdg]
        have hdd : (decide (c = 45) || digB (c :: t)) = isNumS c := by
          unfold isNumS
          congr 1
        by_cases c2 : isNumS c = true
        · rw [if_pos c2]
          obtain ⟨w, at_, e, hc, hr⟩ := hnum ⟨s.obs ++ [.cells 40 [.int .i64 0, .int .i64 0, .str [], .sl .nil [], .sl .nil [], .int .i64 0, .int .i64 0]], s.bufs⟩
          obtain ⟨k1, n1, ss1, L1, F1⟩ := w
          simp only [toV, rdAgg, vc, toVs, List.cons_append, List.nil_append] at hc
          refine Out_cond _ _ _ _ _ _ _ rfl (fun _ => ?_) (fun h => by simp [hdd, c2] at h)
          simp [g0, g6, g7, hc, evStore, V.one, putL]
          rw [fin_s0 _ _ _ (by simp)]
          exact ⟨_, _, rfl, rfl, .mk k1 n1 ss1 L1 F1, at_, e, by simp [vc], hr⟩
        rw [if_neg c2]
        refine Out_cond _ _ _ _ _ _ _ rfl (fun h => by simp [hdd, c2] at h) (fun _ => ?_)
        refine Out_shed2 (P := fun e s' => s' = ⟨s.obs ++ [.cells 40 [.int .i64 0, .int .i64 0, .str [], .sl .nil [], .sl .nil [], .int .i64 0, .int .i64 0]], s.bufs⟩ ∧ e 0 = .str b ∧ e 2 = .int .i64 ((d : Int) + 1) ∧ e 6 = .ptr s.obs.length 0 ∧ e 7 = .int .i64 ((b.length - (t.length + 1) : Nat) : Int) ∧ e 8 = .int .u8 c.toNat) (by simp [g0, g2, g6, g7]) ?_
        clear g0 g2 g6 g7
        rintro env s1 ⟨rfl, g0, g2, g6, g7, g8⟩
        simp [g8, e91, e123]
        by_cases c3 : c = 91
        · subst c3
          obtain ⟨w, at_, e, hc, hr⟩ := refList_spec hv hb (by omega) false hsk ⟨s.obs ++ [.cells 40 [.int .i64 0, .int .i64 0, .str [], .sl .nil [], .sl .nil [], .int .i64 0, .int .i64 0]], s.bufs⟩
          have hpo : (plist0 (p1O false d) (enO false) t).map (jO false) = (plist0 (fun l _ => pval d l) 93 t).map fun vs => .mk 4 0 [] vs [] := plist0_O d t
          rw [hpo] at hr
          simp only [Int.natCast_add, Int.cast_ofNat_Int] at hc
          obtain ⟨k1, n1, ss1, L1, F1⟩ := w
          simp only [toV, rdAgg, vc, toVs, List.cons_append, List.nil_append] at hc
          refine Out_cond _ _ _ _ _ _ _ rfl (fun _ => ?_) (fun h => by simp at h)
          simp [g0, g2, g6, g7, hc, evStore, V.one, putL]
          rw [fin_s0 _ _ _ (by simp)]
          exact ⟨_, _, rfl, rfl, .mk k1 n1 ss1 L1 F1, at_, e, by simp [vc], hr⟩
        rw [if_neg c3]
        by_cases c4 : c = 123
        · subst c4
          obtain ⟨w, at_, e, hc, hr⟩ := refList_spec hv hb (by omega) true hsk ⟨s.obs ++ [.cells 40 [.int .i64 0, .int .i64 0, .str [], .sl .nil [], .sl .nil [], .int .i64 0, .int .i64 0]], s.bufs⟩
          simp only [Int.natCast_add, Int.cast_ofNat_Int] at hc
          obtain ⟨k1, n1, ss1, L1, F1⟩ := w
          simp only [toV, rdAgg, vc, toVs, List.cons_append, List.nil_append] at hc
          refine Out_cond _ _ _ _ _ _ _ rfl (fun _ => ?_) (fun h => by simp at h)
          simp [g0, g2, g6, g7, hc, evStore, V.one, putL]
          rw [fin_s0 _ _ _ (by simp)]
          exact ⟨_, _, rfl, rfl, .mk k1 n1 ss1 L1 F1, at_, e, by simp [vc], hr⟩
        rw [if_neg c4]
        refine Out_cond _ _ _ _ _ _ _ rfl (fun h => by simp [c3, c4] at h) (fun _ => ?_)
        simp [fillS, V.one]
        have hwp : pword (c :: t) = match findW wdR (c :: t) with | some (v, k) => .ok v ((c :: t).drop k) | none => .err (c :: t) 4 := by
          rw [wdR_wds, findW_pword]
          cases findW wds (c :: t) <;> rfl
        rw [hwp]
        refine Out.mono (refWordLoop hb hsk s 3 0 _ _ (by omega) (by omega) (by simp) ⟨by simp [g0], by simp [g6], by simp [g7], by simp [wNull, wFalse, wTrue], rfl⟩) ?_
        intro ex env' s'
        rw [List.drop_zero]
        cases findW wdR (c :: t) with
        | some x =>
          obtain ⟨v, n⟩ := x
          rintro ⟨rfl, hE⟩
          obtain ⟨cs, w, at_, e, h1, h2, h3, h4⟩ := hE.res
          have hun : (rdAgg w at_ e).und s.obs.length 0 = true := by cases w; simp [vc]
          have htk : cs.take 7 = cs := List.take_of_length_le (by omega)
          simp [af12, hE.e6, h1, h2, htk]
          rw [fin_tk hE.tk hE.bf (by simp only [V.plain]; rw [h3]; exact hun)]
          exact ⟨_, _, rfl, rfl, w, at_, e, by simp only [V.plain]; rw [h3], h4⟩
        | none =>
          rintro ⟨rfl, hI⟩
          have g6 := hI.e6
          have g7 := hI.e7
          have hst := hI.st
          subst hst
          simp only [List.length_cons] at g7
          simp [g6, g7, fillL, putL, evStore, V.one]
          rw [fin_s0 _ _ _ (by simp)]
          exact ⟨_, _, rfl, rfl, jNull, _, _, by simp [jNull, vc, toVs, toPs], rfl, rfl⟩
      obtain ⟨⟨v, s'⟩, hc, h1, w, at_, e, h2, h3⟩ := key
      simp only at h1 h2
      subst h1 h2
      exact ⟨w, at_, e, hc, h3⟩

end Go.Proofs.YtjdppboomglenaaGreatDoor.Eng

/-
  The reference's parser answers as the program's reader. No condition.
-/
namespace Go.Proofs.YtjdppboomglenaaGreatDoor.Eng
open Go
set_option linter.unusedSimpArgs false
set_option linter.unusedVariables false

attribute [local simp] evC_reg evC_regD evR_cons evR_nil runR_some regK_some evC_ret evC_skip evC_exit Out_seq Out_blk Out_some seqQ_norm seqQ_ret seqQ_exit blkQ_norm blkQ_ret blkQ_exit loopQ_norm loopQ_ret loopQ_exit
attribute [local simp] stepR evOp put upd_apply X.ev initEnv cells_agg cells_int cells_str cells_bool cells_sl cells_ptr cells_pnil cells_fn cells_map vc_length vc_take vc_plain vc_und toVs_plain toPs_plain toVs_und toPs_und takeN evBin isSh intBin strBin callK resOf packR V.plain plainL V.und undL scK kill dstsO dstsL dstsR ite_some ite_pair ite_vbool evUn evLoad evLen V.real finLoop_false quietK_false kill_none


theorem refParse_spec {q : List UInt8} (hq : q.length ≤ 1000000000) (s : St) :
    call G 7 [.str q] s = some (.tup [toV (pread q 4000).1, .int .i64 (pread q 4000).2.1, .int .i64 (pread q 4000).2.2], s) := by
  refine call_out (F := af7) rfl rfl ?_
  by_cases hm : (4000 : Int) < (q.length : Int)
  · simp [af7, af7b, hm]
    refine Out_cond _ _ _ _ _ _ _ rfl (fun _ => ?_) (fun h => by cases h)
    simp [fillL, evStore, V.one, putL]
    rw [fin_s0 _ _ _ (by simp)]
    simp [pread, hm, jNull, vc, toVs, toPs]
  · obtain ⟨w, at_, e, hc, hr⟩ := refVal hq 12 (by decide) q ⟨s.obs ++ [.cells 26 [.int .i64 0, .int .i64 0, .str [], .sl .nil [], .sl .nil []]], s.bufs⟩ (List.suffix_refl q)
    rw [Nat.sub_self] at hc
    obtain ⟨k1, n1, ss1, L1, F1⟩ := w
    simp only [toV, rdAgg, vc, toVs, List.cons_append, List.nil_append, Int.cast_ofNat_Int, Int.natCast_zero] at hc
    simp [af7, af7b, hm]
    refine Out_cond _ _ _ _ _ _ _ rfl (fun h => by cases h) (fun _ => ?_)
    have hset : ∀ (a b c : AObj), (s.obs ++ [a, b]).set (s.obs.length + 1) c = s.obs ++ [a, c] := fun a b c => by
      rw [List.set_append_right _ _ (by omega)]; simp
    have hset0 : ∀ (a b c : AObj), (s.obs ++ [a, b]).set s.obs.length c = s.obs ++ [c, b] := fun a b c => by
      rw [List.set_append_right _ _ (by omega)]; simp
    have hg1 : ∀ (a b : AObj), (s.obs ++ [a, b])[s.obs.length + 1]? = some b := fun a b => by
      rw [List.getElem?_append_right (by omega)]; simp
    have hnn : ¬ s.obs.length + 1 = s.obs.length := by omega
    simp [hc, evStore, V.one, putL, ↓hset, ↓hg1]
    cases hp : pval 12 q with
    | err l' e' =>
      rw [hp] at hr
      have he := (pval_fine 12 q).1 _ _ hp
      obtain ⟨rfl, rfl⟩ := hr
      refine Out_cond _ _ _ _ _ _ _ rfl (fun _ => ?_) (fun h => by simp [he] at h)
      simp [evC_regDA, regKA_some, aparts_nil, aparts_lt, apart, tells_nil, tells_skip, fillL, ↓hset, ↓hset0, ↓hg1, evStore, V.one, putL, hnn]
      rw [fin_s0 _ _ _ (by simp)]
      simp [pread, hm, hp, jNull, vc, toVs, toPs]
    | ok v l' =>
      rw [hp] at hr
      have hl' : l' <:+ q := by
        have := (pval_fine 12 q).2
        rw [hp] at this
        exact this
      obtain ⟨rfl, rfl, rfl⟩ := hr
      have hbl := refBlank_spec hq hl'
      have hsl := (skp_suf l').trans hl'
      have hlm := suf_len hsl
      refine Out_cond _ _ _ _ _ _ _ rfl (fun h => by simp at h) (fun _ => ?_)
      simp [↓hset, ↓hg1, hbl]
      by_cases hn : skp l' = []
      · simp [hn]
        refine Out_cond _ _ _ _ _ _ _ rfl (fun h => by simp at h) (fun _ => ?_)
        simp [fillL, ↓hset, ↓hset0, ↓hg1, evStore, V.one, putL]
        rw [fin_s0 _ _ _ (by simp)]
        simp [pread, hm, hp, hn, vc]
      · have hpos : 0 < (skp l').length := List.length_pos_iff.2 hn
        have hlt : q.length - (skp l').length < q.length := by omega
        have hlt' : ((q.length - (skp l').length : Nat) : Int) < (q.length : Int) := by omega
        simp [hlt, hlt']
        refine Out_cond _ _ _ _ _ _ _ rfl (fun _ => ?_) (fun h => by simp at h)
        simp [fillL, ↓hset, ↓hset0, ↓hg1, evStore, V.one, putL]
        rw [fin_s0 _ _ _ (by simp)]
        simp [pread, hm, hp, hn, jNull, vc, toVs, toPs]

end Go.Proofs.YtjdppboomglenaaGreatDoor.Eng

/-
  What is read is a value of the language. No condition.
-/
namespace Go.Proofs.YtjdppboomglenaaGreatDoor.Eng
open Go
set_option linter.unusedSimpArgs false
set_option linter.unusedVariables false

attribute [local simp] evC_reg evC_regD evR_cons evR_nil runR_some regK_some evC_ret evC_skip evC_exit Out_seq Out_blk Out_some seqQ_norm seqQ_ret seqQ_exit blkQ_norm blkQ_ret blkQ_exit loopQ_norm loopQ_ret loopQ_exit
attribute [local simp] stepR evOp put upd_apply X.ev initEnv cells_agg cells_int cells_str cells_bool cells_sl cells_ptr cells_pnil cells_fn cells_map vc_length vc_take vc_plain vc_und toVs_plain toPs_plain toVs_und toPs_und takeN evBin isSh intBin strBin callK resOf packR V.plain plainL V.und undL scK kill dstsO dstsL dstsR ite_some ite_pair ite_vbool evUn evLoad evLen V.real finLoop_false quietK_false kill_none


theorem ubody_len : ∀ (f : Nat) (l acc r l' : List UInt8), ubody f l acc = .ok r l' → r.length ≤ acc.length + 4 * l.length
  | 0, l, acc, r, l', h => by simp [ubody] at h
  | f + 1, l, acc, r, l', h => by
    unfold ubody at h
    split at h
    · cases h
    · rename_i hne
      split at h
      · cases h; omega
      · split at h
        · cases h
        · split at h
          · cases h
          · have hp := List.length_pos_iff.2 hne
            split at h
            · split at h
              · cases h
              · rename_i hz
                have h1 := ubody_len f _ _ _ _ h
                have h2 := escR_ok l hz
                obtain ⟨c, hc, _, h3, h4⟩ := h2
                have h5 := encV_len (escR l).1.toNat
                rw [List.length_append, List.length_drop] at h1
                omega
            · have h1 := ubody_len f _ _ _ _ h
              have h2 := decV_le l 0 hp
              have h5 := encV_len (decV l 0).1
              rw [List.length_append, List.length_drop] at h1
              omega
theorem punq_len {l r l' : List UInt8} (h : punq l = .ok r l') : r.length ≤ 4 * l.length := by
  unfold punq at h
  split at h
  · have := ubody_len _ _ _ _ _ h
    simp at this
    omega
  · cases h

theorem okVs_of : ∀ {l : List JV}, (∀ v ∈ l, v.ok) → okVs l
  | [], _ => trivial
  | v :: l, h => ⟨h v (by simp), okVs_of fun w hw => h w (by simp [hw])⟩
theorem okPs_of : ∀ {l : List (List UInt8 × JV)}, (∀ p ∈ l, p.1.length ≤ 9223372036854775807 ∧ p.2.ok) → okPs l
  | [], _ => trivial
  | p :: l, h => ⟨(h p (by simp)).1, (h p (by simp)).2, okPs_of fun w hw => h w (by simp [hw])⟩

theorem plist_ok {α : Type} (P : α → Prop) (p1 : List UInt8 → List α → PR α) (h : ∀ l acc v l', l.length ≤ 1000000000 → p1 l acc = .ok v l' → P v) (hf : ∀ l acc, Fine (p1 l acc) l) (en : UInt8) :
    ∀ (f : Nat) (l : List UInt8) (acc r : List α) (l' : List UInt8), l.length ≤ 1000000000 → (∀ x ∈ acc, P x) → plist p1 en f l acc = .ok r l' → (∀ x ∈ r, P x) ∧ r.length ≤ acc.length + f
  | 0, l, acc, r, l', _, _, hp => by simp [plist] at hp
  | f + 1, l, acc, r, l', hl, ha, hp => by
    unfold plist at hp
    have hfi := hf l acc
    cases hq : p1 l acc with
    | err l2 e => rw [hq] at hp; cases hp
    | ok v l2 =>
      rw [hq] at hp hfi
      have hv := h l acc v l2 hl hq
      have h2 : l2.length ≤ l.length := suf_len hfi.2
      have ha2 : ∀ x ∈ acc ++ [v], P x := by
        intro x hx
        rcases List.mem_append.1 hx with hx | hx
        · exact ha x hx
        · simp at hx; rw [hx]; exact hv
      simp only at hp
      by_cases h44 : hd0 (skp l2) = 44
      · rw [if_pos h44] at hp
        have hs := suf_len (skp_suf l2)
        have := plist_ok P p1 h hf en f _ _ _ _ (by rw [List.length_drop]; omega) ha2 hp
        rw [List.length_append] at this
        exact ⟨this.1, by have := this.2; simp at this; omega⟩
      · rw [if_neg h44] at hp
        cases hs : psign en l2 with
        | err l3 e => rw [hs] at hp; cases hp
        | ok u l3 =>
          rw [hs] at hp
          cases hp
          exact ⟨ha2, by rw [List.length_append, List.length_singleton]; omega⟩
theorem plist0_ok {α : Type} (P : α → Prop) (p1 : List UInt8 → List α → PR α) (h : ∀ l acc v l', l.length ≤ 1000000000 → p1 l acc = .ok v l' → P v) (hf : ∀ l acc, Fine (p1 l acc) l) (en : UInt8)
    (l : List UInt8) (r : List α) (l' : List UInt8) (hl : l.length ≤ 1000000000) (hp : plist0 p1 en l = .ok r l') : (∀ x ∈ r, P x) ∧ r.length ≤ l.length + 1 := by
  unfold plist0 at hp
  split at hp
  · cases hp; simp
  · have hs := suf_len (skp_suf l)
    have := plist_ok P p1 h hf en _ _ _ _ _ (by omega) (by simp) hp
    simpa using this

theorem pval_ok : ∀ (d : Nat) (l : List UInt8) (v : JV) (l' : List UInt8), l.length ≤ 1000000000 → pval d l = .ok v l' → v.ok
  | 0, l, v, l', hl, h => by
    unfold pval at h
    split at h <;> cases h
  | d + 1, l, v, l', hl, h => by
    have ih := pval_ok d
    have hs := suf_len (skp_suf l)
    have hdl : ((skp l).drop 1).length ≤ 1000000000 := by rw [List.length_drop]; omega
    unfold pval at h
    split at h
    · cases h
    · split at h
      · cases hp : punq (skp l) with
        | err l2 e => rw [hp] at h; cases h
        | ok s l2 =>
          rw [hp] at h
          cases h
          have := punq_len hp
          simp only [JV.ok, okVs, okPs, List.length_nil]
          exact ⟨by omega, by omega, by omega, by omega, by omega, trivial, trivial⟩
      · split at h
        · unfold pnum at h
          split at h
          · cases h
          · split at h
            · cases h
            · split at h
              · cases h
              · cases h
                rename_i h1 h2 h3
                simp only [JV.ok, okVs, okPs, List.length_nil]
                refine ⟨by omega, ?_, by omega, by omega, by omega, trivial, trivial⟩
                split <;> omega
        · split at h
          · cases hp : plist0 (fun l _ => pval d l) 93 ((skp l).drop 1) with
            | err l2 e => rw [hp] at h; cases h
            | ok vs l2 =>
              rw [hp] at h
              cases h
              have := plist0_ok JV.ok (fun l _ => pval d l) (fun l acc v l' hl h => ih l v l' hl h) (fun l _ => pval_fine d l) 93 _ _ _ hdl hp
              have h2 := okVs_of this.1
              simp only [JV.ok, okPs, List.length_nil]
              refine ⟨by omega, by omega, by omega, by omega, by omega, h2, trivial⟩
          · split at h
            · cases hp : plist0 (ppair (pval d)) 125 ((skp l).drop 1) with
              | err l2 e => rw [hp] at h; cases h
              | ok fs l2 =>
                rw [hp] at h
                cases h
                have := plist0_ok (fun p : List UInt8 × JV => p.1.length ≤ 9223372036854775807 ∧ p.2.ok) (ppair (pval d)) (fun l acc v l' hl h => by
                  unfold ppair at h
                  have hs := suf_len (skp_suf l)
                  split at h
                  · cases h
                  · cases hq : punq (skp l) with
                    | err l2 e => rw [hq] at h; cases h
                    | ok k l2 =>
                      rw [hq] at h
                      simp only at h
                      split at h
                      · cases h
                      · cases hz : psign 58 l2 with
                        | err l3 e => rw [hz] at h; cases h
                        | ok u l3 =>
                          rw [hz] at h
                          simp only at h
                          cases hv : pval d l3 with
                          | err l4 e => rw [hv] at h; cases h
                          | ok w l4 =>
                            rw [hv] at h
                            cases h
                            have e1 := punq_len hq
                            have e2 : l2.length ≤ (skp l).length := by
                              have := (punq_fine (skp l)).2
                              rw [hq] at this
                              exact suf_len this
                            have e3 : l3.length ≤ l2.length := by
                              have := (psign_fine 58 l2).2
                              rw [hz] at this
                              exact suf_len this
                            exact ⟨by simp only; omega, ih _ _ _ (by omega) hv⟩) (fun l acc => ppair_fine (pval_fine d) l acc) 125 _ _ _ hdl hp
                have h2 := okPs_of this.1
                simp only [JV.ok, okVs, List.length_nil]
                refine ⟨by omega, by omega, by omega, by omega, by omega, trivial, h2⟩
            · unfold pword at h
              repeat' split at h
              all_goals cases h
              all_goals simp [jNull, jBool, JV.ok, okVs, okPs]

theorem pread_ok {q : List UInt8} (hq : q.length ≤ 1000000000) (most : Int) : (pread q most).1.ok := by
  have hn : jNull.ok := by simp [jNull, JV.ok, okVs, okPs]
  unfold pread
  split
  · exact hn
  · cases hp : pval 12 q with
    | err l e => exact hn
    | ok v l =>
      simp only
      split
      · exact pval_ok 12 q v l hq hp
      · exact hn

end Go.Proofs.YtjdppboomglenaaGreatDoor.Eng
