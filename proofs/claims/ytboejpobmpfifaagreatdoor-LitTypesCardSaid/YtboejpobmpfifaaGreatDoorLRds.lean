/-
  Types: what the functions do, one behind the other. No condition.
-/
import Derived.Test.YtboejpobmpfifaaGreatDoorTRefs
/-
  Drawn regions, framed calls. No condition.
-/
namespace Go.Proofs.YtboejpobmpfifaaGreatDoor.Eng
open Go
set_option linter.unusedSimpArgs false
set_option linter.unusedVariables false

attribute [local simp] evC_condT evC_condF evC_reg evC_regD evR_cons evR_nil runR_some regK_some evC_ret evC_skip evC_exit Out_seq Out_blk Out_some seqQ_norm seqQ_ret seqQ_exit blkQ_norm blkQ_ret blkQ_exit loopQ_norm loopQ_ret loopQ_exit
attribute [local simp] stepR evOp put upd_apply X.ev initEnv cells_agg cells_int cells_str cells_bool cells_sl cells_ptr cells_pnil cells_fn cells_map takeN evBin isSh intBin strBin callK resOf packR V.plain plainL V.und undL scK kill dstsO dstsL dstsR ite_some ite_pair ite_vbool evUn evLoad evLen V.real finLoop_false quietK_false kill_none
/-! ### Drawn regions, framed calls -/
theorem aparts_nil (env : Env) : aparts [] env = true := rfl
theorem aparts_lt (r : List (Nat × Nat)) (env : Env) (p q : Nat) (h : q < 1000000) : aparts ((p, q) :: r) env = (apart (env p) (env q) && aparts r env) := by
  simp only [aparts, List.all_cons, apart2]
  rw [if_pos h]
theorem tells_nil (env : Env) (s : St) : tells [] env s = (env, s) := rfl
theorem tells_skip (r : List (Nat × Nat)) (env : Env) (s : St) (p q : Nat) (h : q < 2000000) : tells ((p, q) :: r) env s = tells r env s := by
  simp only [tells]
  rw [if_pos h]
end Go.Proofs.YtboejpobmpfifaaGreatDoor.Eng

/-
  The reader of tokens: what its small functions do. No condition.
-/
namespace Go.Proofs.YtboejpobmpfifaaGreatDoor.Eng
open Go
set_option linter.unusedSimpArgs false
set_option linter.unusedVariables false

attribute [local simp] evC_condT evC_condF evC_reg evC_regD evR_cons evR_nil runR_some regK_some evC_ret evC_skip evC_exit Out_seq Out_blk Out_some seqQ_norm seqQ_ret seqQ_exit blkQ_norm blkQ_ret blkQ_exit loopQ_norm loopQ_ret loopQ_exit
attribute [local simp] stepR evOp put upd_apply X.ev initEnv cells_agg cells_int cells_str cells_bool cells_sl cells_ptr cells_pnil cells_fn cells_map takeN evBin isSh intBin strBin callK resOf packR V.plain plainL V.und undL scK kill dstsO dstsL dstsR ite_some ite_pair ite_vbool evUn evLoad evLen V.real finLoop_false quietK_false kill_none
/-- A reader: the tokens that are left, the text's length, what it failed with, and where. -/
structure Lrd where
  L : List Tok
  n : Int
  e : Int
  a : Int
def rdO (R : Lrd) : AObj := .cells 185 [.sl .no (tokVs R.L), .int .i64 R.n, .int .i64 R.e, .int .i64 R.a]
theorem rdO_und (R : Lrd) (n m : Nat) : (rdO R).und n m = true := by
  have := tokVs_und R.L n m
  simp [rdO, AObj.und, this]
def Lrd.at_ (R : Lrd) : Int := if R.e = 0 then (match R.L with | [] => R.n | t :: _ => t.a) else R.a
def Lrd.over (R : Lrd) : Bool := !decide (R.e = 0) || decide (R.L = [])
def Lrd.fail (R : Lrd) (p e : Int) : Lrd := if R.e = 0 ∧ e ≠ 0 then ⟨R.L, R.n, e, p⟩ else R
def Lrd.form (R : Lrd) : Lrd := R.fail R.at_ 4
def Lrd.kind (R : Lrd) : Int := if R.over = true then 0 else match R.L with | [] => 0 | t :: _ => t.k
def Lrd.tl (R : Lrd) : Lrd := ⟨R.L.drop 1, R.n, R.e, R.a⟩
def Lrd.hd (R : Lrd) : Tok := match R.L with | [] => ⟨0, [], 0⟩ | t :: _ => t
def Lrd.is (R : Lrd) (x : List UInt8) : Bool := (decide (R.kind = 1) || decide (R.kind = 2)) && decide (R.hd.s = x)
def Lrd.take (R : Lrd) (x : List UInt8) : Lrd := if R.is x = true then R.tl else R
def Lrd.must (R : Lrd) (x : List UInt8) : Lrd := if R.is x = true then R.tl else R.form
def Lrd.name (R : Lrd) : Lrd × List UInt8 := if R.kind = 2 then (R.tl, R.hd.s) else (R.form, [])
def Lrd.next (R : Lrd) : Lrd × Tok := if R.over = true then (R.form, ⟨0, [], 0⟩) else (R.tl, R.hd)

theorem over_nil {n e a : Int} : Lrd.over ⟨[], n, e, a⟩ = true := by simp [Lrd.over]
theorem over_cons {t : Tok} {L : List Tok} {n a : Int} : Lrd.over ⟨t :: L, n, 0, a⟩ = false := by simp [Lrd.over]
theorem kind_cons {t : Tok} {L : List Tok} {n a : Int} : Lrd.kind ⟨t :: L, n, 0, a⟩ = t.k := by simp [Lrd.kind, over_cons]
theorem kind_over {R : Lrd} (h : R.over = true) : R.kind = 0 := by simp [Lrd.kind, h]
theorem is_over {R : Lrd} (h : R.over = true) (x : List UInt8) : R.is x = false := by simp [Lrd.is, kind_over h]

section
variable {s : St} {r : Nat}
theorem getSr (hr : r < s.obs.length) (o : AObj) (X : List AObj) : (s.obs.set r o ++ X)[r]? = some o := by
  rw [List.getElem?_append_left (by simpa using hr), List.getElem?_set_self hr]
theorem setSr (hr : r < s.obs.length) (o o' : AObj) (X : List AObj) : (s.obs.set r o ++ X).set r o' = s.obs.set r o' ++ X := by
  rw [List.set_append_left _ _ (by simpa using hr), List.set_set]
theorem getS0 (o a : AObj) (X : List AObj) : (s.obs.set r o ++ a :: X)[s.obs.length]? = some a := by
  rw [List.getElem?_append_right (by simp)]; simp
theorem getS1 (o a b : AObj) (X : List AObj) : (s.obs.set r o ++ a :: b :: X)[s.obs.length + 1]? = some b := by
  rw [List.getElem?_append_right (by simp)]; simp
theorem setS0 (o a a' : AObj) (X : List AObj) : (s.obs.set r o ++ a :: X).set s.obs.length a' = s.obs.set r o ++ a' :: X := by
  rw [List.set_append_right _ _ (by simp)]; simp
theorem setS1 (o a b b' : AObj) (X : List AObj) : (s.obs.set r o ++ a :: b :: X).set (s.obs.length + 1) b' = s.obs.set r o ++ a :: b' :: X := by
  rw [List.set_append_right _ _ (by simp)]; simp
end

section
variable {s : St} {r : Nat} {R : Lrd}

theorem rd_fin (hs : s.obs[r]? = some (rdO R)) (R' : Lrd) (junk : List AObj) {v : V} (hv : v.plain.und s.obs.length 0 = true) :
    fin false s ⟨s.obs.set r (rdO R') ++ junk, s.bufs⟩ v = (v.plain, upR s r (rdO R')) := fin_up0 s (get_lt hs) (rdO_und _ _ _) junk hv
theorem rd_fin1 (hs : s.obs[r]? = some (rdO R)) (R' : Lrd) {v : V} (hv : v.plain.und s.obs.length 0 = true) :
    fin false s ⟨s.obs.set r (rdO R'), s.bufs⟩ v = (v.plain, upR s r (rdO R')) := fin_up1 s (get_lt hs) (rdO_und _ _ _) hv
theorem rd_up (hs : s.obs[r]? = some (rdO R)) : upR s r (rdO R) = s := set_same hs
theorem rd_app (hs : s.obs[r]? = some (rdO R)) (X : List AObj) : (s.obs ++ X)[r]? = some (rdO R) := by
  rw [List.getElem?_append_left (get_lt hs)]; exact hs
theorem rd_set (hs : s.obs[r]? = some (rdO R)) (o : AObj) (X : List AObj) : (s.obs ++ X).set r o = s.obs.set r o ++ X := List.set_append_left _ _ (get_lt hs)

theorem rend_spec (hs : s.obs[r]? = some (rdO R)) : call G 56 [.ptr r 0] s = some (.bool R.over, s) := by
  obtain ⟨L, n, e, a⟩ := R
  have htl := tokVs_len L
  refine call_out (F := af56) rfl rfl ?_
  simp only [rdO] at hs
  by_cases he : e = 0
  · subst he
    simp [af56, af56b, hs, htl]
    rw [fin_id _ (v := .bool _) rfl]
    simp [Lrd.over]
  · simp [af56, af56b, hs, he]
    rw [fin_id _ (v := .bool _) rfl]
    simp [Lrd.over, he]

theorem rat_spec (hs : s.obs[r]? = some (rdO R)) : call G 54 [.ptr r 0] s = some (.int .i64 R.at_, s) := by
  obtain ⟨L, n, e, a⟩ := R
  have htl := tokVs_len L
  refine call_out (F := af54) rfl rfl ?_
  simp only [rdO] at hs
  by_cases he : e = 0
  · subst he
    cases L with
    | nil =>
      simp [af54, af54b, hs, htl, tokVs]
      rw [fin_id _ (v := .int _ _) rfl]
      simp [Lrd.at_]
    | cons t L =>
      obtain ⟨k, x, p⟩ := t
      have e1 : tokVs (⟨k, x, p⟩ :: L) = .agg [.int .i64 k, .str x, .int .i64 p] :: tokVs L := rfl
      have hne : ¬ ((tokVs L).length : Int) + 1 = 0 := by omega
      rw [e1] at hs
      simp [af54, af54b, hs, hne]
      rw [fin_id _ (v := .int _ _) rfl]
      simp [Lrd.at_]
  · simp [af54, af54b, hs, he]
    rw [fin_id _ (v := .int _ _) rfl]
    simp [Lrd.at_, he]

theorem rfail_spec (hs : s.obs[r]? = some (rdO R)) (p e2 : Int) : call G 135 [.ptr r 0, .int .i64 p, .int .i64 e2] s = some (.tup [], upR s r (rdO (R.fail p e2))) := by
  have hfin := fun R' => rd_fin1 hs R' (v := .tup []) rfl
  have hup := rd_up hs
  have hr := get_lt hs
  obtain ⟨L, n, e, a⟩ := R
  refine call_out (F := af135) rfl rfl ?_
  have hs' := hs
  simp only [rdO] at hs'
  by_cases he : e = 0
  · subst he
    by_cases h2 : e2 = 0
    · simp [af135, af135b, hs', h2]
      rw [fin_id _ (v := .tup []) rfl]
      simp [Lrd.fail, h2, hup]
    · have h2' : (e2 = 0) = False := eq_false h2
      have := hfin ⟨L, n, e2, p⟩
      simp only [rdO] at this
      simp [af135, af135b, hs', h2', fillL, putL, evStore, V.one]
      rw [this]
      simp [Lrd.fail, h2, rdO]
  · simp [af135, af135b, hs', he]
    rw [fin_id _ (v := .tup []) rfl]
    simp [Lrd.fail, he, hup]

theorem rform_spec (hs : s.obs[r]? = some (rdO R)) : call G 202 [.ptr r 0] s = some (.tup [], upR s r (rdO R.form)) := by
  have h1 := rat_spec hs
  have h2 := rfail_spec hs R.at_ 4
  refine call_out (F := af202) rfl rfl ?_
  simp [af202, af202b, h1, h2]
  have := rd_fin1 hs R.form (v := .tup []) rfl
  simp only [Lrd.form, upR] at this ⊢
  exact this

theorem rkind_spec (hs : s.obs[r]? = some (rdO R)) : call G 207 [.ptr r 0] s = some (.int .i64 R.kind, s) := by
  have h1 := rend_spec hs
  refine call_out (F := af207) rfl rfl ?_
  by_cases ho : R.over = true
  · simp [af207, af207b, h1, ho]
    rw [fin_id _ (v := .int _ _) rfl]
    simp [Lrd.kind, ho]
  · have ho' : R.over = false := by simpa using ho
    obtain ⟨L, n, e, a⟩ := R
    cases L with
    | nil => rw [over_nil] at ho'; cases ho'
    | cons t L =>
      obtain ⟨k, x, p⟩ := t
      have e1 : tokVs (⟨k, x, p⟩ :: L) = .agg [.int .i64 k, .str x, .int .i64 p] :: tokVs L := rfl
      simp only [rdO] at hs
      rw [e1] at hs
      simp [af207, af207b, h1, ho', hs]
      rw [fin_id _ (v := .int _ _) rfl]
      simp [Lrd.kind, ho']

theorem rdnext_spec (hs : s.obs[r]? = some (rdO R)) : call G 208 [.ptr r 0] s = some (tokV R.next.2, upR s r (rdO R.next.1)) := by
  have hr := get_lt hs
  refine call_out (F := af208) rfl rfl ?_
  have h1 := fun X => rend_spec (s := ⟨s.obs ++ X, s.bufs⟩) (rd_app hs X)
  have h2 := fun X => rform_spec (s := ⟨s.obs ++ X, s.bufs⟩) (rd_app hs X)
  simp only [upR, rd_set hs] at h2
  by_cases ho : R.over = true
  · have hn : R.next = (R.form, ⟨0, [], 0⟩) := by unfold Lrd.next; rw [if_pos ho]
    have hf := rd_fin hs R.form [.cells 195 [.int .i64 0, .str [], .int .i64 0]] (v := tokV ⟨0, [], 0⟩) rfl
    rw [hn]
    have hg : ∀ o X, (s.obs.set r o ++ X)[s.obs.length]? = X[0]? := fun o X => by
      rw [List.getElem?_append_right (by simp)]; simp
    have hst : ∀ o a b, (s.obs.set r o ++ [a]).set s.obs.length b = s.obs.set r o ++ [b] := fun o a b => by
      rw [List.set_append_right _ _ (by simp)]; simp
    simp [af208, af208b, h1, h2, ho, fillL, putL, evStore, V.one, hg, hst]
    simp only [tokV] at hf
    rw [hf]
    rfl
  · have ho' : R.over = false := by simpa using ho
    have hn : R.next = (R.tl, R.hd) := by unfold Lrd.next; rw [if_neg ho]
    rw [hn]
    obtain ⟨L, n, e, a⟩ := R
    cases L with
    | nil => rw [over_nil] at ho'; cases ho'
    | cons t L =>
      obtain ⟨k, x, p⟩ := t
      have e1 : tokVs (⟨k, x, p⟩ :: L) = .agg [.int .i64 k, .str x, .int .i64 p] :: tokVs L := rfl
      have hf := rd_fin hs (Lrd.tl ⟨⟨k, x, p⟩ :: L, n, e, a⟩) [.cells 195 [.int .i64 k, .str x, .int .i64 p], .cells 195 [.int .i64 k, .str x, .int .i64 p]] (v := tokV ⟨k, x, p⟩) rfl
      have hx := fun X => rd_app hs X
      have hset := fun o X => rd_set hs o X
      simp only [rdO] at hx
      rw [e1] at hx
      have hft := fits_toks (⟨k, x, p⟩ :: L)
      rw [e1] at hft
      simp [af208, af208b, h1, ho', ↓hx, hset, fillL, putL, evStore, V.one, evSlc, bnd, hft, getS0, getS1, setS0, setS1]
      simp only [rdO, tokV, Lrd.tl, Lrd.hd, List.drop_succ_cons, List.drop_zero] at hf ⊢
      rw [hf]
      rfl
end

end Go.Proofs.YtboejpobmpfifaaGreatDoor.Eng

/-
  The reader of tokens: signs, names; types. No condition.
-/
namespace Go.Proofs.YtboejpobmpfifaaGreatDoor.Eng
open Go
set_option linter.unusedSimpArgs false
set_option linter.unusedVariables false

attribute [local simp] evC_condT evC_condF evC_reg evC_regD evR_cons evR_nil runR_some regK_some evC_ret evC_skip evC_exit Out_seq Out_blk Out_some seqQ_norm seqQ_ret seqQ_exit blkQ_norm blkQ_ret blkQ_exit loopQ_norm loopQ_ret loopQ_exit
attribute [local simp] stepR evOp put upd_apply X.ev initEnv cells_agg cells_int cells_str cells_bool cells_sl cells_ptr cells_pnil cells_fn cells_map takeN evBin isSh intBin strBin callK resOf packR V.plain plainL V.und undL scK kill dstsO dstsL dstsR ite_some ite_pair ite_vbool evUn evLoad evLen V.real finLoop_false quietK_false kill_none
section
variable {s : St} {r : Nat} {R : Lrd}

theorem ris_spec (hs : s.obs[r]? = some (rdO R)) (x : List UInt8) : call G 128 [.ptr r 0, .str x] s = some (.bool (R.is x), s) := by
  have h1 := rkind_spec hs
  refine call_out (F := af128) rfl rfl ?_
  by_cases hk : R.kind = 1 ∨ R.kind = 2
  · have ho : R.over = false := by
      cases h : R.over with
      | false => rfl
      | true => rw [kind_over h] at hk; omega
    obtain ⟨L, n, e, a⟩ := R
    cases L with
    | nil => rw [over_nil] at ho; cases ho
    | cons t L =>
      obtain ⟨k, y, p⟩ := t
      have e1 : tokVs (⟨k, y, p⟩ :: L) = .agg [.int .i64 k, .str y, .int .i64 p] :: tokVs L := rfl
      simp only [rdO] at hs
      rw [e1] at hs
      have hk' : Lrd.kind ⟨⟨k, y, p⟩ :: L, n, e, a⟩ = k := by simp [Lrd.kind, ho]
      rw [hk'] at hk h1
      rcases hk with rfl | rfl
      · simp [af128, af128b, h1, hs]
        rw [fin_id _ (v := .bool _) rfl]
        simp [Lrd.is, hk', Lrd.hd]
        congr
      · simp [af128, af128b, h1, hs]
        rw [fin_id _ (v := .bool _) rfl]
        simp [Lrd.is, hk', Lrd.hd]
        congr
  · have k1 : (R.kind = 1) = False := eq_false fun h => hk (.inl h)
    have k2 : (R.kind = 2) = False := eq_false fun h => hk (.inr h)
    simp [af128, af128b, h1, k1, k2]
    rw [fin_id _ (v := .bool _) rfl]
    simp [Lrd.is, k1, k2]

theorem next_of_is {x : List UInt8} (h : R.is x = true) : R.next.1 = R.tl := by
  have ho : R.over = false := by
    cases h1 : R.over with
    | false => rfl
    | true => rw [is_over h1] at h; cases h
  simp [Lrd.next, ho]

theorem rtake_spec (hs : s.obs[r]? = some (rdO R)) (x : List UInt8) : call G 129 [.ptr r 0, .str x] s = some (.bool (R.is x), upR s r (rdO (R.take x))) := by
  have h1 := ris_spec hs x
  have h2 := rdnext_spec hs
  refine call_out (F := af129) rfl rfl ?_
  by_cases h : R.is x = true
  · rw [next_of_is h] at h2
    have hf := rd_fin1 hs R.tl (v := .bool true) rfl
    simp only [upR] at h2 hf
    simp [af129, af129b, h1, h, h2]
    rw [hf]
    simp [Lrd.take, h, upR]
  · have h' : R.is x = false := by simpa using h
    simp [af129, af129b, h1, h']
    rw [fin_id _ (v := .bool _) rfl]
    simp [Lrd.take, h', rd_up hs]

theorem rmust_spec (hs : s.obs[r]? = some (rdO R)) (x : List UInt8) : call G 130 [.ptr r 0, .str x] s = some (.tup [], upR s r (rdO (R.must x))) := by
  have h1 := rtake_spec hs x
  refine call_out (F := af130) rfl rfl ?_
  by_cases h : R.is x = true
  · have hf := rd_fin1 hs R.tl (v := .tup []) rfl
    simp only [upR, Lrd.take, h, if_true] at h1 hf
    simp [af130, af130b, h1]
    rw [hf]
    simp [Lrd.must, h, upR]
  · have h' : R.is x = false := by simpa using h
    have h2 := rform_spec hs
    have hup := rd_up hs
    have hf := rd_fin1 hs R.form (v := .tup []) rfl
    simp only [Lrd.take, h', Bool.false_eq_true, if_false, hup] at h1
    simp only [upR] at h2 hf
    simp [af130, af130b, h1, h2]
    rw [hf]
    simp [Lrd.must, h', upR]

theorem kind2_next (h : R.kind = 2) : R.next = (R.tl, R.hd) := by
  have ho : R.over = false := by
    cases h1 : R.over with
    | false => rfl
    | true => rw [kind_over h1] at h; omega
  simp [Lrd.next, ho]

theorem rname_spec (hs : s.obs[r]? = some (rdO R)) : call G 131 [.ptr r 0] s = some (.str R.name.2, upR s r (rdO R.name.1)) := by
  have h1 := rkind_spec hs
  refine call_out (F := af131) rfl rfl ?_
  by_cases h : R.kind = 2
  · have h2 := rdnext_spec hs
    rw [kind2_next h] at h2
    have hf := rd_fin1 hs R.tl (v := .str R.hd.s) rfl
    simp only [upR, tokV] at h2 hf
    simp [af131, af131b, h1, h, h2]
    rw [hf]
    simp [Lrd.name, h, upR]
  · have h' : (R.kind = 2) = False := eq_false h
    have h2 := rform_spec hs
    have hf := rd_fin1 hs R.form (v := .str []) rfl
    simp only [upR] at h2 hf
    simp [af131, af131b, h1, h', h2]
    rw [hf]
    simp [Lrd.name, h', upR]
end

/-! ### The same, where other things stand behind -/
section
variable {s : St} {r : Nat}
theorem SXs (hr : r < s.obs.length) (R R' : Lrd) (X : List AObj) : upR (⟨s.obs.set r (rdO R) ++ X, s.bufs⟩ : St) r (rdO R') = ⟨s.obs.set r (rdO R') ++ X, s.bufs⟩ := by
  simp only [upR, setSr hr]
theorem SX_fin (hr : r < s.obs.length) (R R' : Lrd) (X : List AObj) {v : V} (hv : v.plain.und s.obs.length 0 = true) :
    fin false (⟨s.obs.set r (rdO R), s.bufs⟩ : St) ⟨s.obs.set r (rdO R') ++ X, s.bufs⟩ v = (v.plain, ⟨s.obs.set r (rdO R'), s.bufs⟩) := by
  have := rd_fin (s := ⟨s.obs.set r (rdO R), s.bufs⟩) (r := r) (R := R) (by simp only; rw [List.getElem?_set_self hr]) R' X (v := v) (by simpa using hv)
  simpa only [upR, List.set_set] using this
theorem at_SX (hr : r < s.obs.length) (R : Lrd) (X : List AObj) : call G 54 [.ptr r 0] ⟨s.obs.set r (rdO R) ++ X, s.bufs⟩ = some (.int .i64 R.at_, ⟨s.obs.set r (rdO R) ++ X, s.bufs⟩) := rat_spec (getSr hr _ _)
theorem end_SX (hr : r < s.obs.length) (R : Lrd) (X : List AObj) : call G 56 [.ptr r 0] ⟨s.obs.set r (rdO R) ++ X, s.bufs⟩ = some (.bool R.over, ⟨s.obs.set r (rdO R) ++ X, s.bufs⟩) := rend_spec (getSr hr _ _)
theorem is_SX (hr : r < s.obs.length) (R : Lrd) (X : List AObj) (x : List UInt8) : call G 128 [.ptr r 0, .str x] ⟨s.obs.set r (rdO R) ++ X, s.bufs⟩ = some (.bool (R.is x), ⟨s.obs.set r (rdO R) ++ X, s.bufs⟩) := ris_spec (getSr hr _ _) x
theorem fail_SX (hr : r < s.obs.length) (R : Lrd) (X : List AObj) (p e : Int) : call G 135 [.ptr r 0, .int .i64 p, .int .i64 e] ⟨s.obs.set r (rdO R) ++ X, s.bufs⟩ = some (.tup [], ⟨s.obs.set r (rdO (R.fail p e)) ++ X, s.bufs⟩) := by
  rw [rfail_spec (getSr hr _ _) p e, SXs hr]
theorem form_SX (hr : r < s.obs.length) (R : Lrd) (X : List AObj) : call G 202 [.ptr r 0] ⟨s.obs.set r (rdO R) ++ X, s.bufs⟩ = some (.tup [], ⟨s.obs.set r (rdO R.form) ++ X, s.bufs⟩) := by
  rw [rform_spec (getSr hr _ _), SXs hr]
theorem take_SX (hr : r < s.obs.length) (R : Lrd) (X : List AObj) (x : List UInt8) : call G 129 [.ptr r 0, .str x] ⟨s.obs.set r (rdO R) ++ X, s.bufs⟩ = some (.bool (R.is x), ⟨s.obs.set r (rdO (R.take x)) ++ X, s.bufs⟩) := by
  rw [rtake_spec (getSr hr _ _) x, SXs hr]
theorem must_SX (hr : r < s.obs.length) (R : Lrd) (X : List AObj) (x : List UInt8) : call G 130 [.ptr r 0, .str x] ⟨s.obs.set r (rdO R) ++ X, s.bufs⟩ = some (.tup [], ⟨s.obs.set r (rdO (R.must x)) ++ X, s.bufs⟩) := by
  rw [rmust_spec (getSr hr _ _) x, SXs hr]
theorem name_SX (hr : r < s.obs.length) (R : Lrd) (X : List AObj) : call G 131 [.ptr r 0] ⟨s.obs.set r (rdO R) ++ X, s.bufs⟩ = some (.str R.name.2, ⟨s.obs.set r (rdO R.name.1) ++ X, s.bufs⟩) := by
  rw [rname_spec (getSr hr _ _), SXs hr]
end

/-! ### Types -/
def Lrd.bang (q : Lrd × List UInt8 × List UInt8) : Lrd × List UInt8 × List UInt8 := if q.1.is [33] = true then (q.1.tl, q.2.1, q.2.2 ++ [33]) else q
def Lrd.typ : Nat → Lrd → Lrd × List UInt8 × List UInt8
  | 0, R => if R.is [91] = true then (R.fail R.at_ 5, [], []) else Lrd.bang (R.name.1, R.name.2, [])
  | n + 1, R => if R.is [91] = true then Lrd.bang (((Lrd.typ n R.tl).1.must [93]), (Lrd.typ n R.tl).2.1, (Lrd.typ n R.tl).2.2 ++ [91]) else Lrd.bang (R.name.1, R.name.2, [])
theorem bang_len (q : Lrd × List UInt8 × List UInt8) : (Lrd.bang q).2.2.length ≤ q.2.2.length + 1 := by
  unfold Lrd.bang
  split <;> simp
theorem typ_len : ∀ (n : Nat) (R : Lrd), (Lrd.typ n R).2.2.length ≤ 2 * n + 1
  | 0, R => by
    rw [Lrd.typ]
    split
    · simp
    · exact bang_len _
  | n + 1, R => by
    have ih := typ_len n R.tl
    rw [Lrd.typ]
    split
    · have := bang_len (((Lrd.typ n R.tl).1.must [93]), (Lrd.typ n R.tl).2.1, (Lrd.typ n R.tl).2.2 ++ [91])
      simp only [List.length_append, List.length_cons, List.length_nil] at this
      omega
    · have := bang_len (R.name.1, R.name.2, [])
      simp only [List.length_nil] at this
      omega

def tyV (x w : List UInt8) : V := .agg [.str x, .str w]
set_option maxHeartbeats 2000000 in
theorem typ_spec : ∀ (n : Nat), n ≤ 1000 → ∀ (s : St) (r : Nat) (R : Lrd), s.obs[r]? = some (rdO R) →
    call G 201 [.ptr r 0, .int .i64 n] s = some (tyV (Lrd.typ n R).2.1 (Lrd.typ n R).2.2, upR s r (rdO (Lrd.typ n R).1)) := by
  have e64 : i64max = 9223372036854775807 := rfl
  -- what stands behind a type's middle
  have bangE : ∀ q : Lrd × List UInt8 × List UInt8, q.1.is [33] = true → Lrd.bang q = (q.1.tl, q.2.1, q.2.2 ++ [33]) := fun q h => by unfold Lrd.bang; rw [if_pos h]
  have bangN : ∀ q : Lrd × List UInt8 × List UInt8, q.1.is [33] = false → Lrd.bang q = q := fun q h => by unfold Lrd.bang; rw [if_neg (by simp [h])]
  intro n
  induction n with
  | zero =>
    intro hn s r R hs
    have hr := get_lt hs
    have hup := rd_up hs
    rw [← hup]
    simp only [upR, List.set_set]
    refine call_out (F := af201) rfl rfl ?_
    have h1 := is_SX (s := s) hr R
    have h2 := at_SX (s := s) hr R
    have h3 := fail_SX (s := s) hr R
    have h4 := name_SX (s := s) hr R
    have h5 := take_SX (s := s) hr
    have hfin := fun R' X x w => SX_fin (s := s) hr R R' X (v := .agg [.str x, .str w]) rfl
    by_cases h : R.is [91] = true
    · simp [af201, af201b, h1, h2, h3, h, fillL, putL, evStore, V.one, getS0, getS1, setS0, setS1, hfin]
      simp [Lrd.typ, h, tyV]
    · have h' : R.is [91] = false := by simpa using h
      have ht : R.take [91] = R := by simp [Lrd.take, h']
      have hty : Lrd.typ 0 R = Lrd.bang (R.name.1, R.name.2, []) := by rw [Lrd.typ, if_neg h]
      rw [hty]
      generalize hN : R.name = N at *
      obtain ⟨R1, x⟩ := N
      simp only at h4
      by_cases hb : R1.is [33] = true
      · have ht1 : R1.take [33] = R1.tl := by simp [Lrd.take, hb]
        rw [bangE _ hb]
        simp [af201, af201b, h1, h4, h5, ht, h', hb, ht1, fillL, putL, evStore, V.one, getS0, getS1, setS0, setS1, hfin, e64]
        rfl
      · have hb' : R1.is [33] = false := by simpa using hb
        have ht1 : R1.take [33] = R1 := by simp [Lrd.take, hb']
        rw [bangN _ hb']
        simp [af201, af201b, h1, h4, h5, ht, h', hb', ht1, fillL, putL, evStore, V.one, getS0, getS1, setS0, setS1, hfin, e64]
        rfl
  | succ n ih =>
    intro hn s r R hs
    have hr := get_lt hs
    have hup := rd_up hs
    rw [← hup]
    simp only [upR, List.set_set]
    refine call_out (F := af201) rfl rfl ?_
    have h1 := is_SX (s := s) hr R
    have h4 := name_SX (s := s) hr R
    have h5 := take_SX (s := s) hr
    have h6 := must_SX (s := s) hr
    have hfin := fun R' X x w => SX_fin (s := s) hr R R' X (v := .agg [.str x, .str w]) rfl
    by_cases h : R.is [91] = true
    · have ht : R.take [91] = R.tl := by simp [Lrd.take, h]
      have hlt : ¬ (n : Int) + 1 < 1 := by omega
      have hw : IntKind.i64.wrap (n : Int) = (n : Int) := wrap_in (by omega) (by omega)
      have hty : Lrd.typ (n + 1) R = Lrd.bang (((Lrd.typ n R.tl).1.must [93]), (Lrd.typ n R.tl).2.1, (Lrd.typ n R.tl).2.2 ++ [91]) := by rw [Lrd.typ, if_pos h]
      have hl := typ_len n R.tl
      have hgo : ∀ X, call G 201 [.ptr r 0, .int .i64 n] ⟨s.obs.set r (rdO R.tl) ++ X, s.bufs⟩ = some (.agg [.str (Lrd.typ n R.tl).2.1, .str (Lrd.typ n R.tl).2.2], ⟨s.obs.set r (rdO (Lrd.typ n R.tl).1) ++ X, s.bufs⟩) := by
        intro X
        have := ih (by omega) ⟨s.obs.set r (rdO R.tl) ++ X, s.bufs⟩ r R.tl (getSr hr _ _)
        rw [SXs hr] at this
        exact this
      rw [hty]
      generalize Lrd.typ n R.tl = q at *
      obtain ⟨R1, x, w⟩ := q
      simp only at hgo hl
      have hl1 : (w.length : Int) + 1 ≤ 9223372036854775807 := by omega
      have hl2 : (w.length : Int) + 1 + 1 ≤ 9223372036854775807 := by omega
      by_cases hb : (R1.must [93]).is [33] = true
      · have ht1 : (R1.must [93]).take [33] = (R1.must [93]).tl := by simp [Lrd.take, hb]
        rw [bangE _ hb]
        simp [af201, af201b, h1, h5, h6, ht, h, hlt, hw, hgo, hb, ht1, fillL, putL, evStore, V.one, getS0, getS1, setS0, setS1, hfin, e64, hl1, hl2]
        rfl
      · have hb' : (R1.must [93]).is [33] = false := by simpa using hb
        have ht1 : (R1.must [93]).take [33] = R1.must [93] := by simp [Lrd.take, hb']
        rw [bangN _ hb']
        simp [af201, af201b, h1, h5, h6, ht, h, hlt, hw, hgo, hb', ht1, fillL, putL, evStore, V.one, getS0, getS1, setS0, setS1, hfin, e64, hl1, hl2]
        rfl
    · have h' : R.is [91] = false := by simpa using h
      have ht : R.take [91] = R := by simp [Lrd.take, h']
      have hty : Lrd.typ (n + 1) R = Lrd.bang (R.name.1, R.name.2, []) := by rw [Lrd.typ, if_neg h]
      rw [hty]
      generalize hN : R.name = N at *
      obtain ⟨R1, x⟩ := N
      simp only at h4
      by_cases hb : R1.is [33] = true
      · have ht1 : R1.take [33] = R1.tl := by simp [Lrd.take, hb]
        rw [bangE _ hb]
        simp [af201, af201b, h1, h4, h5, ht, h', hb, ht1, fillL, putL, evStore, V.one, getS0, getS1, setS0, setS1, hfin, e64]
        rfl
      · have hb' : R1.is [33] = false := by simpa using hb
        have ht1 : R1.take [33] = R1 := by simp [Lrd.take, hb']
        rw [bangN _ hb']
        simp [af201, af201b, h1, h4, h5, ht, h', hb', ht1, fillL, putL, evStore, V.one, getS0, getS1, setS0, setS1, hfin, e64]
        rfl

end Go.Proofs.YtboejpobmpfifaaGreatDoor.Eng

/-
  A text, read as a type: the program's. No condition.
-/
namespace Go.Proofs.YtboejpobmpfifaaGreatDoor.Eng
open Go
set_option linter.unusedSimpArgs false
set_option linter.unusedVariables false

attribute [local simp] evC_condT evC_condF evC_reg evC_regD evR_cons evR_nil runR_some regK_some evC_ret evC_skip evC_exit Out_seq Out_blk Out_some seqQ_norm seqQ_ret seqQ_exit blkQ_norm blkQ_ret blkQ_exit loopQ_norm loopQ_ret loopQ_exit
attribute [local simp] stepR evOp put upd_apply X.ev initEnv cells_agg cells_int cells_str cells_bool cells_sl cells_ptr cells_pnil cells_fn cells_map takeN evBin isSh intBin strBin callK resOf packR V.plain plainL V.und undL scK kill dstsO dstsL dstsR ite_some ite_pair ite_vbool evUn evLoad evLen V.real finLoop_false quietK_false kill_none
/-- The reader of a text. -/
def rd0 (b : List UInt8) : Lrd := ⟨(lexP b).1, b.length, (lexP b).2.1, (lexP b).2.2⟩
def fzT (q : Lrd × List UInt8 × List UInt8) : Lrd × List UInt8 × List UInt8 := if q.1.e = 0 then q else (q.1, [], [])
def Lrd.ty (R : Lrd) : Lrd × List UInt8 × List UInt8 := fzT (Lrd.typ 4 R)
def Lrd.whole (R : Lrd) : Lrd := if R.over = true then R else R.form
/-- A text, read as a type. -/
def PT (b : List UInt8) : List UInt8 × List UInt8 × Int × Int :=
  if (rd0 b).ty.1.whole.e = 0 then ((rd0 b).ty.2.1, (rd0 b).ty.2.2, 0, 0) else ([], [], (rd0 b).ty.1.whole.e, (rd0 b).ty.1.whole.a)

theorem newR_spec (b : List UInt8) (hb : b.length ≤ 9223372036854775807) (s : St) :
    call G 50 [.str b] s = some (.ptr (s.obs.length + 1) 0, ⟨s.obs ++ [.cells 29 [.int .i64 (lexP b).2.1, .int .i64 (lexP b).2.2], rdO (rd0 b)], s.bufs⟩) := by
  have hlx := lex_spec b hb
  have hpl := tokVs_plain (lexP b).1
  refine call_out (F := af50) rfl rfl ?_
  have hr : rdO (rd0 b) = .cells 185 [.sl .no (tokVs (lexP b).1), .int .i64 b.length, .int .i64 (lexP b).2.1, .int .i64 (lexP b).2.2] := rfl
  rw [hr]
  generalize (lexP b).1 = L at *
  generalize (lexP b).2.1 = e at *
  generalize (lexP b).2.2 = a at *
  simp [af50, af50b, hlx, hpl, fillL, putL, evStore, V.one]
  rfl

section
variable {s : St} {r : Nat} {R : Lrd}
theorem type_spec (hs : s.obs[r]? = some (rdO R)) : call G 124 [.ptr r 0] s = some (tyV R.ty.2.1 R.ty.2.2, upR s r (rdO R.ty.1)) := by
  have hr := get_lt hs
  have hup := rd_up hs
  rw [← hup]
  simp only [upR, List.set_set]
  refine call_out (F := af124) rfl rfl ?_
  have hgo : ∀ X, call G 201 [.ptr r 0, .int .i64 4] ⟨s.obs.set r (rdO R) ++ X, s.bufs⟩ = some (.agg [.str (Lrd.typ 4 R).2.1, .str (Lrd.typ 4 R).2.2], ⟨s.obs.set r (rdO (Lrd.typ 4 R).1) ++ X, s.bufs⟩) := by
    intro X
    have := typ_spec 4 (by omega) ⟨s.obs.set r (rdO R) ++ X, s.bufs⟩ r R (getSr hr _ _)
    rw [SXs hr] at this
    exact this
  have hfin := fun R' X x w => SX_fin (s := s) hr R R' X (v := .agg [.str x, .str w]) rfl
  have hq : R.ty = fzT (Lrd.typ 4 R) := rfl
  rw [hq]
  generalize Lrd.typ 4 R = q at *
  obtain ⟨⟨L, n, e, a⟩, x, w⟩ := q
  have hg := fun X => getSr (s := s) hr (rdO ⟨L, n, e, a⟩) X
  simp only [rdO] at hgo hg hfin ⊢
  by_cases he : e = 0
  · subst he
    have hz : fzT (⟨L, n, 0, a⟩, x, w) = (⟨L, n, 0, a⟩, x, w) := rfl
    have hf := hfin ⟨L, n, 0, a⟩
    simp only at hf
    rw [hz]
    simp [af124, af124b, hgo, ↓hg, fillL, putL, evStore, V.one, getS0, getS1, setS0, setS1, hf]
    rfl
  · have he' : (e = 0) = False := eq_false he
    have hz : fzT (⟨L, n, e, a⟩, x, w) = (⟨L, n, e, a⟩, [], []) := by unfold fzT; rw [if_neg he]
    have hf := hfin ⟨L, n, e, a⟩
    simp only at hf
    rw [hz]
    simp [af124, af124b, hgo, ↓hg, he', fillL, putL, evStore, V.one, getS0, getS1, setS0, setS1, hf]
    rfl

theorem whole_spec (hs : s.obs[r]? = some (rdO R)) : call G 125 [.ptr r 0] s = some (.agg [.int .i64 R.whole.e, .int .i64 R.whole.a], upR s r (rdO R.whole)) := by
  have hr := get_lt hs
  have hup := rd_up hs
  rw [← hup]
  simp only [upR, List.set_set]
  refine call_out (F := af125) rfl rfl ?_
  have h1 := end_SX (s := s) hr R
  have h2 := form_SX (s := s) hr R
  by_cases ho : R.over = true
  · have hw : R.whole = R := by unfold Lrd.whole; rw [if_pos ho]
    rw [hw]
    have hg := fun X => getSr (s := s) hr (rdO R) X
    have hf := fun X => SX_fin (s := s) hr R R X (v := .agg [.int .i64 R.e, .int .i64 R.a]) rfl
    obtain ⟨L, n, e, a⟩ := R
    simp only [rdO] at hg h1 hf ⊢
    simp [af125, af125b, h1, ho, ↓hg, fillL, putL, evStore, V.one, getS0, setS0, hf]
  · have ho' : R.over = false := by simpa using ho
    have hw : R.whole = R.form := by unfold Lrd.whole; rw [if_neg ho]
    rw [hw]
    have hf := fun X => SX_fin (s := s) hr R R.form X (v := .agg [.int .i64 R.form.e, .int .i64 R.form.a]) rfl
    have hg := fun X => getSr (s := s) hr (rdO R.form) X
    generalize R.form = R1 at *
    obtain ⟨L1, n1, e1, a1⟩ := R1
    simp only [rdO] at hg h1 h2 hf ⊢
    simp [af125, af125b, h1, h2, ho', ↓hg, fillL, putL, evStore, V.one, getS0, setS0, hf]
end

theorem pt_spec (b : List UInt8) (hb : b.length ≤ 9223372036854775807) (s : St) : call G 48 [.str b] s = some (.tup [tyV (PT b).1 (PT b).2.1, .agg [.int .i64 (PT b).2.2.1, .int .i64 (PT b).2.2.2]], s) := by
  refine call_out (F := af48) rfl rfl ?_
  have h1 : ∀ X, call G 50 [.str b] ⟨s.obs ++ X, s.bufs⟩ = some (.ptr (s.obs.length + X.length + 1) 0, ⟨s.obs ++ (X ++ [.cells 29 [.int .i64 (lexP b).2.1, .int .i64 (lexP b).2.2], rdO (rd0 b)]), s.bufs⟩) := by
    intro X
    have := newR_spec b hb ⟨s.obs ++ X, s.bufs⟩
    simp only [List.length_append, List.append_assoc] at this
    exact this
  have g3 : ∀ (a c d o : AObj) (X : List AObj), (s.obs ++ a :: c :: d :: o :: X)[s.obs.length + 3]? = some o := fun a c d o X => by
    rw [List.getElem?_append_right (by omega)]; simp
  have t3 : ∀ (a c d o o' : AObj) (X : List AObj), (s.obs ++ a :: c :: d :: o :: X).set (s.obs.length + 3) o' = s.obs ++ a :: c :: d :: o' :: X := fun a c d o o' X => by
    rw [List.set_append_right _ _ (by omega)]; simp
  have h2 : ∀ (a c d : AObj) (X : List AObj) (R : Lrd), call G 124 [.ptr (s.obs.length + 3) 0] ⟨s.obs ++ a :: c :: d :: rdO R :: X, s.bufs⟩ = some (tyV R.ty.2.1 R.ty.2.2, ⟨s.obs ++ a :: c :: d :: rdO R.ty.1 :: X, s.bufs⟩) := by
    intro a c d X R
    have := type_spec (s := ⟨s.obs ++ a :: c :: d :: rdO R :: X, s.bufs⟩) (g3 a c d (rdO R) X)
    simp only [upR, t3] at this
    exact this
  have h3 : ∀ (a c d : AObj) (X : List AObj) (R : Lrd), call G 125 [.ptr (s.obs.length + 3) 0] ⟨s.obs ++ a :: c :: d :: rdO R :: X, s.bufs⟩ = some (.agg [.int .i64 R.whole.e, .int .i64 R.whole.a], ⟨s.obs ++ a :: c :: d :: rdO R.whole :: X, s.bufs⟩) := by
    intro a c d X R
    have := whole_spec (s := ⟨s.obs ++ a :: c :: d :: rdO R :: X, s.bufs⟩) (g3 a c d (rdO R) X)
    simp only [upR, t3] at this
    exact this
  simp only [tyV] at h2
  unfold PT
  generalize (rd0 b) = R0 at *
  generalize hq : R0.ty = q at *
  obtain ⟨R1, x, w⟩ := q
  have h2' := fun a c d X => h2 a c d X R0
  simp only [hq] at h2'
  have h3' := fun a c d X => h3 a c d X R1
  generalize R1.whole = R2 at *
  by_cases he : R2.e = 0
  · rw [if_pos he]
    simp [af48, af48b, h1, h2', h3', he, fillL, putL, evStore, V.one]
    rw [fin_s0 _ _ _ (by rfl)]
    rfl
  · rw [if_neg he]
    have he' : (R2.e = 0) = False := eq_false he
    simp [af48, af48b, h1, h2', h3', he', fillL, putL, evStore, V.one, evC_regDA, regKA_some, aparts_nil, aparts_lt, tells_nil, tells_skip, apart]
    rw [fin_s0 _ _ _ (by rfl)]
    rfl

end Go.Proofs.YtboejpobmpfifaaGreatDoor.Eng

/-
  The reference's reader of tokens: what its small functions do. No condition.
-/
namespace Go.Proofs.YtboejpobmpfifaaGreatDoor.Eng
open Go
set_option linter.unusedSimpArgs false
set_option linter.unusedVariables false

attribute [local simp] evC_condT evC_condF evC_reg evC_regD evR_cons evR_nil runR_some regK_some evC_ret evC_skip evC_exit Out_seq Out_blk Out_some seqQ_norm seqQ_ret seqQ_exit blkQ_norm blkQ_ret blkQ_exit loopQ_norm loopQ_ret loopQ_exit
attribute [local simp] stepR evOp put upd_apply X.ev initEnv cells_agg cells_int cells_str cells_bool cells_sl cells_ptr cells_pnil cells_fn cells_map takeN evBin isSh intBin strBin callK resOf packR V.plain plainL V.und undL scK kill dstsO dstsL dstsR ite_some ite_pair ite_vbool evUn evLoad evLen V.real finLoop_false quietK_false kill_none
/-- The reference's reader: all tokens, which one is next, the text's length, what it failed with, and where. -/
structure Rrd where
  L : List Tok
  k : Nat
  n : Int
  e : Int
  a : Int
def Rrd.rs (q : Rrd) : Lrd := ⟨q.L.drop q.k, q.n, q.e, q.a⟩
def Rrd.ok (q : Rrd) : Prop := (∀ t ∈ q.L, 1 ≤ t.k) ∧ q.k ≤ q.L.length ∧ q.L.length ≤ 1000000000
def Rrd.fail (q : Rrd) (p e : Int) : Rrd := if q.e = 0 ∧ e ≠ 0 then ⟨q.L, q.k, q.n, e, p⟩ else q
def Rrd.form (q : Rrd) : Rrd := q.fail q.rs.at_ 4
def Rrd.inc (q : Rrd) : Rrd := ⟨q.L, q.k + 1, q.n, q.e, q.a⟩
def Rrd.must (q : Rrd) (x : List UInt8) : Rrd := if q.rs.is x = true then q.inc else q.form
def Rrd.name (q : Rrd) : Rrd × List UInt8 := if q.rs.kind = 2 then (q.inc, q.rs.hd.s) else (q.form, [])

section
variable {q : Rrd}
end

end Go.Proofs.YtboejpobmpfifaaGreatDoor.Eng

/-
  The reference's reader of tokens: signs, names. No condition.
-/
namespace Go.Proofs.YtboejpobmpfifaaGreatDoor.Eng
open Go
set_option linter.unusedSimpArgs false
set_option linter.unusedVariables false

attribute [local simp] evC_condT evC_condF evC_reg evC_regD evR_cons evR_nil runR_some regK_some evC_ret evC_skip evC_exit Out_seq Out_blk Out_some seqQ_norm seqQ_ret seqQ_exit blkQ_norm blkQ_ret blkQ_exit loopQ_norm loopQ_ret loopQ_exit
attribute [local simp] stepR evOp put upd_apply X.ev initEnv cells_agg cells_int cells_str cells_bool cells_sl cells_ptr cells_pnil cells_fn cells_map takeN evBin isSh intBin strBin callK resOf packR V.plain plainL V.und undL scK kill dstsO dstsL dstsR ite_some ite_pair ite_vbool evUn evLoad evLen V.real finLoop_false quietK_false kill_none
section
variable {q : Rrd}
end

end Go.Proofs.YtboejpobmpfifaaGreatDoor.Eng

/-
  The reference's reader of a text; types. No condition.
-/
namespace Go.Proofs.YtboejpobmpfifaaGreatDoor.Eng
open Go
set_option linter.unusedSimpArgs false
set_option linter.unusedVariables false

attribute [local simp] evC_condT evC_condF evC_reg evC_regD evR_cons evR_nil runR_some regK_some evC_ret evC_skip evC_exit Out_seq Out_blk Out_some seqQ_norm seqQ_ret seqQ_exit blkQ_norm blkQ_ret blkQ_exit loopQ_norm loopQ_ret loopQ_exit
attribute [local simp] stepR evOp put upd_apply X.ev initEnv cells_agg cells_int cells_str cells_bool cells_sl cells_ptr cells_pnil cells_fn cells_map takeN evBin isSh intBin strBin callK resOf packR V.plain plainL V.und undL scK kill dstsO dstsL dstsR ite_some ite_pair ite_vbool evUn evLoad evLen V.real finLoop_false quietK_false kill_none
/-! ### Types -/
def fzR (p : Rrd × List UInt8 × List UInt8) : Rrd × List UInt8 × List UInt8 := if p.1.e = 0 then p else (p.1, [], [])
def Rrd.bang (p : Rrd × List UInt8 × List UInt8) : Rrd × List UInt8 × List UInt8 := if p.1.rs.is [33] = true then (p.1.inc, p.2.1, p.2.2 ++ [33]) else p
def Rrd.typ : Nat → Rrd → Rrd × List UInt8 × List UInt8
  | 0, q => if q.rs.is [91] = true then (q.fail q.rs.at_ 5, [], []) else fzR (Rrd.bang (q.name.1, q.name.2, []))
  | n + 1, q => if q.rs.is [91] = true then fzR (Rrd.bang (((Rrd.typ n q.inc).1.must [93]), (Rrd.typ n q.inc).2.1, (Rrd.typ n q.inc).2.2 ++ [91])) else fzR (Rrd.bang (q.name.1, q.name.2, []))

end Go.Proofs.YtboejpobmpfifaaGreatDoor.Eng

/-
  The reference's types. No condition.
-/
namespace Go.Proofs.YtboejpobmpfifaaGreatDoor.Eng
open Go
set_option linter.unusedSimpArgs false
set_option linter.unusedVariables false

attribute [local simp] evC_condT evC_condF evC_reg evC_regD evR_cons evR_nil runR_some regK_some evC_ret evC_skip evC_exit Out_seq Out_blk Out_some seqQ_norm seqQ_ret seqQ_exit blkQ_norm blkQ_ret blkQ_exit loopQ_norm loopQ_ret loopQ_exit
attribute [local simp] stepR evOp put upd_apply X.ev initEnv cells_agg cells_int cells_str cells_bool cells_sl cells_ptr cells_pnil cells_fn cells_map takeN evBin isSh intBin strBin callK resOf packR V.plain plainL V.und undL scK kill dstsO dstsL dstsR ite_some ite_pair ite_vbool evUn evLoad evLen V.real finLoop_false quietK_false kill_none
section
variable {q : Rrd}
end
end Go.Proofs.YtboejpobmpfifaaGreatDoor.Eng

/-
  A text, read as a type: the reference's. No condition.
-/
namespace Go.Proofs.YtboejpobmpfifaaGreatDoor.Eng
open Go
set_option linter.unusedSimpArgs false
set_option linter.unusedVariables false

attribute [local simp] evC_condT evC_condF evC_reg evC_regD evR_cons evR_nil runR_some regK_some evC_ret evC_skip evC_exit Out_seq Out_blk Out_some seqQ_norm seqQ_ret seqQ_exit blkQ_norm blkQ_ret blkQ_exit loopQ_norm loopQ_ret loopQ_exit
attribute [local simp] stepR evOp put upd_apply X.ev initEnv cells_agg cells_int cells_str cells_bool cells_sl cells_ptr cells_pnil cells_fn cells_map takeN evBin isSh intBin strBin callK resOf packR V.plain plainL V.und undL scK kill dstsO dstsL dstsR ite_some ite_pair ite_vbool evUn evLoad evLen V.real finLoop_false quietK_false kill_none
/-! ### Nothing wrong, no place -/
end Go.Proofs.YtboejpobmpfifaaGreatDoor.Eng
